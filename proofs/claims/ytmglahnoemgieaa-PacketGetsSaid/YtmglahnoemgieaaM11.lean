/- A call of packet.Get, by hand: what is the same whatever is deferred; the closure. (And what follows from it, text by text.) -/
import Derived.Test.YtmglahnoemgieaaM4
import Derived.Tactics2
import Derived.Defers
import Derived.Recover
import Derived.Test.YtmglahnoemgieaaM10
namespace Go.Proofs.Ytmglahnoemgieaa.Ax
open Go Go.RowKit
set_option linter.unusedSimpArgs false
set_option linter.unusedVariables false
set_option maxHeartbeats 8000000
set_option maxRecDepth 4000
variable {w0 : World} {t : Option Gf}
theorem wpOps_lift {P : Program} {ops : Array Oper} {D : List Deferred} {J : Array Value → Prop} {Q Q' : Exit → Act → World → Prop} (hno : ∀ a w, ¬ Q .outgrown a w) (hQ : ∀ e a w, Q e a w → J a.tmps → Q' e ⟨a.tmps, a.defers ++ D⟩ w) :
    ∀ (l : List Nat), (∀ (o : Oper) (tm : Array Value) v d, o ∈ ops.toList → o.dst = some d → J tm → J (tm.setIfInBounds d v)) → ∀ a w, J a.tmps → wpOps P ops Q l a w → wpOps P ops Q' l ⟨a.tmps, a.defers ++ D⟩ w
  | [], _, a, w, hJ, h => hQ _ _ _ h hJ
  | i :: l, hp, a, w, hJ, h => by
    have ih := wpOps_lift (P := P) (D := D) hno hQ l hp
    rw [wpOps_cons] at h ⊢
    unfold wpOp at h ⊢
    cases ho : ops[i]? with
    | none => rw [ho] at h; exact ih a w hJ h
    | some o =>
      rw [ho] at h
      have hmem : o ∈ ops.toList := by
        obtain ⟨hi, e⟩ := Array.getElem?_eq_some_iff.1 ho
        rw [← e]
        exact Array.getElem_mem_toList hi
      have hput : ∀ (a : Act) v, J a.tmps → J (a.put o.dst v).tmps := by
        intro a v hj
        cases hd : o.dst with
        | none => exact hj
        | some d => exact hp o a.tmps v d hmem hd hj
      have heq : ∀ (a : Act) v, Act.put ⟨a.tmps, a.defers ++ D⟩ o.dst v = ⟨(a.put o.dst v).tmps, (a.put o.dst v).defers ++ D⟩ := by
        intro a v
        cases o.dst <;> rfl
      simp only at h ⊢
      split
      · rename_i hw
        rw [if_pos hw] at h
        rcases h with h | ⟨_, h⟩
        · refine .inl ?_
          unfold Oper.wp at h ⊢
          have hev : Act.eval ⟨a.tmps, a.defers ++ D⟩ = a.eval := by funext x; cases x <;> rfl
          rw [hev]
          cases hr : (execOp a.eval o).run P w with
          | ok n w' =>
            rw [hr] at h
            cases n with
            | value v =>
              rw [Oper.upon_value] at h ⊢
              rw [heq]
              exact ih _ _ (hput a v hJ) h
            | skip =>
              rw [Oper.upon_skip] at h ⊢
              rw [heq]
              exact ih _ _ (hput a _ hJ) h
            | defer d =>
              rw [Oper.upon_defer] at h ⊢
              have := heq ⟨a.tmps, d :: a.defers⟩ undef
              have e2 : ({ tmps := a.tmps, defers := d :: (a.defers ++ D) } : Act).put o.dst undef = _ := this
              rw [e2]
              exact ih _ _ (hput ⟨a.tmps, d :: a.defers⟩ _ hJ) h
            | enter f args =>
              rw [Oper.upon_enter] at h ⊢
              refine Calls.mono h ?_
              intro e w'' q
              cases e with
              | returned v =>
                simp only at q ⊢
                rw [heq]
                exact ih _ _ (hput a v hJ) q
              | panicked ch => exact hQ _ _ _ q hJ
              | outgrown => obtain ⟨a2, w2, q⟩ := q; exact (hno _ _ q).elim
            | row r args =>
              rw [Oper.upon_row] at h ⊢
              refine Rows.mono h ?_
              intro v w'' q
              rw [heq]
              exact ih _ _ (hput a v hJ) q
            | _ => exact h.elim
          | halt n w' =>
            rw [hr] at h
            cases n with
            | panic v =>
              rw [Oper.upon_panic] at h ⊢
              exact hQ _ _ _ h hJ
            | _ => exact h.elim
        · obtain ⟨a2, w2, q⟩ := h; exact (hno _ _ q).elim
      · rename_i hw
        rw [if_neg hw] at h
        rw [heq]
        exact ih _ _ (hput a _ hJ) h
/-- the region's operations, as the machine takes them -/
theorem region_ops {c : Cfg} (ok : CfgOk c) {f : FuncId} {id : Nat} {ops : Array Oper} {s s' : S} {x : Ex} (e : acodeI c f (.region id ops false) s = some (x, s')) {A M : Mu} {we : World} {a : Act} {w : World} (h : SRel c A we M s a w) :
    ∃ p, x = (match p with | none => Ex.normal | some v => Ex.pan v) ∧ wpOps c.P ops (RegQ c A we p s') (List.range ops.size) a w := by
  rw [I_region] at e
  obtain ⟨p, ds, h1, h2, _⟩ := aregion_run e
  refine ⟨p, h2, ?_⟩
  have := aops_sound (callI_sound ok) (f := f) (ops := ops) ops.toList 0 (by intro j; simp) s _ a w p s' ds h1 h
  rw [List.range_eq_range']
  simpa using this
theorem run_sound {c : Cfg} (ok : CfgOk c) {f : FuncId} {code : Code} {s s' : S} {x : Ex} (e : acodeI c f code s = some (x, s')) (hk : chkCode c f code = true) {A M : Mu} {we : World} {a : Act} {w : World} (h : SRel c A we M s a w) : code.wp c.P (CodeQ c A we x s') a w := by
  obtain ⟨n, hn⟩ := codeI_ex e
  exact (codeN_ok ok n).2.1 _ _ _ _ _ hn hk _ _ _ _ _ h
/-! ### the closure -/
theorem put_fr {M : Mu} {fr : List AV} {a : Act} (h : FRel M fr a) {v : AV} {x : Value} (k : Rv M v x) (d : Nat) : FRel M (putT fr (some d) v) { a with tmps := a.tmps.setIfInBounds d x } := FRel.put h k (some d)
theorem clo_idle (p2 p3 : Value) (w : World) : CallsD Try.prog 39 #[p2, p3] .returning w fun e u' w' => e = .returned (.tuple #[]) ∧ u' = .returning ∧ w' = w := by
  refine callsD_of_wpS Try.func39 rfl fun c₀ cs hu => ?_
  apply wpS_seq
  apply wpS_region
  simp [wpOpsS, go_sem, recoverD, hu, Try.ntmps39, Exit.thenS]
  refine wpS_of_wp (wp_block (wp_seq (wp_region ?_)))
  simp [wpOps, Oper.wp, go_sem, List.range, List.range.loop, Region.wanted, Act.eval]
  refine .inl (wp_cond_true (by simp [Act.eval]) (wp_region ?_))
  simp [wpOps, Oper.wp, go_sem, List.range, List.range.loop, Region.wanted, Act.eval, Exit.inBlock, bodyPostS, results, Try.results39]
  exact .inl (by cases c₀; simp_all)
def sndC : Code → Code
  | .seq _ b => b
  | c => c
def blkC : Code → Code
  | .block _ b => b
  | c => c
def thenC : Code → Code
  | .cond _ a _ => a
  | c => c
def elseC : Code → Code
  | .cond _ _ b => b
  | c => c
/-- what the closure does where it has caught the reader's own panic -/
noncomputable def cloC : Code := thenC (sndC (elseC (sndC (blkC (sndC (Try.f39.body.getD .skip))))))
def cloF (b2 b3 : Nat) : Nat → AV := upd (upd (upd (upd (upd (ini [.ptr b2 0 0, .ptr b3 0 0]) 5 (.ifc 107 (.agg []))) 7 (vB false)) 8 (.tup [.agg [], vB true])) 9 (vB true)) 10 (.agg [])
theorem hta (w : World) : (Instr.typeAssert (.iface 107 (.agg #[])) 20 107 true).run Try.prog w = .ok (.tuple #[.agg #[], .bool true]) w := by
  simp [Instr.typeAssert, go_sem, Try.underlying107]
theorem clo_pan (ok : CfgOk (cfg w0 t)) {h : H} {b2 b3 : Nat} {s' : S} (e : acodeI (cfg w0 t) 39 cloC ⟨fl 12 (cloF b2 b3), [], h, none⟩ = some (.normal, s'))
    {M : Mu} {w : World} (hr : HRel w0 M h w) {p2 p3 : Value} (r2 : Rv M (.ptr b2 0 0) p2) (r3 : Rv M (.ptr b3 0 0) p3) :
    CallsD Try.prog 39 #[p2, p3] (.panicking [{ v := .iface 107 (.agg #[]), recovered := false }]) w fun e u' w' => e = .returned (.tuple #[]) ∧ u' = .panicking [{ v := .iface 107 (.agg #[]), recovered := true }] ∧ ∃ M', HRel w0 M' s'.h w' ∧ Keeps M.bare w M' w' ∧ Ext false M.bare M' := by
  refine callsD_of_wpS Try.func39 rfl fun c₀ cs hu => ?_
  apply wpS_seq
  apply wpS_region
  simp [wpOpsS, go_sem, recoverD, hu, Try.ntmps39, Exit.thenS]
  refine wpS_of_wp (wp_block (wp_seq (wp_region ?_)))
  simp [wpOps, Oper.wp, go_sem, List.range, List.range.loop, Region.wanted, Act.eval]
  refine .inl (wp_cond_false (by simp [Act.eval]) (wp_seq (wp_region ?_)))
  simp [wpOps, Oper.wp, go_sem, List.range, List.range.loop, Region.wanted, Act.eval, hta]
  refine .inl (.inl (.inl (wp_cond_true (by simp [Act.eval]) ?_)))
  have r2' : Rv M.bare (.ptr b2 0 0) p2 := Rv.mono (ext_bare M) _ _ (.inr rfl) r2
  have r3' : Rv M.bare (.ptr b3 0 0) p3 := Rv.mono (ext_bare M) _ _ (.inr rfl) r3
  have hu : ∀ x, Rv M.bare (.val x) x := fun x => rfl
  have hg : Rv M.bare (.agg []) (.agg #[]) := ⟨#[], rfl, rfl⟩
  have hs : SRel (cfg w0 t) M.bare w M.bare ⟨fl 12 (cloF b2 b3), [], h, none⟩ { tmps := #[p2, p3] ++ (((((Array.replicate 10 undef).setIfInBounds 3 (Value.iface 107 (Value.agg #[]))).setIfInBounds 5 (Value.bool false)).setIfInBounds 6 (Value.tuple #[Value.agg #[], Value.bool true])).setIfInBounds 7 (Value.bool true)).setIfInBounds 8 (Value.agg #[]), defers := [] } w := by
    refine ⟨hr.turn (ext_bare M) rfl rfl rfl rfl, ⟨fun s g b hs => by simp [locGet] at hs, fun _ _ => rfl, fun s s' x x' hs => by simp [locGet] at hs⟩, ?_, rfl, hr.size, Keeps.refl _ _, Ext.refl _ _⟩
    show Rvs M.bare [.ptr b2 0 0, .ptr b3 0 0, undefA, undefA, undefA, .ifc 107 (.agg []), undefA, vB false, .tup [.agg [], vB true], vB true, .agg [], undefA] [p2, p3, undef, undef, undef, .iface 107 (.agg #[]), undef, .bool false, .tuple #[.agg #[], .bool true], .bool true, .agg #[], undef]
    refine .cons r2' (.cons r3' (.cons (hu _) (.cons (hu _) (.cons (hu _) (.cons ⟨_, rfl, hg⟩ (.cons (hu _) (.cons (hu _) (.cons ⟨_, rfl, .cons hg (.cons (hu _) rfl)⟩ (.cons (hu _) (.cons hg (.cons (hu _) rfl)))))))))))
  refine wp_mono (run_sound ok (code := cloC) e rfl hs) ?_
  intro ex a w' q
  cases ex with
  | normal =>
    obtain ⟨_, M', q⟩ := q
    refine ⟨q.df, _, rfl, .tuple #[], ?_, rfl, rfl, M', q.hr, q.k0, q.e0⟩
    simp [results, Try.results39]
  | panic ch => obtain ⟨_, _, q, _⟩ := q; cases q
  | ret => obtain ⟨q, _⟩ := q; cases q
  | exit i => obtain ⟨q, _⟩ := q; cases q
  | _ => exact q.elim
end Go.Proofs.Ytmglahnoemgieaa.Ax
namespace Go.Proofs.Ytmglahnoemgieaa.Ax
open Go Go.RowKit
set_option linter.unusedSimpArgs false
set_option linter.unusedVariables false
set_option maxHeartbeats 8000000
set_option maxRecDepth 4000
variable {w0 : World} {t : Option Gf}
def zM12 : List AV := [vI 0, vI 0, vS .empty, vI 0, vI 0, vI 0, vI 0, vI 0, vS .empty, vB false, vI 0, .val (.slice none 0 0)]
def fstC : Code → Code
  | .seq a _ => a
  | c => c
noncomputable def g0C : Code := fstC (Try.f15.body.getD .skip)
noncomputable def g2C : Code := fstC (sndC (sndC (Try.f15.body.getD .skip)))
def g0F (s : ByteArray) (n : Nat) : Nat → AV := upd (upd (ini [vS s]) 2 (.ptr n 0 0)) 3 (.ptr (n + 1) 0 0)
def g1F (s : ByteArray) (n : Nat) : Nat → AV := upd (g0F s n) 4 (.fn (.func 39) [] [.ptr n 0 0, .ptr (n + 1) 0 0])
/-- the heap where the reader begins -/
def g1H (h : H) : H := h ++ [⟨zM12, 0⟩, ⟨[vI 0], 0⟩]
theorem g1H_len (h : H) : (g1H h).length = h.length + 2 := by simp [g1H]
theorem g0_run (s : ByteArray) (h : H) : acodeI (cfg w0 t) 15 g0C ⟨fl 9 (ini [vS s]), [], h, none⟩ = some (.normal, ⟨fl 9 (g0F s h.length), [], g1H h, none⟩) := by
  dsimp only [g0C, fstC, Try.f15, Option.getD]
  simp only [reduceIte, reduceCtorEq, Nat.reduceAdd, Nat.reduceMul, Nat.reduceSub, Nat.reduceEqDiff, Nat.reduceLT, Nat.reduceLeDiff, Nat.reduceBEq, Int.reduceLT, Int.reduceLE, Int.reduceEq,
    Int.reduceNe, Int.reduceAdd, Int.reduceSub, Int.reduceMul, Int.reduceToNat, push_cast, pairsOk, locGet, locSet, nextGen, List.length_append]
  rfl
theorem g2_none (s : ByteArray) (h : H) {h' : H} {lw : Option Nat} (e : acallI (cfg w0 t) 40 [.ptr (h.length + 2) 0 0] (g1H h ++ [⟨[vS s, vI 0], 0⟩]) = some (.pan brk, h', lw)) :
    ∃ fr, acodeI (cfg w0 t) 15 g2C ⟨fl 9 (g1F s h.length), [], g1H h, none⟩ = some (.pan brk, ⟨fr, [], h', lw⟩) := by
  have hl := g1H_len h
  dsimp only [g2C, fstC, sndC, Try.f15, Option.getD]
  simp only [reduceIte, reduceCtorEq, Nat.reduceAdd, Nat.reduceMul, Nat.reduceSub, Nat.reduceEqDiff, Nat.reduceLT, Nat.reduceLeDiff, Nat.reduceBEq, Int.reduceLT, Int.reduceLE, Int.reduceEq,
    Int.reduceNe, Int.reduceAdd, Int.reduceSub, Int.reduceMul, Int.reduceToNat, push_cast, pairsOk, locGet, locSet, nextGen, List.length_append, g1F, g0F, hl, e]
  exact ⟨_, rfl⟩
theorem g2_some (s : ByteArray) (h : H) {h' : H} {lw : Option Nat} {cs : List AV} (e : acallI (cfg w0 t) 40 [.ptr (h.length + 2) 0 0] (g1H h ++ [⟨[vS s, vI 0], 0⟩]) = some (.ret (.agg cs), h', lw)) (hlen : cs.length = 12) (ho : cs.all oneA = true) (hn : noBxs cs = true)
    (h2 : h'[h.length]? = some ⟨zM12, 0⟩) (h3 : h'[h.length + 1]? = some ⟨[vI 0], 0⟩) :
    ∃ F lw', acodeI (cfg w0 t) 15 g2C ⟨fl 9 (g1F s h.length), [], g1H h, none⟩ = some (.normal, ⟨fl 9 F, [], (h'.set h.length ⟨cs, 0⟩).set (h.length + 1) ⟨[vI 0], 0⟩, lw'⟩) ∧ F 2 = .ptr h.length 0 0 ∧ F 3 = .ptr (h.length + 1) 0 0 := by
  have hl := g1H_len h
  have hb : h.length + 1 < h'.length := (List.getElem?_eq_some_iff.1 h3).1
  have h3' : (h'.set h.length ⟨cs, 0⟩)[h.length + 1]? = some ⟨[vI 0], 0⟩ := by rw [List.getElem?_set_ne (by omega)]; exact h3
  have hz : zM12.length = 12 := rfl
  have hz2 : List.drop 12 zM12 = [] := rfl
  dsimp only [g2C, fstC, sndC, Try.f15, Option.getD]
  simp only [reduceIte, reduceCtorEq, Nat.reduceAdd, Nat.reduceMul, Nat.reduceSub, Nat.reduceEqDiff, Nat.reduceLT, Nat.reduceLeDiff, Nat.reduceBEq, Int.reduceLT, Int.reduceLE, Int.reduceEq,
    Int.reduceNe, Int.reduceAdd, Int.reduceSub, Int.reduceMul, Int.reduceToNat, push_cast, pairsOk, locGet, locSet, nextGen, List.length_append, g1F, g0F, hl, e, hlen, ho, hn, h2, h3', hz, hz2]
  exact ⟨_, _, rfl, by simp only [reduceIte, reduceCtorEq, Nat.reduceAdd, Nat.reduceMul, Nat.reduceSub, Nat.reduceEqDiff, Nat.reduceLT, Nat.reduceLeDiff, Nat.reduceBEq, Int.reduceLT, Int.reduceLE, Int.reduceEq,
    Int.reduceNe, Int.reduceAdd, Int.reduceSub, Int.reduceMul, Int.reduceToNat, push_cast, pairsOk, locGet, locSet, nextGen], by simp only [reduceIte, reduceCtorEq, Nat.reduceAdd, Nat.reduceMul, Nat.reduceSub, Nat.reduceEqDiff, Nat.reduceLT, Nat.reduceLeDiff, Nat.reduceBEq, Int.reduceLT, Int.reduceLE, Int.reduceEq,
    Int.reduceNe, Int.reduceAdd, Int.reduceSub, Int.reduceMul, Int.reduceToNat, push_cast, pairsOk, locGet, locSet, nextGen]⟩
theorem st0 {s g off : Nat} : storeA (some 0) (.bx s g off) [] = some (.box (.store s g off [])) := rfl
theorem clo_run {h : H} {b2 b3 : Nat} (h2 : h[b2]? = some ⟨zM12, 0⟩) (h3 : h[b3]? = some ⟨[vI 0], 0⟩) (hne : b2 ≠ b3) :
    ∃ fr loc' lw', acodeI (cfg w0 t) 39 cloC ⟨fl 12 (cloF b2 b3), [], h, none⟩ = some (.normal, ⟨fr, loc', (h.set b2 ⟨zM12, 0⟩).set b3 ⟨[vI 4], 0⟩, lw'⟩) := by
  have hz : zM12.length = 12 := rfl
  have hz2 : List.drop 12 zM12 = [] := rfl
  have h3' : (h.set b2 ⟨zM12, 0⟩)[b3]? = some ⟨[vI 0], 0⟩ := by rw [List.getElem?_set_ne hne]; exact h3
  have hzz : zM12 = [vI 0, vI 0, vS .empty, vI 0, vI 0, vI 0, vI 0, vI 0, vS .empty, vB false, vI 0, .val (.slice none 0 0)] := rfl
  dsimp only [cloC, fstC, sndC, blkC, elseC, thenC, Try.f39, Option.getD]
  rw [hzz] at h3'
  simp only [reduceIte, reduceCtorEq, Nat.reduceAdd, Nat.reduceMul, Nat.reduceSub, Nat.reduceEqDiff, Nat.reduceLT, Nat.reduceLeDiff, Nat.reduceBEq, Int.reduceLT, Int.reduceLE, Int.reduceEq,
    Int.reduceNe, Int.reduceAdd, Int.reduceSub, Int.reduceMul, Int.reduceToNat, push_cast, pairsOk, locGet, locSet, nextGen, cloF, h2, h3', hz, hz2, st0]
  exact ⟨_, _, _, rfl⟩
end Go.Proofs.Ytmglahnoemgieaa.Ax
namespace Go.Proofs.Ytmglahnoemgieaa.Ax
open Go Go.RowKit
set_option linter.unusedSimpArgs false
set_option linter.unusedVariables false
set_option maxHeartbeats 8000000
set_option maxRecDepth 4000
variable {w0 : World} {t : Option Gf}
/-- the heap where the reader is read -/
def g2H (h : H) (s : ByteArray) : H := g1H h ++ [⟨[vS s, vI 0], 0⟩]
theorem g2H_len (h : H) (s : ByteArray) : (g2H h s).length = h.length + 3 := by simp [g2H, g1H_len]
theorem g2H_rd (h : H) (s : ByteArray) : rdH (g2H h s) (h.length + 2) s 0 = g2H h s := by
  refine rdH_self ?_
  unfold g2H
  rw [← g1H_len h]
  exact top_get
theorem g2H_take (h : H) (s : ByteArray) : (g2H h s).take (h.length + 2) = g1H h := by
  unfold g2H
  rw [← g1H_len h, List.take_left']
  rfl
/-- what packet.Get comes to -/
noncomputable def g15 (w0 : World) : Gf := fun args h => match args with
  | [.val (.string s)] => if s.size ≤ 9223372036854775000 then
      (match getM s with
       | some _ => (match acallI (cfg w0 none) 40 [.ptr (h.length + 2) 0 0] (g2H h s) with
         | some (.ret (.agg cs), h', _) => some (.ret (.tup [.agg cs, vI 0]), (h'.set h.length ⟨cs, 0⟩).set (h.length + 1) ⟨[vI 0], 0⟩, none)
         | _ => none)
       | none => some (.ret (.tup [.agg zM12, vI 4]), h, none))
      else none
  | _ => none
theorem g40 (h : H) (s : ByteArray) (hs : s.size ≤ 9223372036854775000) : MOut (h.length + 3) s (h.length + 2) (getM s) (acallI (cfg w0 none) 40 [.ptr (h.length + 2) 0 0] (g2H h s)) := by
  have := f40 (w0 := w0) (t := none) (cfg_ok0 w0) (g2H h s) (h.length + 2) s (by rw [g2H_len]; omega) hs
  rw [g2H_rd, g2H_len] at this
  exact this
theorem g_keep {h h' : H} {s : ByteArray} {out : Out} {lw : Option Nat} (e : acallI (cfg w0 none) 40 [.ptr (h.length + 2) 0 0] (g2H h s) = some (out, h', lw)) (hl : lwOver lw (h.length + 2) = true) :
    h'.take (h.length + 2) = g1H h ∧ h'[h.length]? = some ⟨zM12, 0⟩ ∧ h'[h.length + 1]? = some ⟨[vI 0], 0⟩ := by
  have ht := call_low (cfg_ok0 w0) e hl (by rw [g2H_len]; omega)
  rw [g2H_take] at ht
  have hg : ∀ j, j < h.length + 2 → h'[j]? = (g1H h)[j]? := by
    intro j hj
    rw [← ht, List.getElem?_take_of_lt hj]
  refine ⟨ht, ?_, ?_⟩
  · rw [hg _ (by omega)]; simp [g1H]
  · rw [hg _ (by omega)]
    unfold g1H
    rw [List.getElem?_append_right (by omega)]
    simp
/-- the results, whatever else is in the frame -/
theorem res15 {tm tm' : Array Value} (h2 : tm[2]?.getD undef = tm'[2]?.getD undef) (h3 : tm[3]?.getD undef = tm'[3]?.getD undef) : results Try.f15 tm = results Try.f15 tm' := by
  simp [results, Try.results15, h2, h3]
theorem res15_rel {h : H} {n : Nat} {cs : List AV} {v : AV} (h2 : h[n]? = some ⟨cs, 0⟩) (h3 : h[n + 1]? = some ⟨[v], 0⟩) (hlen : cs.length = 12) {M : Mu} {w : World} (hr : HRel w0 M h w) {p2 p3 : Value} (r2 : Rv M (.ptr n 0 0) p2) (r3 : Rv M (.ptr (n + 1) 0 0) p3)
    {tm : Array Value} (e2 : tm[2]?.getD undef = p2) (e3 : tm[3]?.getD undef = p3) : ∃ x, Rv M.bare (.tup [.agg cs, v]) x ∧ (results Try.f15 tm).run Try.prog w = .ok x w := by
  have r2' : Rv M.bare (.ptr n 0 0) p2 := Rv.mono (ext_bare M) _ _ (.inr rfl) r2
  have r3' : Rv M.bare (.ptr (n + 1) 0 0) p3 := Rv.mono (ext_bare M) _ _ (.inr rfl) r3
  have hs : SRel (cfg w0 none) M.bare w M.bare ⟨[undefA, undefA, .ptr n 0 0, .ptr (n + 1) 0 0], [], h, none⟩ ⟨#[undef, undef, p2, p3], []⟩ w :=
    ⟨hr.turn (ext_bare M) rfl rfl rfl rfl, ⟨fun s g b hs => by simp [locGet] at hs, fun _ _ => rfl, fun s s' x x' hs => by simp [locGet] at hs⟩, .cons rfl (.cons rfl (.cons r2' (.cons r3' rfl))), rfl, hr.size, Keeps.refl _ _, Ext.refl _ _⟩
  have hra : resultsA (cfg w0 none) ⟨[undefA, undefA, .ptr n 0 0, .ptr (n + 1) 0 0], [], h, none⟩ Try.f15.results.toList = some [.agg cs, v] := by
    dsimp only [Try.f15]
    simp only [reduceIte, reduceCtorEq, Nat.reduceAdd, Nat.reduceMul, Nat.reduceSub, Nat.reduceEqDiff, Nat.reduceLT, Nat.reduceLeDiff, Nat.reduceBEq, Int.reduceLT, Int.reduceLE, Int.reduceEq,
    Int.reduceNe, Int.reduceAdd, Int.reduceSub, Int.reduceMul, Int.reduceToNat, push_cast, pairsOk, locGet, locSet, nextGen, getT, h2, h3, hlen]
    rw [List.take_of_length_le (by omega)]
  obtain ⟨x, hx, hrun⟩ := results_rel hs hra
  refine ⟨x, hx, ?_⟩
  rw [res15 (tm' := #[undef, undef, p2, p3]) (by simpa using e2) (by simpa using e3)]
  exact hrun
theorem calls15 (s : ByteArray) (hs : s.size ≤ 9223372036854775000) {h : H} {out : Out} {h' : H} {lw : Option Nat} (e : g15 w0 [vS s] h = some (out, h', lw)) {M : Mu} {w : World} (hr : HRel w0 M h w) :
    Calls Try.prog 15 #[.string s] w fun e w' => ∃ M', HStep w0 M w M' h' w' ∧ OutOk M' out e := by
  have ok := cfg_ok0 w0
  refine calls_of_wp_defers Try.func15 rfl ?_
  have hs0 := entry_rel (c := cfg w0 none) hr (args := [vS s]) (vs := [.string s]) (.cons rfl rfl) rfl 8 rfl
  refine wp_seq (wp_mono (run_sound ok (code := g0C) (g0_run s h) rfl hs0) ?_)
  intro ex a1 w1 q
  cases ex with
  | normal =>
    obtain ⟨_, M1, h1⟩ := q
    have hsz : a1.tmps.size = 9 := by
      have := Rvs.length h1.fr
      rw [fl_length] at this
      rw [← Array.length_toList]
      exact this.symm
    have r2 : Rv M1 (.ptr h.length 0 0) (a1.tmps[2]?.getD undef) := by
      have := Rvs.getT h1.fr 2
      rw [fl_get] at this
      simpa [g0F, upd] using this
    have r3 : Rv M1 (.ptr (h.length + 1) 0 0) (a1.tmps[3]?.getD undef) := by
      have := Rvs.getT h1.fr 3
      rw [fl_get] at this
      simpa [g0F, upd] using this
    have hmf : ∀ (fn : Fn) (first cap : Array Value) (w : World), (Instr.makeFunc fn first cap).run Try.prog w = .ok (.func fn first cap) w := fun _ _ _ _ => rfl
    have hn4 : 4 < a1.tmps.size := by omega
    have hdf : a1.defers = [] := h1.df
    refine wp_seq (wp_region ?_)
    simp [wpOps, Oper.wp, go_sem, hmf, List.range, List.range.loop, Region.wanted, Act.eval]
    refine .inl (.inl ?_)
    rw [if_pos hn4, hdf]
    generalize hp2 : a1.tmps[2]?.getD undef = p2 at r2 ⊢
    generalize hp3 : a1.tmps[3]?.getD undef = p3 at r3 ⊢
    simp only [Sem.run_pure, Result.andThen_ok, Oper.upon_defer, Act.put]
    have r2b : Rv M1.bare (.ptr h.length 0 0) p2 := Rv.mono (ext_bare M1) _ _ (.inr rfl) r2
    have r3b : Rv M1.bare (.ptr (h.length + 1) 0 0) p3 := Rv.mono (ext_bare M1) _ _ (.inr rfl) r3
    have hfr : FRel M1.bare (fl 9 (g1F s h.length)) ⟨a1.tmps.setIfInBounds 4 (.func (.func 39) #[] #[p2, p3]), []⟩ := by
      have h0 : FRel M1.bare (fl 9 (g0F s h.length)) a1 := Rvs.mono (ext_bare M1) _ _ (.inr rfl) h1.fr
      have hv : Rv M1.bare (.fn (.func 39) [] [.ptr h.length 0 0, .ptr (h.length + 1) 0 0]) (.func (.func 39) #[] #[p2, p3]) := ⟨#[], #[p2, p3], rfl, rfl, .cons r2b (.cons r3b rfl)⟩
      have := FRel.put h0 hv (some 4)
      exact this
    have hs2 : SRel (cfg w0 none) M1.bare w1 M1.bare ⟨fl 9 (g1F s h.length), [], g1H h, none⟩ ⟨a1.tmps.setIfInBounds 4 (.func (.func 39) #[] #[p2, p3]), []⟩ w1 :=
      ⟨h1.hr.turn (ext_bare M1) rfl rfl rfl rfl, ⟨fun s g b hs => by simp [locGet] at hs, fun _ _ => rfl, fun s s' x x' hs => by simp [locGet] at hs⟩, hfr, rfl, h1.hr.size, Keeps.refl _ _, Ext.refl _ _⟩
    have hJ : (fun tm : Array Value => tm[2]?.getD undef = p2 ∧ tm[3]?.getD undef = p3) (a1.tmps.setIfInBounds 4 (.func (.func 39) #[] #[p2, p3])) := by
      constructor
      · simpa using hp2
      · simpa using hp3
    have hp : ∀ (o : Oper) (tm : Array Value) (v : Value) (d : Nat), o.dst = some d → 5 ≤ d → (tm[2]?.getD undef = p2 ∧ tm[3]?.getD undef = p3) → ((tm.setIfInBounds d v)[2]?.getD undef = p2 ∧ (tm.setIfInBounds d v)[3]?.getD undef = p3) := by
      intro o tm v d _ hd hj
      rw [Array.getElem?_setIfInBounds_ne (by omega), Array.getElem?_setIfInBounds_ne (by omega)]
      exact hj
    have k01 : Keeps M.bare w M1 w1 := h1.k0
    have e01 : Ext false M.bare M1 := h1.e0
    have hg := g40 (w0 := w0) h s hs
    simp only [g15] at e
    rw [if_pos hs] at e
    cases hm : getM s with
    | none =>
      rw [hm] at hg e
      cases e
      obtain ⟨h4, lw4, e40, hl4⟩ := hg
      obtain ⟨kt, kb2, kb3⟩ := g_keep e40 hl4
      obtain ⟨fr, e2⟩ := g2_none s h e40
      obtain ⟨p, hpx, hw2⟩ := region_ops ok (id := 2) (ops := _) e2 hs2
      refine wp_seq (wp_region (wpOps_lift (D := [{ target := .fn (.func 39) #[p2, p3], args := #[] }]) (J := fun tm => tm[2]?.getD undef = p2 ∧ tm[3]?.getD undef = p3) ?_ ?_ _ ?_ ⟨a1.tmps.setIfInBounds 4 (.func (.func 39) #[] #[p2, p3]), []⟩ w1 hJ hw2))
      · intro a w q; exact q
      · intro ex a w3 q hj
        cases p with
        | none => cases hpx
        | some v =>
          cases hpx
          cases ex with
          | panic ch =>
            obtain ⟨hd0, v, hv, x, M3, rfl, hx, hr3, hk3, he3⟩ := q
            cases hv
            obtain ⟨y, rfl, hy⟩ := hx
            obtain ⟨ys, rfl, hys⟩ := hy
            have : ys = #[] := by
              simp only [Rvs] at hys
              exact Array.toList_eq_nil_iff.1 hys
            subst this
            rw [hd0]
            have r2c : Rv M3 (.ptr h.length 0 0) p2 := Rv.mono he3 _ _ (.inr rfl) r2b
            have r3c : Rv M3 (.ptr (h.length + 1) 0 0) p3 := Rv.mono he3 _ _ (.inr rfl) r3b
            obtain ⟨fr5, loc5, lw5, e5⟩ := clo_run (w0 := w0) (t := none) kb2 kb3 (by omega)
            refine leaves_cons (f := 39) (args := #[p2, p3]) (by simp) (by simp [go_sem]) ?_
            refine (clo_pan ok e5 hr3 r2c r3c).mono ?_
            rintro ed u' w4 ⟨rfl, rfl, M4, hr4, hk4, he4⟩
            have hb4 : h.length + 1 < h4.length := (List.getElem?_eq_some_iff.1 kb3).1
            have kx2 : ((h4.set h.length ⟨zM12, 0⟩).set (h.length + 1) ⟨[vI 4], 0⟩)[h.length]? = some ⟨zM12, 0⟩ := by
              rw [List.getElem?_set_ne (by omega), List.getElem?_set_self (by omega)]
            have kx3 : ((h4.set h.length ⟨zM12, 0⟩).set (h.length + 1) ⟨[vI 4], 0⟩)[h.length + 1]? = some ⟨[vI 4], 0⟩ := by
              rw [List.getElem?_set_self (by rw [List.length_set]; omega)]
            obtain ⟨x, hx, hrun⟩ := res15_rel (h := (h4.set h.length ⟨zM12, 0⟩).set (h.length + 1) ⟨[vI 4], 0⟩) (n := h.length) (cs := zM12) (v := vI 4) kx2 kx3 rfl hr4 (Rv.mono he4 _ _ (.inr rfl) (Rv.mono (ext_bare M3) _ _ (.inr rfl) r2c)) (Rv.mono he4 _ _ (.inr rfl) (Rv.mono (ext_bare M3) _ _ (.inr rfl) r3c)) hj.1 hj.2
            have kk : Keeps M.bare w M4 w4 := k01.trans (Keeps.trans (A := M1) (B := M3) ⟨hk3.size, hk3.keep, hk3.homes, hk3.imms⟩ ⟨hk4.size, hk4.keep, hk4.homes, hk4.imms⟩)
            have ee : Ext false M.bare M4 := e01.trans ((ext_bare M1).trans (he3.trans ((ext_bare M3).trans he4)))
            have st := back_locs hr4 kk ee
            have htk : ((h4.set h.length ⟨zM12, 0⟩).set (h.length + 1) ⟨[vI 4], 0⟩).take h.length = h := by
              rw [List.take_set_of_le (by omega), List.take_set_of_le (by omega)]
              have := congrArg (List.take h.length) kt
              rw [List.take_take, Nat.min_eq_left (by omega)] at this
              rw [this]
              simp [g1H]
            refine ⟨x, hrun, (M4.locs M).upto h.length, leave_back hr st htk, x, rfl, ?_⟩
            have hx2 : Rv (M4.locs M) (.tup [.agg zM12, vI 4]) x := by
              obtain ⟨xs, rfl, y1, l1, q1, hy1, y2, l2, q2, hy2, hl2⟩ := hx
              obtain ⟨ys, rfl, hys⟩ := hy1
              refine ⟨xs, rfl, _, _, q1, ⟨ys, rfl, ?_⟩, _, _, q2, hy2, hl2⟩
              simpa only [zM12, Rvs, Rv] using hys
            exact Rv.upto _ _ hx2 rfl
          | normal => obtain ⟨q, _⟩ := q; cases q
          | _ => exact q.elim
      · intro o tm v d ho hd hj
        refine hp o tm v d hd ?_ hj
        simp only [List.mem_cons, List.not_mem_nil, or_false] at ho
        rcases ho with rfl | rfl | rfl | rfl | rfl | rfl <;> simp at hd <;> omega
    | some m =>
      rw [hm] at hg e
      obtain ⟨xs, h4, e40, hI⟩ := hg
      obtain ⟨kt, kb2, kb3⟩ := g_keep e40 (by simp [lwOver])
      simp only at e
      rw [e40] at e
      cases e
      have hnb := hI.nb
      have hone : (vM m.kind m.ticket m.sheet m.col m.row m.ver m.v xs).all oneA = true := by
        simp only [List.all_cons, List.all_nil, hnb.2, one_int, one_str, one_bool, Bool.and_self]
      have hnbs : noBxs (vM m.kind m.ticket m.sheet m.col m.row m.ver m.v xs) = true := by
        simp only [noBxs, noBx, hnb.1, Bool.and_self]
      obtain ⟨F, lw3, e2, hF2, hF3⟩ := g2_some s h e40 rfl hone hnbs kb2 kb3
      generalize hcs : vM m.kind m.ticket m.sheet m.col m.row m.ver m.v xs = cs at *
      have hlen : cs.length = 12 := by rw [← hcs]; rfl
      obtain ⟨p, hpx, hw2⟩ := region_ops ok (id := 2) (ops := _) e2 hs2
      have hb4 : h.length + 1 < h4.length := (List.getElem?_eq_some_iff.1 kb3).1
      have kx2 : ((h4.set h.length ⟨cs, 0⟩).set (h.length + 1) ⟨[vI 0], 0⟩)[h.length]? = some ⟨cs, 0⟩ := by
        rw [List.getElem?_set_ne (by omega), List.getElem?_set_self (by omega)]
      have kx3 : ((h4.set h.length ⟨cs, 0⟩).set (h.length + 1) ⟨[vI 0], 0⟩)[h.length + 1]? = some ⟨[vI 0], 0⟩ := by
        rw [List.getElem?_set_self (by rw [List.length_set]; omega)]
      refine wp_seq (wp_region (wpOps_lift (D := [{ target := .fn (.func 39) #[p2, p3], args := #[] }]) (J := fun tm => tm[2]?.getD undef = p2 ∧ tm[3]?.getD undef = p3) ?_ ?_ _ ?_ ⟨a1.tmps.setIfInBounds 4 (.func (.func 39) #[] #[p2, p3]), []⟩ w1 hJ hw2))
      · intro a w q; exact q
      · intro ex a w3 q hj
        cases p with
        | some v => cases hpx
        | none =>
          cases ex with
          | panic ch =>
            obtain ⟨hd0, v, hv, _⟩ := q
            cases hv
          | normal =>
            obtain ⟨_, M3, h3⟩ := q
            refine wp_ret ?_
            have hd3 : a.defers = [] := h3.df
            rw [hd3]
            refine leaves_cons (f := 39) (args := #[p2, p3]) (by simp) (by simp [go_sem]) ?_
            refine (clo_idle p2 p3 w3).mono ?_
            rintro ed u' w4 ⟨rfl, rfl, rfl⟩
            obtain ⟨x, hx, hrun⟩ := res15_rel kx2 kx3 hlen h3.hr (Rv.mono h3.e0 _ _ (.inr rfl) r2b) (Rv.mono h3.e0 _ _ (.inr rfl) r3b) hj.1 hj.2
            have kk : Keeps M.bare w M3 w4 := k01.trans (Keeps.trans (A := M1) (B := M3) ⟨h3.k0.size, h3.k0.keep, h3.k0.homes, h3.k0.imms⟩ (Keeps.refl _ _))
            have ee : Ext false M.bare M3 := e01.trans ((ext_bare M1).trans h3.e0)
            have st := back_locs h3.hr kk ee
            refine ⟨x, hrun, M3.locs M, st, x, rfl, ?_⟩
            exact Rv.mono (ext_locs M3.bare M) _ _ (.inr (by simp only [noBx, noBxs, hnbs, Bool.and_self])) hx
          | _ => exact q.elim
      · intro o tm v d ho hd hj
        refine hp o tm v d hd ?_ hj
        simp only [List.mem_cons, List.not_mem_nil, or_false] at ho
        rcases ho with rfl | rfl | rfl | rfl | rfl | rfl <;> simp at hd <;> omega
  | panic ch => obtain ⟨_, _, q, _⟩ := q; cases q
  | ret => obtain ⟨q, _⟩ := q; cases q
  | exit i => obtain ⟨q, _⟩ := q; cases q
  | _ => exact q.elim
end Go.Proofs.Ytmglahnoemgieaa.Ax
namespace Go.Proofs.Ytmglahnoemgieaa.Ax
open Go Go.RowKit
set_option linter.unusedSimpArgs false
set_option linter.unusedVariables false
set_option maxHeartbeats 8000000
set_option maxRecDepth 4000
variable {w0 : World}
theorem g15_some {s : ByteArray} (hs : s.size ≤ 9223372036854775000) (h : H) {m : Msg} (hm : getM s = some m) : ∃ xs h', g15 w0 [vS s] h = some (.ret (.tup [.agg (vM m.kind m.ticket m.sheet m.col m.row m.ver m.v xs), vI 0]), h', none) ∧ EdsI (h.length + 3) h' m.edges xs ∧ h'.take h.length = h ∧ h.length ≤ h'.length := by
  have hg := g40 (w0 := w0) h s hs
  rw [hm] at hg
  obtain ⟨xs, h4, e40, hI⟩ := hg
  obtain ⟨kt, kb2, kb3⟩ := g_keep e40 (by simp [lwOver])
  have hb4 : h.length + 1 < h4.length := (List.getElem?_eq_some_iff.1 kb3).1
  refine ⟨xs, _, ?_, hI.move (h' := (h4.set h.length ⟨vM m.kind m.ticket m.sheet m.col m.row m.ver m.v xs, 0⟩).set (h.length + 1) ⟨[vI 0], 0⟩) ?_, ?_, ?_⟩
  · simp only [g15]
    rw [if_pos hs, hm]
    simp only
    rw [e40]
  · intro j hj _
    rw [List.getElem?_set_ne (by omega), List.getElem?_set_ne (by omega)]
  · rw [List.take_set_of_le (by omega), List.take_set_of_le (by omega)]
    have := congrArg (List.take h.length) kt
    rw [List.take_take, Nat.min_eq_left (by omega)] at this
    rw [this]
    simp [g1H]
  · simp
    omega
theorem g15_none {s : ByteArray} (hs : s.size ≤ 9223372036854775000) (h : H) (hm : getM s = none) : g15 w0 [vS s] h = some (.ret (.tup [.agg zM12, vI 4]), h, none) := by
  simp only [g15]
  rw [if_pos hs, hm]
theorem cfg_ok (w0 : World) : CfgOk (cfg w0 (some (g15 w0))) where
  mix := by kernel_rfl
  chk f fn b _ h1 h2 := chk_all w0 (some (g15 w0)) f fn b h1 h2
  tab f g hg args h out h' lw e := by
    simp only [cfg] at hg
    split at hg
    · rename_i hf
      subst hf
      cases hg
      have key : ∃ s : ByteArray, args = [vS s] ∧ s.size ≤ 9223372036854775000 := by
        unfold g15 at e
        split at e
        · rename_i s
          split at e
          · rename_i hs; exact ⟨s, rfl, hs⟩
          · cases e
        · cases e
      obtain ⟨s, rfl, hs⟩ := key
      have hsnd : ∀ (M : Mu) (w : World) (vs : List Value), HRel w0 M h w → Rvs M [vS s] vs → noBxs [vS s] = true →
          (callFunc 15 vs.toArray).run Try.prog w = .ok (.enter 15 vs.toArray) w ∧ Calls Try.prog 15 vs.toArray w fun e w' => ∃ M', HStep w0 M w M' h' w' ∧ OutOk M' out e := by
        intro M w vs hr hv _
        obtain ⟨x, l, rfl, hx, hl⟩ := hv
        simp only [Rvs] at hl
        simp only [Rv] at hx
        subst hl hx
        exact ⟨callFunc_run Try.func15 rfl rfl _ _, calls15 s hs e hr⟩
      cases hm : getM s with
      | none =>
        rw [g15_none hs h hm] at e
        cases e
        exact ⟨LwP.refl _ _, rfl, hsnd⟩
      | some m =>
        obtain ⟨xs, h2, e2, hI, ht, hl⟩ := g15_some (w0 := w0) hs h hm
        rw [e2] at e
        cases e
        refine ⟨⟨hl, fun n hn _ => ?_⟩, ?_, hsnd⟩
        · have := congrArg (List.take n) ht
          rw [List.take_take, Nat.min_eq_left hn] at this
          exact this
        · simp only [outV, noBx, noBxs, hI.nb.1, Bool.and_self]
    · cases hg
theorem call15 (args : List AV) (h : H) : acallI (cfg w0 (some (g15 w0))) 15 args h = g15 w0 args h := by
  unfold acallI
  rfl
theorem f15_some {s : ByteArray} (hs : s.size ≤ 9223372036854775000) (h : H) {m : Msg} (hm : getM s = some m) : ∃ xs h', acallI (cfg w0 (some (g15 w0))) 15 [vS s] h = some (.ret (.tup [.agg (vM m.kind m.ticket m.sheet m.col m.row m.ver m.v xs), vI 0]), h', none) ∧ EdsI (h.length + 3) h' m.edges xs ∧ h'.take h.length = h ∧ h.length ≤ h'.length := by
  rw [call15]; exact g15_some hs h hm
theorem f15_none {s : ByteArray} (hs : s.size ≤ 9223372036854775000) (h : H) (hm : getM s = none) : acallI (cfg w0 (some (g15 w0))) 15 [vS s] h = some (.ret (.tup [.agg zM12, vI 4]), h, none) := by
  rw [call15]; exact g15_none hs h hm
end Go.Proofs.Ytmglahnoemgieaa.Ax

/- The abstract machine, part 17: code and calls go on as the machine says. (And what follows from it, text by text.) -/
import Derived.Test.YtmglahnoemgieaaM2
import Derived.LoopN
import Derived.Laws.Strings
namespace Go.Proofs.Ytmglahnoemgieaa.Ax
open Go Go.RowKit
set_option linter.unusedSimpArgs false
set_option linter.unusedVariables false

/-! ### places below -/
mutual
theorem Rv.below {M : Mu} : ∀ (a : AV) (x : Value), Rv M a x → belowA M.n a = true
  | .val _, _, _ => rfl
  | .bx .., _, _ => rfl
  | .ptr .., _, h => by obtain ⟨h, _⟩ := h; simpa [belowA] using h
  | .sl .., _, h => by obtain ⟨h, _⟩ := h; simpa [belowA] using h
  | .lit cs _, _, h => by obtain ⟨_, _, _, _, _, _, _, h⟩ := h; exact Rvs.below cs _ h
  | .lp cs, _, h => by obtain ⟨_, _, _, _, _, h⟩ := h; exact Rvs.below cs _ h
  | .agg l, _, h => by obtain ⟨_, _, h⟩ := h; exact Rvs.below l _ h
  | .tup l, _, h => by obtain ⟨_, _, h⟩ := h; exact Rvs.below l _ h
  | .ifc _ y, _, h => by obtain ⟨_, _, h⟩ := h; exact Rv.below y _ h
  | .fn _ a c, _, h => by
    obtain ⟨_, _, _, h1, h2⟩ := h
    simp only [belowA, Bool.and_eq_true]
    exact ⟨Rvs.below a _ h1, Rvs.below c _ h2⟩
theorem Rvs.below {M : Mu} : ∀ (a : List AV) (x : List Value), Rvs M a x → belowAs M.n a = true
  | [], _, _ => rfl
  | a :: r, _, h => by
    obtain ⟨y, ys, _, h2, h3⟩ := h
    simp only [belowAs, Bool.and_eq_true]
    exact ⟨Rv.below a y h2, Rvs.below r ys h3⟩
end
def Mu.upto (M : Mu) (n : Nat) : Mu := { M with n := n }
mutual
theorem Rv.upto {M : Mu} {n : Nat} : ∀ (a : AV) (x : Value), Rv M a x → belowA n a = true → Rv (M.upto n) a x
  | .val _, _, h, _ => h
  | .bx .., _, h, _ => h
  | .ptr .., _, h, k => by
    simp only [belowA, decide_eq_true_eq] at k
    exact ⟨k, h.2⟩
  | .sl .., _, h, k => by
    simp only [belowA, decide_eq_true_eq] at k
    exact ⟨k, h.2⟩
  | .lit cs _, _, h, k => by
    obtain ⟨a, b, c, d, h1, h2, h3, h4⟩ := h
    exact ⟨a, b, c, d, h1, h2, h3, Rvs.upto cs _ h4 k⟩
  | .lp cs, _, h, k => by
    obtain ⟨a, b, c, h1, h3, h4⟩ := h
    exact ⟨a, b, c, h1, h3, Rvs.upto cs _ h4 k⟩
  | .agg l, _, h, k => by obtain ⟨a, h1, h2⟩ := h; exact ⟨a, h1, Rvs.upto l _ h2 k⟩
  | .tup l, _, h, k => by obtain ⟨a, h1, h2⟩ := h; exact ⟨a, h1, Rvs.upto l _ h2 k⟩
  | .ifc _ y, _, h, k => by obtain ⟨a, h1, h2⟩ := h; exact ⟨a, h1, Rv.upto y _ h2 k⟩
  | .fn _ a c, _, h, k => by
    obtain ⟨p, q, h0, h1, h2⟩ := h
    simp only [belowA, Bool.and_eq_true] at k
    exact ⟨p, q, h0, Rvs.upto a _ h1 k.1, Rvs.upto c _ h2 k.2⟩
theorem Rvs.upto {M : Mu} {n : Nat} : ∀ (a : List AV) (x : List Value), Rvs M a x → belowAs n a = true → Rvs (M.upto n) a x
  | [], _, h, _ => h
  | a :: r, _, h, k => by
    obtain ⟨y, ys, h1, h2, h3⟩ := h
    simp only [belowAs, Bool.and_eq_true] at k
    exact ⟨y, ys, h1, Rv.upto a y h2 k.1, Rvs.upto r ys h3 k.2⟩
end

theorem leave_homes {w0 : World} {M M' : Mu} {h h' : H} {w w' : World} (r : HRel w0 M h w) (st : HStep w0 M w M' h' w') (ht : h'.take h.length = h) :
    ∀ b, b < (M'.upto h.length).n → ((M'.upto h.length).home b).blk < w.heap.size → ∃ b0, b0 < M.n ∧ (M.home b0).blk = ((M'.upto h.length).home b).blk := by
  intro b hb hl
  have hb : b < h.length := hb
  refine st.keeps.homes b ?_ hl
  rw [st.rel.n]
  have := congrArg List.length ht
  simp at this; omega
/-- the heap of the entry, at the end: what lies above is forgotten -/
theorem leave_back {w0 : World} {M M' : Mu} {h h' : H} {w w' : World} (r : HRel w0 M h w) (st : HStep w0 M w M' h' w') (ht : h'.take h.length = h) : HStep w0 M w (M'.upto h.length) h w' where
  ext := { n := by show M.n ≤ h.length; rw [r.n]; exact Nat.le_refl _, gen := st.ext.gen, home := st.ext.home, imm := st.ext.imm, ng := st.ext.ng, nu := st.ext.nu }
  ng := st.ng
  nu := st.nu
  rel := by
    have hlen : h.length ≤ h'.length := by
      have := congrArg List.length ht
      simp at this; omega
    have hget : ∀ (b : Nat) (k : Blk), h[b]? = some k → h'[b]? = some k := by
      intro b k hk
      rw [← ht, List.getElem?_take] at hk
      split at hk
      · exact hk
      · cases hk
    refine ⟨rfl, st.rel.below, ?_, ?_, ?_⟩
    · intro b k hk
      obtain ⟨h1, h2, h3⟩ := st.rel.blk b k (hget b k hk)
      obtain ⟨k1, k2, k3⟩ := r.blk b k hk
      have hb : b < M.n := by rw [r.n]; exact (List.getElem?_eq_some_iff.1 hk).1
      have hhome : M'.home b = M.home b := st.ext.home b hb (by rw [h1, k1])
      obtain ⟨cur, e, fr, c1, c2, c3, c4, c5⟩ := h3.row
      obtain ⟨cur0, e0, fr0, d1, d2, d3, d4, d5⟩ := k3.row
      refine ⟨h1, h2, h3.nobx, h3.shift, cur, e, fr, c1, c2, c3, c4, ?_⟩
      refine Rvs.upto _ _ c5 ?_
      have := Rvs.below _ _ d5
      rw [r.n] at this
      show belowAs h.length (k.cells.drop (M'.home b).shift) = true
      rw [hhome]; exact this
    · intro b b' hb hb' e
      have hb : b < h.length := hb
      have hb' : b' < h.length := hb'
      exact st.rel.inj b b' (by rw [st.rel.n]; omega) (by rw [st.rel.n]; omega) e
    · intro q cur hq
      obtain ⟨h1, h2, h3⟩ := st.rel.imm q cur hq
      refine ⟨h1, h2, fun b hb => h3 b ?_⟩
      have hb : b < h.length := hb
      rw [st.rel.n]; omega
  keeps := { size := st.keeps.size, keep := st.keeps.keep, imms := st.keeps.imms, homes := leave_homes r st ht }

/-! ### the frame's own boxes are forgotten -/
def Mu.locs (M B : Mu) : Mu := { M with ng := B.ng, nu := B.nu }
def Mu.bare (M : Mu) : Mu := { M with ng := fun _ => 0, nu := fun _ => 0 }
theorem ext_bare (M : Mu) : Ext false M M.bare := ⟨Nat.le_refl _, fun _ _ => Nat.le_refl _, fun _ _ _ => rfl, fun _ _ h => h, fun h => (by cases h), fun h => (by cases h)⟩
theorem ext_locs (M B : Mu) : Ext false M (M.locs B) := ⟨Nat.le_refl _, fun _ _ => Nat.le_refl _, fun _ _ _ => rfl, fun _ _ h => h, fun h => (by cases h), fun h => (by cases h)⟩
theorem HRel.turn {w0 : World} {M M' : Mu} {h : H} {w : World} (r : HRel w0 M h w) (E : Ext false M M') (hn : M'.n = M.n) (hhome : M'.home = M.home) (hgen : M'.gen = M.gen) (himm : M'.imm = M.imm) : HRel w0 M' h w where
  n := hn.trans r.n
  below := r.below
  blk b k hk := by
    obtain ⟨h1, h3, h4⟩ := r.blk b k hk
    rw [hgen, hhome]
    exact ⟨h1, h3, h4.mono E rfl⟩
  inj b b' h1 h2 e := by rw [hn] at h1 h2; rw [hhome] at e; exact r.inj b b' h1 h2 e
  imm c cur hc := by
    rw [himm] at hc
    obtain ⟨h1, h2, h3⟩ := r.imm c cur hc
    refine ⟨h1, h2, ?_⟩
    rw [hn, hhome]; exact h3

theorem back_locs {w0 : World} {M M' : Mu} {h : H} {w w' : World} (hr : HRel w0 M' h w') (k : Keeps M.bare w M' w') (E : Ext false M.bare M') : HStep w0 M w (M'.locs M) h w' where
  ext := ⟨E.n, E.gen, E.home, E.imm, fun _ _ => Nat.le_refl _, fun _ _ _ => rfl⟩
  ng := rfl
  nu := rfl
  rel := hr.turn (ext_locs M' M) rfl rfl rfl rfl
  keeps := ⟨k.size, k.keep, k.homes, k.imms⟩

theorem leave_ok {w0 : World} {M M' : Mu} {h : H} {w w' : World} {o : Out} {s : S} {out : Out} {h' : H} {lw : Option Nat} (r : HRel w0 M h w) (st : HStep w0 M w M' s.h w') (hlw : LwP h s.h s.lw) (e : leave h o s = some (out, h', lw)) {x : Value} (hx : Rv M' (outV o) x) :
    out = o ∧ ∃ M'', HStep w0 M w M'' h' w' ∧ Rv M'' (outV o) x := by
  unfold leave at e
  split at e
  · split at e
    · rename_i hc
      rw [Bool.and_eq_true] at hc
      cases e
      refine ⟨rfl, M'.upto h.length, leave_back r st ?_, Rv.upto _ _ hx hc.2⟩
      rw [hlw.2 h.length (Nat.le_refl _) hc.1, List.take_length]
    · cases e
      exact ⟨rfl, M', st, hx⟩
  · cases e

/-! ### code -/
variable {c : Cfg}

def CodeQ (c : Cfg) (A : Mu) (we : World) (x : Ex) (s' : S) : Exit → Act → World → Prop
  | .normal, a, w => x = .normal ∧ ∃ M, SRel c A we M s' a w
  | .ret, a, w => x = .ret ∧ ∃ M, SRel c A we M s' a w
  | .exit i, a, w => x = .exit i ∧ ∃ M, SRel c A we M s' a w
  | .panic ch, a, w => a.defers = [] ∧ ∃ v, x = .pan v ∧ PanOk c A we v s'.h ch w
  | _, _, _ => False

/-- the table of the regions that draw their order is right for this code -/
def chkCode (c : Cfg) (f : FuncId) : Code → Bool
  | .region id ops true => match c.un f id with
    | some (l, ps) => regionChk ops l ps
    | none => true
  | .seq a b => chkCode c f a && chkCode c f b
  | .cond _ a b => chkCode c f a && chkCode c f b
  | .block _ b => chkCode c f b
  | .loop b => chkCode c f b
  | _ => true

theorem chkCode_none {f : FuncId} (h : ∀ id, c.un f id = none) : ∀ b : Code, chkCode c f b = true := by
  intro b
  induction b with
  | region id ops draw => cases draw <;> simp [chkCode, h]
  | seq a b iha ihb => simp [chkCode, iha, ihb]
  | cond x a b iha ihb => simp [chkCode, iha, ihb]
  | block id b ih => simpa [chkCode] using ih
  | loop b ih => simpa [chkCode] using ih
  | _ => rfl

def RunSound (c : Cfg) (run : RunF) : Prop := ∀ f code s x s', run f code s = some (x, s') → chkCode c f code = true → ∀ (A : Mu) (we : World) (M : Mu) (a : Act) (w : World), SRel c A we M s a w → code.wp c.P (CodeQ c A we x s') a w
def LoopSound (c : Cfg) (n : Nat) (run : RunF) : Prop := ∀ f b s x s', run f (.loop b) s = some (x, s') → chkCode c f b = true → ∀ (A : Mu) (we : World) (M : Mu) (a : Act) (w : World), SRel c A we M s a w → Code.rounds c.P b (CodeQ c A we x s') n a w

variable {A : Mu} {we : World}

theorem region_sound (hmix : c.P.follows .mixedOrders = true) {call : CallF} (hc : CallSound c call) {f : FuncId} {id : Nat} {ops : Array Oper} {draw : Bool} {s s' : S} {x : Ex} (e : aregion c call f id ops draw s = some (x, s')) (hk : chkCode c f (.region id ops draw) = true)
    {M : Mu} {a : Act} {w : World} (h : SRel c A we M s a w) : (Code.region id ops draw).wp c.P (CodeQ c A we x s') a w := by
  obtain ⟨p, ds, h1, rfl, h2⟩ := aregion_run e
  have key : (Code.region id ops draw).wp c.P (RegQ c A we p s') a w := by
    cases draw with
    | false =>
      have := aops_sound hc (f := f) (ops := ops) ops.toList 0 (by intro j; simp) s M a w p s' ds h1 h
      refine wp_region ?_
      rw [List.range_eq_range']
      simpa using this
    | true =>
      obtain ⟨l, ps, k1, k2, k3⟩ := h2 rfl
      simp only [chkCode, k1] at hk
      exact region_draw hmix hc hk h1 k2 k3 h
  refine wp_mono key ?_
  intro e a w q
  cases e with
  | normal => obtain ⟨rfl, q⟩ := q; exact ⟨rfl, q⟩
  | panic ch => obtain ⟨q0, v, rfl, q⟩ := q; exact ⟨q0, v, rfl, q⟩
  | _ => exact q.elim

/-- one round of a loop, and the rest -/
theorem code_round {rec : RunF} {n : Nat} (hL : LoopSound c n rec) {f : FuncId} {b : Code} (hk : chkCode c f b = true)
    (ih : ∀ (s : S) (x : Ex) (s' : S), acodeS c rec f b s = some (x, s') → ∀ (A : Mu) (we : World) (M : Mu) (a : Act) (w : World), SRel c A we M s a w → b.wp c.P (CodeQ c A we x s') a w)
    {s s' : S} {x : Ex} (e : acodeS c rec f (.loop b) s = some (x, s')) {M : Mu} {a : Act} {w : World} (h : SRel c A we M s a w) : Code.rounds c.P b (CodeQ c A we x s') (n + 1) a w := by
  rw [rounds_succ]
  simp only [acodeS] at e
  split at e
  · rename_i s1 hs
    refine wp_mono (ih _ _ _ hs _ _ _ _ _ h) ?_
    intro ex a w q
    cases ex with
    | normal => obtain ⟨_, M', h'⟩ := q; exact hL _ _ _ _ _ e hk _ _ _ _ _ h'
    | panic ch => obtain ⟨_, _, q, _⟩ := q; cases q
    | ret => obtain ⟨q, _⟩ := q; cases q
    | exit i => obtain ⟨q, _⟩ := q; cases q
    | _ => exact q.elim
  · rename_i hno
    refine wp_mono (ih _ _ _ e _ _ _ _ _ h) ?_
    intro ex a w q
    cases ex with
    | normal => obtain ⟨rfl, _⟩ := q; exact (hno _ e).elim
    | panic ch => exact q
    | ret => exact q
    | exit i => exact q
    | _ => exact q.elim

theorem code_sound (hmix : c.P.follows .mixedOrders = true) {rec : RunF} {n : Nat} (hL : LoopSound c n rec) (hc : CallSound c (acall c rec)) {f : FuncId} : ∀ (code : Code), chkCode c f code = true → ∀ (s : S) (x : Ex) (s' : S), acodeS c rec f code s = some (x, s') →
    ∀ (A : Mu) (we : World) (M : Mu) (a : Act) (w : World), SRel c A we M s a w → code.wp c.P (CodeQ c A we x s') a w := by
  intro code
  induction code with
  | skip => intro hk s x s' e A we M a w h; simp only [acodeS] at e; cases e; exact wp_skip ⟨rfl, M, h⟩
  | label l => intro hk s x s' e A we M a w h; simp only [acodeS] at e; cases e; exact wp_label ⟨rfl, M, h⟩
  | region id ops draw => intro hk s x s' e A we M a w h; simp only [acodeS] at e; exact region_sound hmix hc e hk h
  | seq p q ihp ihq =>
    intro hk s x s' e A we M a w h
    simp only [chkCode, Bool.and_eq_true] at hk
    simp only [acodeS] at e
    refine wp_seq ?_
    split at e
    · rename_i s1 hs
      refine wp_mono (ihp hk.1 _ _ _ hs _ _ _ _ _ h) ?_
      intro ex a w q
      cases ex with
      | normal => obtain ⟨_, M', h'⟩ := q; exact ihq hk.2 _ _ _ e _ _ _ _ _ h'
      | panic ch => obtain ⟨_, _, q, _⟩ := q; cases q
      | ret => obtain ⟨q, _⟩ := q; cases q
      | exit i => obtain ⟨q, _⟩ := q; cases q
      | _ => exact q.elim
    · rename_i hno
      refine wp_mono (ihp hk.1 _ _ _ e _ _ _ _ _ h) ?_
      intro ex a w q
      cases ex with
      | normal => obtain ⟨rfl, _⟩ := q; exact (hno _ e).elim
      | panic ch => exact q
      | ret => exact q
      | exit i => exact q
      | _ => exact q.elim
  | cond t p q ihp ihq =>
    intro hk s x s' e A we M a w h
    simp only [chkCode, Bool.and_eq_true] at hk
    simp only [acodeS] at e
    have ht := h.fr.ev t
    split at e
    · rename_i hb
      refine wp_cond_true ?_ (ihp hk.1 _ _ _ e _ _ _ _ _ h)
      unfold isBoolA at hb
      split at hb
      · rename_i hev; cases hb; rw [hev] at ht; exact ht
      · cases hb
    · rename_i hb
      refine wp_cond_false ?_ (ihq hk.2 _ _ _ e _ _ _ _ _ h)
      unfold isBoolA at hb
      split at hb
      · rename_i hev; cases hb; rw [hev] at ht; exact ht
      · cases hb
    · cases e
  | block id b ih =>
    intro hk s x s' e A we M a w h
    simp only [chkCode] at hk
    simp only [acodeS] at e
    refine wp_block ?_
    split at e
    · rename_i i s1 hs
      split at e
      · rename_i hi
        cases e
        refine wp_mono (ih hk _ _ _ hs _ _ _ _ _ h) ?_
        intro ex a w q
        cases ex with
        | exit j => obtain ⟨q, q2⟩ := q; cases q; simp only [Exit.inBlock, hi, if_true]; exact ⟨rfl, q2⟩
        | normal => obtain ⟨q, _⟩ := q; cases q
        | panic ch => obtain ⟨_, _, q, _⟩ := q; cases q
        | ret => obtain ⟨q, _⟩ := q; cases q
        | _ => exact q.elim
      · rename_i hi
        cases e
        refine wp_mono (ih hk _ _ _ hs _ _ _ _ _ h) ?_
        intro ex a w q
        cases ex with
        | exit j => obtain ⟨q, q2⟩ := q; cases q; simp only [Exit.inBlock, hi, if_false]; exact ⟨rfl, q2⟩
        | normal => obtain ⟨q, _⟩ := q; cases q
        | panic ch => obtain ⟨_, _, q, _⟩ := q; cases q
        | ret => obtain ⟨q, _⟩ := q; cases q
        | _ => exact q.elim
    · rename_i hno
      refine wp_mono (ih hk _ _ _ e _ _ _ _ _ h) ?_
      intro ex a w q
      cases ex with
      | exit j => obtain ⟨rfl, _⟩ := q; exact (hno _ _ e).elim
      | normal => exact q
      | panic ch => exact q
      | ret => exact q
      | _ => exact q.elim
  | loop b ih =>
    intro hk s x s' e A we M a w h
    simp only [chkCode] at hk
    exact wp_loop_rounds (n + 1) (code_round hL hk (ih hk) e h)
  | exit id => intro hk s x s' e A we M a w h; simp only [acodeS] at e; cases e; exact wp_exit ⟨rfl, M, h⟩
  | ret => intro hk s x s' e A we M a w h; simp only [acodeS] at e; cases e; exact wp_ret ⟨rfl, M, h⟩
  | scope _ _ => intro hk s x s' e; simp only [acodeS] at e; cases e
  | goto _ => intro hk s x s' e; simp only [acodeS] at e; cases e
  | rangeFunc _ _ _ _ _ _ => intro hk s x s' e; simp only [acodeS] at e; cases e
  | refuse _ => intro hk s x s' e; simp only [acodeS] at e; cases e

/-! ### calls -/
/-- what is said of a program's code and of the functions that are taken by what is known of them -/
structure CfgOk (c : Cfg) : Prop where
  mix : c.P.follows .mixedOrders = true
  chk : ∀ f fn b, c.T f = none → c.P.funcs[f]? = some fn → fn.body = some b → chkCode c f b = true
  tab : ∀ f g, c.T f = some g → ∀ args h out h' lw, g args h = some (out, h', lw) → LwP h h' lw ∧ noBx (outV out) = true ∧ ∀ (M : Mu) (w : World) (vs : List Value), HRel c.w0 M h w → Rvs M args vs → noBxs args = true →
    (callFunc f vs.toArray).run c.P w = .ok (.enter f vs.toArray) w ∧ Calls c.P f vs.toArray w fun e w' => ∃ M', HStep c.w0 M w M' h' w' ∧ OutOk M' out e

theorem callFunc_run {P : Program} {f : FuncId} {fn : Func} {b : Code} (h1 : P.funcs[f]? = some fn) (h2 : fn.body = some b) (h3 : (fn.name == "runtime.NumGoroutine") = false) (args : Array Value) (w : World) : (callFunc f args).run P w = .ok (.enter f args) w := by
  simp only [callFunc, Sem.run_bind, program, Sem.run, Result.andThen_ok, h1, h3, h2, Option.isNone]
  rfl

theorem LwP_of {h h' : H} {lw : Option Nat} (k : LwP h h' lw) : LwP h h' lw := k

theorem entry_rel {w0 : World} {M : Mu} {h : H} {w : World} (r : HRel w0 M h w) {args : List AV} {vs : List Value} (hv : Rvs M args vs) (hn : noBxs args = true) (k : Nat) (hw : c.w0 = w0) :
    SRel c M.bare w M.bare { fr := args ++ List.replicate k undefA, loc := [], h := h, lw := none } { tmps := vs.toArray ++ Array.replicate k undef, defers := [] } w where
  hr := by subst hw; exact r.turn (ext_bare M) rfl rfl rfl rfl
  lr := ⟨fun s g b hs => by simp [locGet] at hs, fun _ _ => rfl, fun s s' x x' hs => by simp [locGet] at hs⟩
  fr := by
    show Rvs M.bare _ _
    have h1 : Rvs M.bare args vs := Rvs.mono (ext_bare M) _ _ (.inr hn) hv
    have h2 : Rvs M.bare (List.replicate k undefA) (List.replicate k undef) := Rvs.replicate k rfl
    have := Rvs.append h1 h2
    simpa using this
  df := rfl
  lo := by subst hw; exact r.size
  k0 := Keeps.refl _ _
  e0 := Ext.refl _ _

theorem call_sound (ok : CfgOk c) {rec : RunF} (hL : RunLw rec) (hR : RunSound c rec) : CallSound c (acall c rec) := by
  intro f args h out h' lw e M w vs r hv hn
  have hlw : CallLw (acall c rec) := lw_acall hL (fun f g hg args h out h' lw e => ⟨(ok.tab f g hg args h out h' lw e).1, (ok.tab f g hg args h out h' lw e).2.1⟩)
  refine ⟨(hlw _ _ _ _ _ _ e).1, (hlw _ _ _ _ _ _ e).2, ?_⟩
  unfold acall at e
  split at e
  · rename_i g hg
    exact (ok.tab f g hg _ _ _ _ _ e).2.2 M w vs r hv hn
  · rename_i hT
    split at e
    · cases e
    · rename_i fn hfn
      split at e
      · cases e
      · rename_i b hb
        split at e
        · cases e
        · rename_i hname
          refine ⟨callFunc_run hfn hb (by simpa using hname) _ _, ?_⟩
          have hlen : args.length = vs.length := hv.length
          have hs := entry_rel (c := c) r hv hn (fn.ntmps - args.length) rfl
          have hchk := ok.chk f fn b hT hfn hb
          have hsz : vs.toArray ++ Array.replicate (fn.ntmps - vs.toArray.size) undef = vs.toArray ++ Array.replicate (fn.ntmps - args.length) undef := by simp [hlen]
          have hret : ∀ (s' : S) (rs : List AV), LwP h s'.h s'.lw → resultsA c s' fn.results.toList = some rs → leave h (.ret (tupA rs)) s' = some (out, h', lw) → ∀ (a : Act) (w' : World), (∃ M', SRel c M.bare w M' s' a w') →
              a.defers = [] ∧ ∃ v, (results fn a.tmps).run c.P w' = .ok v w' ∧ (∃ M', HStep c.w0 M w M' h' w' ∧ OutOk M' out (.returned v)) := by
            rintro s' rs hl hrs hle a w' ⟨M', h2⟩
            obtain ⟨x, hx, hrun⟩ := results_rel h2 hrs
            refine ⟨h2.df, x, hrun, ?_⟩
            have hnb : noBx (tupA rs) = true := by
              unfold leave at hle
              split at hle
              · rename_i hh; exact hh
              · cases hle
            have st := back_locs h2.hr h2.k0 h2.e0
            obtain ⟨rfl, M3, k1, k2⟩ := leave_ok r st hl hle (x := x) (Rv.mono (ext_locs M' M) _ _ (.inr hnb) hx)
            exact ⟨M3, k1, x, rfl, k2⟩
          refine calls_of_wp hfn hb ?_
          rw [hsz]
          split at e
          · rename_i s' hrun
            simp only [Option.bind_eq_some_iff] at e
            obtain ⟨rs, hrs, e⟩ := e
            refine wp_mono (hR _ _ _ _ _ hrun hchk _ _ _ _ _ hs) ?_
            intro ex a w' q
            cases ex with
            | normal => exact hret s' rs (hL _ _ _ _ _ hrun _ (LwP.refl _ _)) hrs e a w' q.2
            | ret => obtain ⟨q, _⟩ := q; cases q
            | exit i => obtain ⟨q, _⟩ := q; cases q
            | panic ch => obtain ⟨_, _, q, _⟩ := q; cases q
            | _ => exact q.elim
          · rename_i s' hrun
            simp only [Option.bind_eq_some_iff] at e
            obtain ⟨rs, hrs, e⟩ := e
            refine wp_mono (hR _ _ _ _ _ hrun hchk _ _ _ _ _ hs) ?_
            intro ex a w' q
            cases ex with
            | ret => exact hret s' rs (hL _ _ _ _ _ hrun _ (LwP.refl _ _)) hrs e a w' q.2
            | normal => obtain ⟨q, _⟩ := q; cases q
            | exit i => obtain ⟨q, _⟩ := q; cases q
            | panic ch => obtain ⟨_, _, q, _⟩ := q; cases q
            | _ => exact q.elim
          · rename_i v s' hrun
            refine wp_mono (hR _ _ _ _ _ hrun hchk _ _ _ _ _ hs) ?_
            intro ex a w' q
            cases ex with
            | panic ch =>
              obtain ⟨q0, v', q, x, M', rfl, hx, hr', hk', he'⟩ := q
              cases q
              refine ⟨q0, ?_⟩
              have hnb : noBx v = true := by
                unfold leave at e
                split at e
                · rename_i hh; exact hh
                · cases e
              have st := back_locs hr' hk' he'
              obtain ⟨rfl, M3, k1, k2⟩ := leave_ok r st (hL _ _ _ _ _ hrun _ (LwP.refl _ _)) e (x := x) (Rv.mono (ext_locs M' M) _ _ (.inr hnb) hx)
              exact ⟨M3, k1, x, rfl, k2⟩
            | normal => obtain ⟨q, _⟩ := q; cases q
            | ret => obtain ⟨q, _⟩ := q; cases q
            | exit i => obtain ⟨q, _⟩ := q; cases q
            | _ => exact q.elim
          · cases e

theorem tab_lw (ok : CfgOk c) : ∀ f g, c.T f = some g → ∀ args h out h' lw, g args h = some (out, h', lw) → LwP h h' lw ∧ noBx (outV out) = true :=
  fun f g hg args h out h' lw e => ⟨(ok.tab f g hg args h out h' lw e).1, (ok.tab f g hg args h out h' lw e).2.1⟩

theorem codeN_ok (ok : CfgOk c) : ∀ n, RunLw (acodeN c n) ∧ RunSound c (acodeN c n) ∧ LoopSound c n (acodeN c n)
  | 0 => ⟨fun f code s x s' e => by simp [acodeN] at e, fun f code s x s' e => by simp [acodeN] at e, fun f b s x s' e => by simp [acodeN] at e⟩
  | n + 1 => by
    obtain ⟨h1, h2, h3⟩ := codeN_ok ok n
    have hc := call_sound ok h1 h2
    refine ⟨?_, ?_, ?_⟩
    · intro f code s x s' e h0 h
      exact lw_code h1 (lw_acall h1 (tab_lw ok)) code s x s' e h0 h
    · intro f code s x s' e hk A we M a w h
      exact code_sound ok.mix h3 hc code hk s x s' e A we M a w h
    · intro f b s x s' e hk A we M a w h
      exact code_round h3 hk (code_sound ok.mix h3 hc b hk) e h

/-- calls go on as the machine says -/
theorem callN_sound (ok : CfgOk c) (n : Nat) : CallSound c (acallN c n) := call_sound ok (codeN_ok ok n).1 (codeN_ok ok n).2.1
end Go.Proofs.Ytmglahnoemgieaa.Ax
namespace Go.Proofs.Ytmglahnoemgieaa.Ax
open Go Go.RowKit
set_option linter.unusedSimpArgs false
set_option linter.unusedVariables false

variable {c : Cfg}
def CLe (a b : CallF) : Prop := ∀ f args h r, a f args h = some r → b f args h = some r
def RLe (a b : RunF) : Prop := ∀ f code s r, a f code s = some r → b f code s = some r
theorem CLe.refl (a : CallF) : CLe a a := fun _ _ _ _ h => h
theorem RLe.refl (a : RunF) : RLe a a := fun _ _ _ _ h => h
theorem RLe.trans {a b d : RunF} (h : RLe a b) (k : RLe b d) : RLe a d := fun _ _ _ _ e => k _ _ _ _ (h _ _ _ _ e)

section mono
variable {a b : CallF}
theorem mono_doHeap (hab : CLe a b) {h : H} {r : HReq} {x : HRes} (e : doHeap c a h r = some x) : doHeap c b h r = some x := by
  cases r with
  | call f args =>
    simp only [doHeap] at e ⊢
    cases ha : a f args h with
    | none => rw [ha] at e; cases e
    | some y => rw [hab _ _ _ _ ha]; rw [ha] at e; exact e
  | _ => exact e
theorem mono_aone (H : CLe a b) {f : FuncId} {o : Oper} {s : S} {x} (e : aone c a f o s = some x) : aone c b f o s = some x := by
  unfold aone at e ⊢
  cases hr : aop c f s.fr o with
  | none => rw [hr] at e; cases e
  | some r =>
    rw [hr] at e
    cases r with
    | heap k =>
      simp only at e ⊢
      cases hd : doHeap c a s.h k with
      | none => rw [hd] at e; cases e
      | some y => rw [mono_doHeap H hd]; rw [hd] at e; exact e
    | _ => exact e
theorem mono_astep (H : CLe a b) {f : FuncId} {ops : Array Oper} {o : Oper} {s : S} {x} (e : astep c a f ops o s = some x) : astep c b f ops o s = some x := by
  unfold astep at e ⊢
  split
  · rename_i hw; rw [if_pos hw] at e; exact mono_aone H e
  · rename_i hw; rw [if_neg hw] at e; exact e
theorem mono_aops (H : CLe a b) {f : FuncId} {ops : Array Oper} : ∀ {l : List Oper} {s : S} {x}, aops c a f ops l s = some x → aops c b f ops l s = some x
  | [], s, x, e => e
  | o :: l, s, x, e => by
    simp only [aops] at e ⊢
    cases hs : astep c a f ops o s with
    | none => rw [hs] at e; cases e
    | some y =>
      rw [mono_astep H hs]
      rw [hs] at e
      obtain ⟨p, s', d⟩ := y
      cases p with
      | some v => exact e
      | none =>
        simp only at e ⊢
        cases hr : aops c a f ops l s' with
        | none => rw [hr] at e; cases e
        | some z => rw [mono_aops H hr]; rw [hr] at e; exact e
theorem mono_aregion (H : CLe a b) {f : FuncId} {id : Nat} {ops : Array Oper} {draw : Bool} {s : S} {x} (e : aregion c a f id ops draw s = some x) : aregion c b f id ops draw s = some x := by
  unfold aregion at e ⊢
  cases hs : aops c a f ops ops.toList s with
  | none => rw [hs] at e; cases e
  | some y => rw [mono_aops H hs]; rw [hs] at e; exact e
end mono
theorem mono_acall {a b : RunF} (H : RLe a b) : CLe (acall c a) (acall c b) := by
  intro f args h r e
  unfold acall at e ⊢
  split at e
  · exact e
  · split at e
    · cases e
    · rename_i fn hfn
      split at e
      · cases e
      · rename_i body hb
        split at e
        · cases e
        · rename_i hn
          simp only [hfn, hb, hn]
          simp only [Bool.false_eq_true, if_false]
          cases hr : a f body { fr := args ++ List.replicate (fn.ntmps - args.length) undefA, loc := [], h := h, lw := none } with
          | none => rw [hr] at e; cases e
          | some y => rw [H _ _ _ _ hr]; rw [hr] at e; exact e
theorem mono_code {a b : RunF} (H : RLe a b) {f : FuncId} : ∀ {code : Code} {s : S} {x}, acodeS c a f code s = some x → acodeS c b f code s = some x := by
  intro code
  induction code with
  | region id ops draw => intro s x e; exact mono_aregion (mono_acall H) e
  | seq p q ihp ihq =>
    intro s x e
    simp only [acodeS] at e ⊢
    cases hp : acodeS c a f p s with
    | none => rw [hp] at e; cases e
    | some y =>
      rw [ihp hp]; rw [hp] at e
      obtain ⟨ex, s'⟩ := y
      cases ex with
      | normal => exact ihq e
      | _ => exact e
  | cond t p q ihp ihq =>
    intro s x e
    simp only [acodeS] at e ⊢
    cases hb : isBoolA (ev s.fr t) with
    | none => rw [hb] at e; cases e
    | some t =>
      rw [hb] at e
      cases t with
      | true => exact ihp e
      | false => exact ihq e
  | block id p ih =>
    intro s x e
    simp only [acodeS] at e ⊢
    cases hp : acodeS c a f p s with
    | none => rw [hp] at e; cases e
    | some y => rw [ih hp]; rw [hp] at e; exact e
  | loop p ih =>
    intro s x e
    simp only [acodeS] at e ⊢
    cases hp : acodeS c a f p s with
    | none => rw [hp] at e; cases e
    | some y =>
      rw [ih hp]; rw [hp] at e
      obtain ⟨ex, s'⟩ := y
      cases ex with
      | normal => exact H _ _ _ _ e
      | _ => exact e
  | _ => intro s x e; exact e

theorem codeN_succ : ∀ n, RLe (acodeN c n) (acodeN c (n + 1))
  | 0 => fun f code s r e => by simp [acodeN] at e
  | n + 1 => fun f code s r e => mono_code (codeN_succ n) e
theorem codeN_le {n m : Nat} (h : n ≤ m) : RLe (acodeN c n) (acodeN c m) := by
  induction h with
  | refl => exact RLe.refl _
  | step _ ih => exact ih.trans (codeN_succ _)

/-! ### the limit -/
open Classical in
noncomputable def acodeI (c : Cfg) : RunF := fun f code s => if h : ∃ r n, acodeN c n f code s = some r then some h.choose else none
noncomputable def acallI (c : Cfg) : CallF := acall c (acodeI c)

theorem codeI_of {n : Nat} {f : FuncId} {code : Code} {s : S} {r} (h : acodeN c n f code s = some r) : acodeI c f code s = some r := by
  have hex : ∃ r n, acodeN c n f code s = some r := ⟨r, n, h⟩
  unfold acodeI
  rw [dif_pos hex]
  obtain ⟨m, hm⟩ := hex.choose_spec
  have h1 := codeN_le (c := c) (Nat.le_max_left n m) _ _ _ _ h
  have h2 := codeN_le (c := c) (Nat.le_max_right n m) _ _ _ _ hm
  rw [h1] at h2
  exact h2.symm
theorem codeI_le (n : Nat) : RLe (acodeN c n) (acodeI c) := fun _ _ _ _ h => codeI_of h
theorem codeI_ex {f : FuncId} {code : Code} {s : S} {r} (h : acodeI c f code s = some r) : ∃ n, acodeN c n f code s = some r := by
  unfold acodeI at h
  split at h
  · rename_i hex; cases h; exact hex.choose_spec
  · cases h

theorem max_code {n m : Nat} {f : FuncId} {code : Code} {s : S} {r} (h : acodeS c (acodeN c n) f code s = some r) : acodeS c (acodeN c (max n m)) f code s = some r := mono_code (codeN_le (Nat.le_max_left n m)) h
theorem max_code' {n m : Nat} {f : FuncId} {code : Code} {s : S} {r} (h : acodeS c (acodeN c m) f code s = some r) : acodeS c (acodeN c (max n m)) f code s = some r := mono_code (codeN_le (Nat.le_max_right n m)) h

theorem cont_acall {f : FuncId} {args : List AV} {h : H} {r} (e : acallI c f args h = some r) : ∃ n, acallN c n f args h = some r := by
  unfold acallI acall at e
  unfold acallN acall
  split at e
  · exact ⟨0, e⟩
  · split at e
    · cases e
    · rename_i fn hfn
      split at e
      · cases e
      · rename_i body hb
        split at e
        · cases e
        · rename_i hn
          simp only [hb, hn]
          simp only [Bool.false_eq_true, if_false]
          cases hr : acodeI c f body { fr := args ++ List.replicate (fn.ntmps - args.length) undefA, loc := [], h := h, lw := none } with
          | none => rw [hr] at e; cases e
          | some y =>
            obtain ⟨n, hn⟩ := codeI_ex hr
            exact ⟨n, by rw [hn]; rw [hr] at e; exact e⟩
theorem cont_doHeap {h : H} {r : HReq} {x : HRes} (e : doHeap c (acallI c) h r = some x) : ∃ n, doHeap c (acallN c n) h r = some x := by
  cases r with
  | call f args =>
    simp only [doHeap] at e ⊢
    cases ha : acallI c f args h with
    | none => rw [ha] at e; cases e
    | some y =>
      obtain ⟨n, hn⟩ := cont_acall ha
      exact ⟨n, by rw [hn]; rw [ha] at e; exact e⟩
  | _ => exact ⟨0, e⟩
theorem cont_aone {f : FuncId} {o : Oper} {s : S} {x} (e : aone c (acallI c) f o s = some x) : ∃ n, aone c (acallN c n) f o s = some x := by
  unfold aone at e ⊢
  cases hr : aop c f s.fr o with
  | none => rw [hr] at e; cases e
  | some r =>
    rw [hr] at e
    cases r with
    | heap k =>
      simp only at e ⊢
      cases hd : doHeap c (acallI c) s.h k with
      | none => rw [hd] at e; cases e
      | some y =>
        obtain ⟨n, hn⟩ := cont_doHeap hd
        exact ⟨n, by rw [hn]; rw [hd] at e; exact e⟩
    | _ => exact ⟨0, e⟩
theorem cont_astep {f : FuncId} {ops : Array Oper} {o : Oper} {s : S} {x} (e : astep c (acallI c) f ops o s = some x) : ∃ n, astep c (acallN c n) f ops o s = some x := by
  unfold astep at e ⊢
  split
  · rename_i hw; rw [if_pos hw] at e; exact cont_aone e
  · rename_i hw; rw [if_neg hw] at e; exact ⟨0, e⟩
theorem callN_le {n m : Nat} (h : n ≤ m) : CLe (acallN c n) (acallN c m) := mono_acall (codeN_le h)
theorem cont_aops {f : FuncId} {ops : Array Oper} : ∀ {l : List Oper} {s : S} {x}, aops c (acallI c) f ops l s = some x → ∃ n, aops c (acallN c n) f ops l s = some x
  | [], s, x, e => ⟨0, e⟩
  | o :: l, s, x, e => by
    simp only [aops] at e ⊢
    cases hs : astep c (acallI c) f ops o s with
    | none => rw [hs] at e; cases e
    | some y =>
      obtain ⟨n, hn⟩ := cont_astep hs
      rw [hs] at e
      obtain ⟨p, s', d⟩ := y
      cases p with
      | some v => exact ⟨n, by rw [hn]; exact e⟩
      | none =>
        simp only at e
        cases hr : aops c (acallI c) f ops l s' with
        | none => rw [hr] at e; cases e
        | some z =>
          obtain ⟨m, hm⟩ := cont_aops hr
          refine ⟨max n m, ?_⟩
          rw [mono_astep (callN_le (Nat.le_max_left n m)) hn]
          simp only
          rw [mono_aops (callN_le (Nat.le_max_right n m)) hm]
          rw [hr] at e; exact e
theorem cont_aregion {f : FuncId} {id : Nat} {ops : Array Oper} {draw : Bool} {s : S} {x} (e : aregion c (acallI c) f id ops draw s = some x) : ∃ n, aregion c (acallN c n) f id ops draw s = some x := by
  unfold aregion at e ⊢
  cases hs : aops c (acallI c) f ops ops.toList s with
  | none => rw [hs] at e; cases e
  | some y =>
    obtain ⟨n, hn⟩ := cont_aops hs
    exact ⟨n, by rw [hn]; rw [hs] at e; exact e⟩
theorem cont_code {f : FuncId} : ∀ {code : Code} {s : S} {x}, acodeS c (acodeI c) f code s = some x → ∃ n, acodeS c (acodeN c n) f code s = some x := by
  intro code
  induction code with
  | region id ops draw => intro s x e; exact cont_aregion e
  | seq p q ihp ihq =>
    intro s x e
    simp only [acodeS] at e ⊢
    cases hp : acodeS c (acodeI c) f p s with
    | none => rw [hp] at e; cases e
    | some y =>
      obtain ⟨n, hn⟩ := ihp hp
      rw [hp] at e
      obtain ⟨ex, s'⟩ := y
      cases ex with
      | normal =>
        obtain ⟨m, hm⟩ := ihq e
        exact ⟨max n m, by rw [max_code hn]; exact max_code' hm⟩
      | _ => exact ⟨n, by rw [hn]; exact e⟩
  | cond t p q ihp ihq =>
    intro s x e
    simp only [acodeS] at e ⊢
    cases hb : isBoolA (ev s.fr t) with
    | none => rw [hb] at e; cases e
    | some t =>
      rw [hb] at e
      cases t with
      | true => exact ihp e
      | false => exact ihq e
  | block id p ih =>
    intro s x e
    simp only [acodeS] at e ⊢
    cases hp : acodeS c (acodeI c) f p s with
    | none => rw [hp] at e; cases e
    | some y =>
      obtain ⟨n, hn⟩ := ih hp
      exact ⟨n, by rw [hn]; rw [hp] at e; exact e⟩
  | loop p ih =>
    intro s x e
    simp only [acodeS] at e ⊢
    cases hp : acodeS c (acodeI c) f p s with
    | none => rw [hp] at e; cases e
    | some y =>
      obtain ⟨n, hn⟩ := ih hp
      rw [hp] at e
      obtain ⟨ex, s'⟩ := y
      cases ex with
      | normal =>
        obtain ⟨m, hm⟩ := codeI_ex e
        refine ⟨max n m, ?_⟩
        rw [max_code hn]
        exact codeN_le (Nat.le_max_right n m) _ _ _ _ hm
      | _ => exact ⟨n, by rw [hn]; exact e⟩
  | _ => intro s x e; exact ⟨0, e⟩

theorem opt_eq {α : Type} {a b : Option α} (h1 : ∀ r, a = some r → b = some r) (h2 : ∀ r, b = some r → a = some r) : a = b := by
  cases a with
  | some x => exact (h1 x rfl).symm
  | none => cases b with
    | none => rfl
    | some y => exact h2 y rfl

theorem codeI_eq (f : FuncId) (code : Code) (s : S) : acodeI c f code s = acodeS c (acodeI c) f code s := by
  refine opt_eq ?_ ?_
  · intro r h
    obtain ⟨n, hn⟩ := codeI_ex h
    cases n with
    | zero => simp [acodeN] at hn
    | succ n => exact mono_code (codeI_le n) hn
  · intro r h
    obtain ⟨n, hn⟩ := cont_code h
    exact codeI_of (n := n + 1) hn

theorem callI_sound (ok : CfgOk c) : CallSound c (acallI c) := by
  intro f args h out h' lw e
  obtain ⟨n, hn⟩ := cont_acall e
  exact callN_sound ok n f args h out h' lw hn

/-! ### how it goes -/
def andThen (r : Option (Ex × S)) (k : S → Option (Ex × S)) : Option (Ex × S) :=
  match r with
  | some (.normal, s) => k s
  | r => r
def inBlk (id : Nat) (r : Option (Ex × S)) : Option (Ex × S) :=
  match r with
  | some (.exit i, s) => if i = id then some (.normal, s) else some (.exit i, s)
  | r => r
def ifA (t : Option Bool) (a b : Option (Ex × S)) : Option (Ex × S) :=
  match t with
  | some true => a
  | some false => b
  | none => none
variable {f : FuncId} {s : S}
theorem I_skip : acodeI c f .skip s = some (.normal, s) := by rw [codeI_eq]; rfl
theorem I_label {l : Nat} : acodeI c f (.label l) s = some (.normal, s) := by rw [codeI_eq]; rfl
theorem I_ret : acodeI c f .ret s = some (.ret, s) := by rw [codeI_eq]; rfl
theorem I_exit {i : Nat} : acodeI c f (.exit i) s = some (.exit i, s) := by rw [codeI_eq]; rfl
theorem I_region {id : Nat} {ops : Array Oper} {d : Bool} : acodeI c f (.region id ops d) s = aregion c (acallI c) f id ops d s := by rw [codeI_eq]; rfl
theorem I_seq {a b : Code} : acodeI c f (.seq a b) s = andThen (acodeI c f a s) (fun s => acodeI c f b s) := by
  rw [codeI_eq, codeI_eq f a s]
  simp only [acodeS, andThen]
  cases acodeS c (acodeI c) f a s with
  | none => rfl
  | some y =>
    obtain ⟨ex, s'⟩ := y
    cases ex with
    | normal => simp only; rw [codeI_eq]
    | _ => rfl
theorem I_cond {x : Operand} {a b : Code} : acodeI c f (.cond x a b) s = ifA (isBoolA (ev s.fr x)) (acodeI c f a s) (acodeI c f b s) := by
  rw [codeI_eq, codeI_eq f a s, codeI_eq f b s]
  simp only [acodeS, ifA]
  rcases isBoolA (ev s.fr x) with _ | _ | _ <;> rfl
theorem I_block {id : Nat} {a : Code} : acodeI c f (.block id a) s = inBlk id (acodeI c f a s) := by
  rw [codeI_eq, codeI_eq f a s]
  simp only [acodeS, inBlk]
  rcases acodeS c (acodeI c) f a s with _ | ⟨_ | _ | _ | _, _⟩ <;> rfl
theorem I_loop {a : Code} : acodeI c f (.loop a) s = andThen (acodeI c f a s) (fun s => acodeI c f (.loop a) s) := by
  rw [codeI_eq, codeI_eq f a s]
  simp only [acodeS, andThen]
  rcases acodeS c (acodeI c) f a s with _ | ⟨_ | _ | _ | _, _⟩ <;> rfl
theorem then_normal {s : S} {k : S → Option (Ex × S)} : andThen (some (.normal, s)) k = k s := rfl
theorem then_ret {s : S} {k : S → Option (Ex × S)} : andThen (some (.ret, s)) k = some (.ret, s) := rfl
theorem then_exit {s : S} {i : Nat} {k : S → Option (Ex × S)} : andThen (some (.exit i, s)) k = some (.exit i, s) := rfl
theorem then_pan {s : S} {v : AV} {k : S → Option (Ex × S)} : andThen (some (.pan v, s)) k = some (.pan v, s) := rfl
theorem then_ite {p : Prop} [Decidable p] {a b : Option (Ex × S)} {k : S → Option (Ex × S)} : andThen (if p then a else b) k = if p then andThen a k else andThen b k := by split <;> rfl
theorem blk_normal {s : S} {i : Nat} : inBlk i (some (.normal, s)) = some (.normal, s) := rfl
theorem blk_ret {s : S} {i : Nat} : inBlk i (some (.ret, s)) = some (.ret, s) := rfl
theorem blk_exit {s : S} {i j : Nat} : inBlk i (some (.exit j, s)) = if j = i then some (.normal, s) else some (.exit j, s) := rfl
theorem blk_pan {s : S} {i : Nat} {v : AV} : inBlk i (some (.pan v, s)) = some (.pan v, s) := rfl
theorem blk_ite {p : Prop} [Decidable p] {i : Nat} {a b : Option (Ex × S)} : inBlk i (if p then a else b) = if p then inBlk i a else inBlk i b := by split <;> rfl
theorem if_true {a b : Option (Ex × S)} : ifA (some true) a b = a := rfl
theorem if_false {a b : Option (Ex × S)} : ifA (some false) a b = b := rfl
theorem ifA_some {t : Bool} {a b : Option (Ex × S)} : ifA (some t) a b = if t then a else b := by cases t <;> rfl

/-- what a call ends in -/
def endA (c : Cfg) (fn : Func) (h : H) (r : Option (Ex × S)) : Option (Out × H × Option Nat) :=
  match r with
  | some (.normal, s) | some (.ret, s) => (resultsA c s fn.results.toList).bind fun vs => leave h (.ret (tupA vs)) s
  | some (.pan v, s) => leave h (.pan v) s
  | _ => none
theorem callI_eq {fn : Func} {b : Code} {args : List AV} {h : H} (hT : c.T f = none) (hf : c.P.funcs[f]? = some fn) (hb : fn.body = some b) (hn : (fn.name == "runtime.NumGoroutine") = false) :
    acallI c f args h = endA c fn h (acodeI c f b { fr := args ++ List.replicate (fn.ntmps - args.length) undefA, loc := [], h := h, lw := none }) := by
  unfold acallI acall endA
  simp only [hT, hf, hb, hn]
  rfl
theorem end_normal {fn : Func} {h : H} {s : S} : endA c fn h (some (.normal, s)) = (resultsA c s fn.results.toList).bind fun vs => leave h (.ret (tupA vs)) s := rfl
theorem end_ret {fn : Func} {h : H} {s : S} : endA c fn h (some (.ret, s)) = (resultsA c s fn.results.toList).bind fun vs => leave h (.ret (tupA vs)) s := rfl
theorem end_pan {fn : Func} {h : H} {s : S} {v : AV} : endA c fn h (some (.pan v, s)) = leave h (.pan v) s := rfl
theorem end_ite {p : Prop} [Decidable p] {fn : Func} {h : H} {a b : Option (Ex × S)} : endA c fn h (if p then a else b) = if p then endA c fn h a else endA c fn h b := by split <;> rfl
end Go.Proofs.Ytmglahnoemgieaa.Ax
namespace Go.Proofs.Ytmglahnoemgieaa.Ax
open Go Go.RowKit
set_option linter.unusedSimpArgs false
set_option linter.unusedVariables false

/-! ### what asks nothing of memory -/
theorem now_pure {α : Type} (P : Program) (a : α) : semNow P (pure a) = some a := rfl
theorem now_bind {α β : Type} (P : Program) (s : Sem α) (k : α → Sem β) : semNow P (s >>= k) = (semNow P s).bind fun a => semNow P (k a) := by
  show semNow P (Sem.bind s k) = _
  induction s with
  | pure a => rfl
  | program g ih => simp only [Sem.bind, semNow]; exact ih P
  | _ => rfl
theorem now_und (P : Program) (t : TypeId) : semNow P (underlying t) = P.underlying t := by
  unfold underlying
  rw [now_bind]
  show (some P).bind _ = _
  simp only [Option.bind]
  cases P.underlying t <;> rfl
theorem now_stuck {α : Type} (P : Program) (m : String) : semNow P (stuck m : Sem α) = none := rfl

def p1 (P : Program) (a : AV) (k : Value → Sem Value) : Option Req :=
  match toVal a with
  | some x => (match semNow P (k x) with | some v => some (.done (norm v)) | none => none)
  | none => none
def p2 (P : Program) (a b : AV) (k : Value → Value → Sem Value) : Option Req :=
  match toVal a, toVal b with
  | some x, some y => (match semNow P (k x y) with | some v => some (.done (norm v)) | none => none)
  | _, _ => none
def p3 (P : Program) (a b e : AV) (k : Value → Value → Value → Sem Value) : Option Req :=
  match toVal a, toVal b, toVal e with
  | some x, some y, some z => (match semNow P (k x y z) with | some v => some (.done (norm v)) | none => none)
  | _, _, _ => none

theorem plain_end {P : Program} {s : Sem Value} : (match semNow P (do pure (Next.value (← s))) with | some (.value v) => some (Req.done (norm v)) | _ => none) = (match semNow P s with | some v => some (.done (norm v)) | none => none) := by
  rw [now_bind]
  cases semNow P s <;> rfl
theorem plain_p1 {P : Program} {fr : List AV} {o : Oper} {x : Operand} {k : Value → Sem Value} (h1 : o.op.operands.toList = [x]) (h2 : ∀ ρ, execOp ρ o = do pure (.value (← k (ρ x)))) : plainOp P fr o = p1 P (ev fr x) k := by
  unfold plainOp p1
  rw [h1, h2]
  cases h : toVal (ev fr x) with
  | none => simp [h]
  | some v =>
    simp only [List.all_cons, List.all_nil, h, Option.isSome, Bool.and_true, if_true, Option.getD]
    exact plain_end
theorem plain_p2 {P : Program} {fr : List AV} {o : Oper} {x y : Operand} {k : Value → Value → Sem Value} (h1 : o.op.operands.toList = [x, y]) (h2 : ∀ ρ, execOp ρ o = do pure (.value (← k (ρ x) (ρ y)))) : plainOp P fr o = p2 P (ev fr x) (ev fr y) k := by
  unfold plainOp p2
  rw [h1, h2]
  cases h : toVal (ev fr x) with
  | none => simp [h]
  | some v =>
    cases h' : toVal (ev fr y) with
    | none => simp [h, h']
    | some u =>
      simp only [List.all_cons, List.all_nil, h, h', Option.isSome, Bool.and_true, if_true, Option.getD]
      exact plain_end
theorem plain_p3 {P : Program} {fr : List AV} {o : Oper} {x y z : Operand} {k : Value → Value → Value → Sem Value} (h1 : o.op.operands.toList = [x, y, z]) (h2 : ∀ ρ, execOp ρ o = do pure (.value (← k (ρ x) (ρ y) (ρ z)))) : plainOp P fr o = p3 P (ev fr x) (ev fr y) (ev fr z) k := by
  unfold plainOp p3
  rw [h1, h2]
  cases h : toVal (ev fr x) with
  | none => simp [h]
  | some v =>
    cases h' : toVal (ev fr y) with
    | none => simp [h, h']
    | some u =>
      cases h'' : toVal (ev fr z) with
      | none => simp [h, h', h'']
      | some u =>
        simp only [List.all_cons, List.all_nil, h, h', h'', Option.isSome, Bool.and_true, if_true, Option.getD]
        exact plain_end

theorem exec_blt {ρ : Operand → Value} {o : Oper} {k : Call} {b : Builtin} (ho : o.op = .call k) (hk : k.callee = .builtin b) : execOp ρ o = builtin b k.argTypes o.type (k.args.map fun | .const _ => true | _ => false) (k.args.map ρ) := by
  simp only [execOp, ho, resolve, hk]
  rfl
theorem now_bounds {α : Type} {P : Program} {k : IntKind} {i n : Int} {b : BoundsCode} : semNow P (boundsPanic k i n b : Sem α) = none := by
  unfold boundsPanic
  simp only
  split
  · rfl
  · rfl

section ops
variable {c : Cfg} {f : FuncId} {fr : List AV} {d : Option Tmp} {ty : TypeId} {pos : String} {af : Array Edge} {g : Option (Nat × Bool)}

theorem a_move {x : Operand} : aop c f fr { dst := d, op := .move x, type := ty, pos := pos, after := af, guard := g } = some (.done (ev fr x)) := rfl
theorem a_assign {x : Operand} : aop c f fr { dst := d, op := .assign x, type := ty, pos := pos, after := af, guard := g } = some (.done (ev fr x)) := rfl
def pickA (t a b : AV) : Option Req := match t with
  | .val (.bool t) => some (.done (if t then a else b))
  | _ => none
theorem a_pick {x p q : Operand} : aop c f fr { dst := d, op := .pick x p q, type := ty, pos := pos, after := af, guard := g } = pickA (ev fr x) (ev fr p) (ev fr q) := rfl
theorem pickA_bool {t : Bool} {a b : AV} : pickA (.val (.bool t)) a b = some (.done (if t then a else b)) := rfl
def newB (inHeap : Bool) (d : Tmp) (cells : List AV) : Option Req :=
  if inHeap then (if noBxs cells then some (.heap (.new cells cells.length none)) else none) else some (.box (.new d cells))
theorem newReq_eq {d : Tmp} {cells : List AV} : newReq c f (some d) cells = newB ((c.hb f).contains d) d cells := by
  unfold newReq newB
  simp only [List.contains_iff_mem]
theorem newB_box {d : Tmp} {cells : List AV} : newB false d cells = some (.box (.new d cells)) := rfl
theorem newB_heap {d : Tmp} {cells : List AV} : newB true d cells = if noBxs cells = true then some (.heap (.new cells cells.length none)) else none := rfl
theorem a_alloc {e : TypeId} {d : Tmp} : aop c f fr { dst := some d, op := .alloc e, type := ty, pos := pos, after := af, guard := g } = (zeroT c.P e).bind fun z => newB ((c.hb f).contains d) d (cellsOf (norm1 z)) := by
  simp only [aop, newReq_eq]
theorem a_box {e : TypeId} {x : Operand} {d : Tmp} : aop c f fr { dst := some d, op := .box e x, type := ty, pos := pos, after := af, guard := g } = newB ((c.hb f).contains d) d (cellsOf (ev fr x)) := by
  simp only [aop, newReq_eq]
def loadA (c : Cfg) (n : Nat) (agg : Bool) (a : AV) : Option Req := match a with
  | .bx s g off => some (.box (.load s g off n agg))
  | .ptr b g off => some (.heap (.load b g off n agg))
  | .lp cs => (takeA cs 0 n agg).map .done
  | .val (.pointer (some ad)) => (foreignA c.w0 ad 0 n).bind fun l => (takeA l 0 n agg).map .done
  | _ => none
theorem a_load {t : TypeId} {x : Operand} : aop c f fr { dst := d, op := .load t x, type := ty, pos := pos, after := af, guard := g } = (shapeT c.P t).bind fun p => loadA c p.1 p.2 (ev fr x) := rfl
theorem load_bx {n s g off : Nat} {agg : Bool} : loadA c n agg (.bx s g off) = some (.box (.load s g off n agg)) := rfl
theorem load_ptr {n s g off : Nat} {agg : Bool} : loadA c n agg (.ptr s g off) = some (.heap (.load s g off n agg)) := rfl
theorem load_lp {n : Nat} {cs : List AV} {agg : Bool} : loadA c n agg (.lp cs) = (takeA cs 0 n agg).map .done := rfl
theorem load_val {n : Nat} {ad : Addr} {agg : Bool} : loadA c n agg (.val (.pointer (some ad))) = (foreignA c.w0 ad 0 n).bind fun l => (takeA l 0 n agg).map .done := rfl
def storeA (sz : Option Nat) (a : AV) (cells : List AV) : Option Req :=
  if sz = some cells.length ∧ cells.all oneA = true then
    match a with
    | .bx s g off => some (.box (.store s g off cells))
    | .ptr b g off => if noBxs cells then some (.heap (.store b g off cells)) else none
    | _ => none
  else none
theorem a_store {t : TypeId} {x y : Operand} : aop c f fr { dst := d, op := .store t x y, type := ty, pos := pos, after := af, guard := g } = storeA (sizeT c.P t) (ev fr x) (cellsOf (ev fr y)) := rfl
theorem store_bx {n s g off : Nat} {cells : List AV} (h1 : n = cells.length) (h2 : cells.all oneA = true) : storeA (some n) (.bx s g off) cells = some (.box (.store s g off cells)) := by
  unfold storeA; rw [if_pos ⟨by rw [h1], h2⟩]
theorem store_ptr {n s g off : Nat} {cells : List AV} (h1 : n = cells.length) (h2 : cells.all oneA = true) (h3 : noBxs cells = true) : storeA (some n) (.ptr s g off) cells = some (.heap (.store s g off cells)) := by
  unfold storeA; rw [if_pos ⟨by rw [h1], h2⟩]; simp only; rw [if_pos h3]
def fieldA (k : Option Nat) (a : AV) : Option Req := match a with
  | .bx b g off => k.map fun k => .done (.bx b g (off + k))
  | .ptr b g off => k.map fun k => .done (.ptr b g (off + k))
  | .lp cs => k.map fun k => .done (.lp (cs.drop k))
  | _ => none
theorem a_fieldBx {t : TypeId} {x : Operand} {i : Nat} {s k off : Nat} (h : ev fr x = .bx s k off) : aop c f fr { dst := d, op := .fieldAddr t x i, type := ty, pos := pos, after := af, guard := g } = (fieldOff c.P t i).map fun j => .done (.bx s k (off + j)) := by
  simp only [aop, h]
theorem a_fieldPtr {t : TypeId} {x : Operand} {i : Nat} {s k off : Nat} (h : ev fr x = .ptr s k off) : aop c f fr { dst := d, op := .fieldAddr t x i, type := ty, pos := pos, after := af, guard := g } = (fieldOff c.P t i).map fun j => .done (.ptr s k (off + j)) := by
  simp only [aop, h]
theorem a_fieldLp {t : TypeId} {x : Operand} {i : Nat} {cs : List AV} (h : ev fr x = .lp cs) : aop c f fr { dst := d, op := .fieldAddr t x i, type := ty, pos := pos, after := af, guard := g } = (fieldOff c.P t i).map fun j => .done (.lp (cs.drop j)) := by
  simp only [aop, h]
def fldA (P : Program) (s : TypeId) (i : Nat) (a : AV) : Option Req := match a with
  | .bx b g off => (fieldOff P s i).map fun k => .done (.bx b g (off + k))
  | .ptr b g off => (fieldOff P s i).map fun k => .done (.ptr b g (off + k))
  | .lp cs => (fieldOff P s i).map fun k => .done (.lp (cs.drop k))
  | a => p1 P a fun x => Instr.fieldAt s x i
theorem a_field {t : TypeId} {x : Operand} {i : Nat} : aop c f fr { dst := d, op := .fieldAddr t x i, type := ty, pos := pos, after := af, guard := g } = fldA c.P t i (ev fr x) := by
  have key : plainOp c.P fr { dst := d, op := .fieldAddr t x i, type := ty, pos := pos, after := af, guard := g } = p1 c.P (ev fr x) fun x => Instr.fieldAt t x i := plain_p1 rfl (fun _ => rfl)
  simp only [aop, fldA]
  cases hx : ev fr x <;> first | rfl | (rw [hx] at key; exact key)
theorem fld_bx {P : Program} {t : TypeId} {i s k off : Nat} : fldA P t i (.bx s k off) = (fieldOff P t i).map fun j => .done (.bx s k (off + j)) := rfl
theorem fld_ptr {P : Program} {t : TypeId} {i s k off : Nat} : fldA P t i (.ptr s k off) = (fieldOff P t i).map fun j => .done (.ptr s k (off + j)) := rfl
theorem fld_lp {P : Program} {t : TypeId} {i : Nat} {cs : List AV} : fldA P t i (.lp cs) = (fieldOff P t i).map fun j => .done (.lp (cs.drop j)) := rfl
def nilA (P : Program) (fr : List AV) (o : Oper) (a : AV) : Option Req := match a with
  | .bx s g off => some (.done (.bx s g off))
  | .ptr b g off => some (.done (.ptr b g off))
  | .lp cs => some (.done (.lp cs))
  | _ => plainOp P fr o
theorem a_nil {x : Operand} : aop c f fr { dst := d, op := .nilCheck x, type := ty, pos := pos, after := af, guard := g } = nilA c.P fr { dst := d, op := .nilCheck x, type := ty, pos := pos, after := af, guard := g } (ev fr x) := by
  simp only [aop, nilA]
  cases ev fr x <;> rfl
theorem nil_bx {P : Program} {o : Oper} {s k off : Nat} : nilA P fr o (.bx s k off) = some (.done (.bx s k off)) := rfl
theorem nil_ptr {P : Program} {o : Oper} {s k off : Nat} : nilA P fr o (.ptr s k off) = some (.done (.ptr s k off)) := rfl
theorem nil_lp {P : Program} {o : Oper} {cs : List AV} : nilA P fr o (.lp cs) = some (.done (.lp cs)) := rfl
def idxA (P : Program) (t : TypeId) (a : AV) (i : AV) : Option Req := match a with
  | .sl b g off len es => (elemSize P t).bind fun (_, es') => (intOfA i).bind fun n => if es' = es ∧ 0 ≤ n ∧ n < len then some (.done (.ptr b g (off + n.toNat * es))) else none
  | .lit cs len => (elemSize P t).bind fun (_, es) => (intOfA i).bind fun n => if 0 ≤ n ∧ n < len then some (.done (.lp (cs.drop (n.toNat * es)))) else none
  | .bx s g off => (arrSize P t).bind fun (len, es) => (intOfA i).bind fun n => if 0 ≤ n ∧ n < len then some (.done (.bx s g (off + n.toNat * es))) else none
  | a => p2 P a i fun x y => Instr.indexAt t x y
theorem a_indexAddr {t : TypeId} {x i : Operand} : aop c f fr { dst := d, op := .indexAddr t x i, type := ty, pos := pos, after := af, guard := g } = idxA c.P t (ev fr x) (ev fr i) := by
  have key : plainOp c.P fr { dst := d, op := .indexAddr t x i, type := ty, pos := pos, after := af, guard := g } = p2 c.P (ev fr x) (ev fr i) fun x y => Instr.indexAt t x y := plain_p2 rfl (fun _ => rfl)
  simp only [aop, idxA]
  cases hx : ev fr x <;> first | rfl | (rw [hx] at key; exact key)
theorem idx_sl {P : Program} {t e : TypeId} {b g off len es es' : Nat} {k : IntKind} {n : Int} (h : elemSize P t = some (e, es')) : idxA P t (.sl b g off len es) (.val (.int k n)) = if es' = es ∧ 0 ≤ n ∧ n < len then some (.done (.ptr b g (off + n.toNat * es))) else none := by
  simp only [idxA, h, intOfA, Option.bind]
theorem idx_lit {P : Program} {t e : TypeId} {cs : List AV} {len es : Nat} {k : IntKind} {n : Int} (h : elemSize P t = some (e, es)) : idxA P t (.lit cs len) (.val (.int k n)) = if 0 ≤ n ∧ n < len then some (.done (.lp (cs.drop (n.toNat * es)))) else none := by
  simp only [idxA, h, intOfA, Option.bind]
theorem idx_bx {P : Program} {t : TypeId} {s g off len es : Nat} {k : IntKind} {n : Int} (h : arrSize P t = some (len, es)) : idxA P t (.bx s g off) (.val (.int k n)) = if 0 ≤ n ∧ n < len then some (.done (.bx s g (off + n.toNat * es))) else none := by
  simp only [idxA, h, intOfA, Option.bind]
theorem a_unOp {op : UnOp} {t : TypeId} {x : Operand} : aop c f fr { dst := d, op := .unOp op t x, type := ty, pos := pos, after := af, guard := g } = p1 c.P (ev fr x) (fun x => Op.unary op x) := plain_p1 rfl (fun _ => rfl)
theorem p1_not {P : Program} {b : Bool} : p1 P (.val (.bool b)) (fun x => Op.unary .not x) = some (.done (.val (.bool !b))) := rfl
theorem a_index {t : TypeId} {x y : Operand} : aop c f fr { dst := d, op := .index t x y, type := ty, pos := pos, after := af, guard := g } = p2 c.P (ev fr x) (ev fr y) (fun x y => Instr.index t x y) := plain_p2 rfl (fun _ => rfl)
def byteAt (s : ByteArray) (i : Int) : Option UInt8 := if 0 ≤ i then s[i.toNat]? else none
theorem p2_index {P : Program} {t : TypeId} {s : ByteArray} {k : IntKind} {i : Int} (h : P.underlying t = some .string) :
    p2 P (.val (.string s)) (.val (.int k i)) (fun x y => Instr.index t x y) = (byteAt s i).map fun b => .done (.val (.int .u8 b.toNat)) := by
  simp only [p2, toVal, Instr.index, asIntOf, now_bind, now_pure, now_und, h, Option.bind]
  show (match semNow P (match byteAt s i with | some b => pure (.int .u8 b.toNat) | none => boundsPanic k i s.size .index) with | some v => some (Req.done (norm v)) | none => none) = _
  cases byteAt s i with
  | none => simp only [now_bounds, Option.map]
  | some b => rfl
def extA (P : Program) (a : AV) (i : Nat) : Option Req := match a with
  | .tup l => (l[i]?).map .done
  | a => p1 P a fun x => Instr.extract x i
theorem a_extract {x : Operand} {i : Nat} : aop c f fr { dst := d, op := .extract x i, type := ty, pos := pos, after := af, guard := g } = extA c.P (ev fr x) i := by
  have key : plainOp c.P fr { dst := d, op := .extract x i, type := ty, pos := pos, after := af, guard := g } = p1 c.P (ev fr x) fun x => Instr.extract x i := plain_p1 rfl (fun _ => rfl)
  simp only [aop, extA]
  cases hx : ev fr x <;> first | rfl | (rw [hx] at key; exact key)
theorem ext_tup {P : Program} {l : List AV} {i : Nat} : extA P (.tup l) i = (l[i]?).map .done := rfl
def ifcA (d : Option TypeDesc) (t : TypeId) (a : AV) : Option Req := match d with
  | some (.interface _) => none
  | some _ => some (.done (.ifc t a))
  | none => none
theorem a_iface {t : TypeId} {x : Operand} : aop c f fr { dst := d, op := .makeInterface t x, type := ty, pos := pos, after := af, guard := g } = ifcA (c.P.underlying t) t (ev fr x) := by
  simp only [aop, ifcA]
  cases c.P.underlying t with
  | none => rfl
  | some u => cases u <;> rfl
theorem a_panic {x : Operand} {t : TypeId} {y : AV} (h : ev fr x = .ifc t y) : aop c f fr { dst := d, op := .panic x, type := ty, pos := pos, after := af, guard := g } = some (.pan (.ifc t y)) := by
  simp only [aop, h]
/-! calls -/
theorem a_call {q : FuncId} {xs : Array Operand} {ts : Array TypeId} : aop c f fr { dst := d, op := .call { callee := .value (.func q), args := xs, argTypes := ts }, type := ty, pos := pos, after := af, guard := g } =
    if noBxs (xs.toList.map (ev fr)) = true then some (.heap (.call q (xs.toList.map (ev fr)))) else none := by
  simp only [aop, ev, Array.toList_empty, List.map_nil, List.nil_append, List.append_nil]
def lenA (P : Program) (t : TypeId) (a : AV) : Option Req := match a with
  | .sl _ _ _ len _ => if isSl (P.underlying t) then some (.done (.val (.int .i64 len))) else none
  | .lit _ len => if isSl (P.underlying t) then some (.done (.val (.int .i64 len))) else none
  | a => p1 P a fun x => Builtin.len_ #[t] 3 #[x]
theorem a_len {x : Operand} {t : TypeId} : aop c f fr { dst := d, op := .call { callee := .builtin .len, args := #[x], argTypes := #[t] }, type := ty, pos := pos, after := af, guard := g } = lenA c.P t (ev fr x) := by
  simp only [aop, lenA, List.map_cons, List.map_nil]
  have key : plainOp c.P fr { dst := d, op := .call { callee := .builtin .len, args := #[x], argTypes := #[t] }, type := ty, pos := pos, after := af, guard := g } = p1 c.P (ev fr x) fun x => Builtin.len_ #[t] 3 #[x] := plain_p1 rfl (fun ρ => by rw [exec_blt rfl rfl]; simp only [List.map_toArray, List.map_cons, List.map_nil, builtin]; rfl)
  cases hx : ev fr x <;> first | rfl | (rw [hx] at key; exact key)
theorem len_sl {P : Program} {t e : TypeId} {b g off len es : Nat} (h : P.underlying t = some (.slice e)) : lenA P t (.sl b g off len es) = some (.done (.val (.int .i64 len))) := by
  simp only [lenA, h, isSl]; rfl
theorem len_lit {P : Program} {t e : TypeId} {cs : List AV} {len : Nat} (h : P.underlying t = some (.slice e)) : lenA P t (.lit cs len) = some (.done (.val (.int .i64 len))) := by
  simp only [lenA, h, isSl]; rfl
theorem len_str {P : Program} {t : TypeId} {s : ByteArray} (h : P.underlying t = some .string) : lenA P t (.val (.string s)) = some (.done (.val (.int .i64 s.size))) := by
  show p1 P (.val (.string s)) (fun x => Builtin.len_ #[t] 3 #[x]) = _
  simp only [p1, toVal, Builtin.len_, now_bind, now_und, h, Option.bind, List.getElem?_toArray, List.getElem?_cons_zero]
  rfl
theorem len_slice {P : Program} {t e : TypeId} {a : Option Addr} {n m : Nat} (h : P.underlying t = some (.slice e)) : lenA P t (.val (.slice a n m)) = some (.done (.val (.int .i64 n))) := by
  show p1 P (.val (.slice a n m)) (fun x => Builtin.len_ #[t] 3 #[x]) = _
  simp only [p1, toVal, Builtin.len_, now_bind, now_und, h, Option.bind, List.getElem?_toArray, List.getElem?_cons_zero]
  rfl
theorem a_append {x y : Operand} {t u : TypeId} : aop c f fr { dst := d, op := .call { callee := .builtin .append, args := #[x, y], argTypes := #[t, u] }, type := ty, pos := pos, after := af, guard := g } =
    (elemSize c.P t).bind fun (e, _) => if noBx (ev fr x) = true ∧ noBx (ev fr y) = true ∧ nonInt (c.P.underlying u) = true then some (.heap (.app e (ev fr x) (ev fr y))) else none := rfl
theorem a_min {x y : Operand} {ts : Array TypeId} : aop c f fr { dst := d, op := .call { callee := .builtin .min, args := #[x, y], argTypes := ts }, type := ty, pos := pos, after := af, guard := g } = p2 c.P (ev fr x) (ev fr y) (fun x y => Builtin.min_ ts ty #[x, y]) := plain_p2 rfl (fun _ => by rw [exec_blt rfl rfl]; simp only [List.map_toArray, List.map_cons, List.map_nil, builtin])
theorem a_max {x y : Operand} {ts : Array TypeId} : aop c f fr { dst := d, op := .call { callee := .builtin .max, args := #[x, y], argTypes := ts }, type := ty, pos := pos, after := af, guard := g } = p2 c.P (ev fr x) (ev fr y) (fun x y => Builtin.max_ ts ty #[x, y]) := plain_p2 rfl (fun _ => by rw [exec_blt rfl rfl]; simp only [List.map_toArray, List.map_cons, List.map_nil, builtin])
theorem p2_min {P : Program} {ts : Array TypeId} {k k' : IntKind} {a b : Int} : p2 P (.val (.int k a)) (.val (.int k' b)) (fun x y => Builtin.min_ ts ty #[x, y]) = some (.done (.val (.int k (if b < a then b else a)))) := by
  simp only [p2, toVal, Builtin.min_, List.foldlM_cons, List.foldlM_nil, Builtin.min2, now_bind, now_pure, Option.bind, norm, norm1]
theorem p2_max {P : Program} {ts : Array TypeId} {k k' : IntKind} {a b : Int} : p2 P (.val (.int k a)) (.val (.int k' b)) (fun x y => Builtin.max_ ts ty #[x, y]) = some (.done (.val (.int k (if a < b then b else a)))) := by
  simp only [p2, toVal, Builtin.max_, List.foldlM_cons, List.foldlM_nil, Builtin.max2, now_bind, now_pure, Option.bind, norm, norm1]
/-! two operands -/
theorem a_binOp {op : BinOp} {t u : TypeId} {x y : Operand} : aop c f fr { dst := d, op := .binOp op t x y u, type := ty, pos := pos, after := af, guard := g } = p2 c.P (ev fr x) (ev fr y) (fun a b => do eqGuard op t x y a b; binOp op t a b) := plain_p2 rfl (fun _ => rfl)
def intBin (op : BinOp) (k k' : IntKind) (a b : Int) : Option Value :=
  match op with
  | .shl => if b < 0 then none else some (.int k (k.wrap (a * 2 ^ (min b.toNat k.bits))))
  | .shr => if b < 0 then none else some (.int k (a.fdiv (2 ^ (min b.toNat k.bits))))
  | .add => if k = k' then some (.int k (k.wrap (a + b))) else none
  | .sub => if k = k' then some (.int k (k.wrap (a - b))) else none
  | .mul => if k = k' then some (.int k (k.wrap (a * b))) else none
  | .quo => if k = k' ∧ b ≠ 0 then some (.int k (k.wrap (a.tdiv b))) else none
  | .rem => if k = k' ∧ b ≠ 0 then some (.int k (a.tmod b)) else none
  | .or => if k = k' then some (.int k (k.wrap (BitVec.ofInt k.bits a ||| BitVec.ofInt k.bits b).toNat)) else none
  | .xor => if k = k' then some (.int k (k.wrap (BitVec.ofInt k.bits a ^^^ BitVec.ofInt k.bits b).toNat)) else none
  | .eql => if k = k' then some (.bool (decide (a = b))) else none
  | .neq => if k = k' then some (.bool (!decide (a = b))) else none
  | .lss => if k = k' then some (.bool (decide (a < b))) else none
  | .leq => if k = k' then some (.bool (decide (a ≤ b))) else none
  | .gtr => if k = k' then some (.bool (decide (b < a))) else none
  | .geq => if k = k' then some (.bool (decide (b ≤ a))) else none
  | _ => none
theorem p2_int {P : Program} {op : BinOp} {t : TypeId} {x y : Operand} {k k' : IntKind} {a b : Int} {v : Value} (h : intBin op k k' a b = some v) :
    p2 P (.val (.int k a)) (.val (.int k' b)) (fun a b => do eqGuard op t x y a b; binOp op t a b) = some (.done (.val v)) := by
  have hg : semNow P (eqGuard op t x y (.int k a) (.int k' b)) = some () := by
    unfold eqGuard
    cases op <;> rfl
  simp only [p2, toVal, now_bind, hg, Option.bind]
  cases op <;> simp only [intBin] at h <;> first
    | (cases h; done)
    | (split at h
       · rename_i hk
         cases h
         first
           | (subst hk; simp [binOp, Op.intArith, Op.intBits, Op.intCmp, now_pure, norm, norm1, bne, BEq.beq]; done)
           | (obtain ⟨rfl, hb⟩ := hk; simp [binOp, Op.intDiv, hb, now_pure, norm, norm1]; done)
       · cases h)
    | (split at h
       · cases h
       · rename_i hb
         cases h
         simp [binOp, Op.shift, hb, now_pure, norm, norm1])
end ops
end Go.Proofs.Ytmglahnoemgieaa.Ax
namespace Go.Proofs.Ytmglahnoemgieaa.Ax
open Go Go.RowKit
set_option linter.unusedSimpArgs false
set_option linter.unusedVariables false

section ops
variable {c : Cfg} {f : FuncId} {fr : List AV} {d : Option Tmp} {ty : TypeId} {pos : String} {af : Array Edge} {g : Option (Nat × Bool)}

/-! texts -/
def strBin (op : BinOp) (a b : ByteArray) : Option Value :=
  match op with
  | .add => if a.size + b.size ≤ 9223372036854775807 then some (.string (a ++ b)) else none
  | .eql => some (.bool (decide (a = b)))
  | .neq => some (.bool (!decide (a = b)))
  | _ => none
theorem bytes_beq (a b : ByteArray) : (a.toList == b.toList) = decide (a = b) := by
  have h : a.toList = b.toList ↔ a = b := by
    constructor
    · intro h
      rw [Go.ByteArray.toList_eq, Go.ByteArray.toList_eq] at h
      exact ByteArray.ext (Array.toList_inj.1 h)
    · rintro rfl; rfl
  by_cases e : a = b
  · simp [e]
  · have : ¬ a.toList = b.toList := fun k => e (h.1 k)
    simp [e, this]
theorem p2_str {P : Program} {op : BinOp} {t : TypeId} {x y : Operand} {a b : ByteArray} {v : Value} (h : strBin op a b = some v) :
    p2 P (.val (.string a)) (.val (.string b)) (fun a b => do eqGuard op t x y a b; binOp op t a b) = some (.done (.val v)) := by
  have hg : semNow P (eqGuard op t x y (.string a) (.string b)) = some () := by
    unfold eqGuard
    cases op <;> rfl
  simp only [p2, toVal, now_bind, hg, Option.bind]
  cases op <;> simp only [strBin] at h <;> try (cases h; done)
  · split at h
    · rename_i hk
      cases h
      have : ¬ (((a.size + b.size : Nat) : Int) > IntKind.i64.max) := by
        have : IntKind.i64.max = 9223372036854775807 := by decide
        omega
      simp only [binOp, Op.stringOp]
      rw [if_neg this]
      rfl
    · cases h
  · cases h
    simp only [binOp, Op.stringOp, bytes_beq]
    rfl
  · cases h
    simp only [binOp, Op.stringOp, bytes_beq]
    rfl
theorem p2_bool {P : Program} {t : TypeId} {x y : Operand} {a b : Bool} (h : P.underlying t = some .bool) :
    p2 P (.val (.bool a)) (.val (.bool b)) (fun a b => do eqGuard .eql t x y a b; binOp .eql t a b) = some (.done (.val (.bool (decide (a = b))))) := by
  have hg : semNow P (eqGuard .eql t x y (.bool a) (.bool b)) = some () := rfl
  have he : semNow P (binOp .eql t (.bool a) (.bool b)) = some (.bool (decide (a = b))) := by
    show semNow P (do pure (Value.bool (← Op.equal t (Value.bool a) (Value.bool b)))) = _
    have : semNow P (Op.equal t (.bool a) (.bool b)) = some (a == b) := by
      obtain ⟨k, hk⟩ : ∃ k, Op.maxDepth = k + 1 := ⟨_, rfl⟩
      unfold Op.equal
      rw [hk]
      simp only [Op.equalIn, now_bind, now_und, h, Option.bind, now_pure]
    rw [now_bind, this]
    cases a <;> cases b <;> rfl
  simp only [p2, toVal, now_bind, hg, he, Option.bind, norm, norm1]

/-! slices -/
theorem sl_str_h {P : Program} {t : TypeId} {s : ByteArray} {k : IntKind} {n : Int} (h : P.underlying t = some .string) (h0 : 0 ≤ n) (h1 : n ≤ s.size) :
    p2 P (.val (.string s)) (.val (.int k n)) (fun x y => Instr.sliceAt t x none (some y) none) = some (.done (.val (.string (s.extract 0 n.toNat)))) := by
  simp only [p2, toVal, Instr.sliceAt, Instr.slice, Instr.sliceBounds, Instr.sliceBound, asIntOf, now_bind, now_und, now_pure, h, Option.bind, Option.isSome, if_pos (And.intro h0 h1), if_neg Bool.false_ne_true]
  rfl
theorem sl_str_l {P : Program} {t : TypeId} {s : ByteArray} {k : IntKind} {n : Int} (h : P.underlying t = some .string) (h0 : 0 ≤ n) (h1 : n ≤ s.size) :
    p2 P (.val (.string s)) (.val (.int k n)) (fun x y => Instr.sliceAt t x (some y) none none) = some (.done (.val (.string (s.extract n.toNat s.size)))) := by
  simp only [p2, toVal, Instr.sliceAt, Instr.slice, Instr.sliceBounds, Instr.sliceBound, asIntOf, now_bind, now_und, now_pure, h, Option.bind, Option.isSome, if_pos (And.intro h0 h1), if_neg Bool.false_ne_true]
  rfl
theorem sl_str_lh {P : Program} {t : TypeId} {s : ByteArray} {k k' : IntKind} {n m : Int} (h : P.underlying t = some .string) (h0 : 0 ≤ n) (h1 : n ≤ m) (h2 : m ≤ s.size) :
    p3 P (.val (.string s)) (.val (.int k n)) (.val (.int k' m)) (fun x y z => Instr.sliceAt t x (some y) (some z) none) = some (.done (.val (.string (s.extract n.toNat m.toNat)))) := by
  have h3 : n ≤ (m.toNat : Int) := by omega
  have h4 : 0 ≤ m := by omega
  simp only [p3, toVal, Instr.sliceAt, Instr.slice, Instr.sliceBounds, Instr.sliceBound, asIntOf, now_bind, now_und, now_pure, h, Option.bind, Option.isSome, if_pos (And.intro h4 h2), if_pos (And.intro h0 h3), if_neg Bool.false_ne_true]
  rfl
theorem sl_slice_h {P : Program} {t e : TypeId} {es : Nat} {a : Option Addr} {len cap : Nat} {k : IntKind} {n : Int} (h : P.underlying t = some (.slice e)) (hs : sizeT P e = some es) (h0 : 0 ≤ n) (h1 : n ≤ cap) :
    p2 P (.val (.slice a len cap)) (.val (.int k n)) (fun x y => Instr.sliceAt t x none (some y) none) = some (.done (.val (.slice (if cap = 0 then a else a.map (·.add (0 * es))) (n.toNat - 0) (cap - 0)))) := by
  have hz : semNow P (sizeOf e) = some es := by
    have := hs
    unfold sizeT at this
    unfold sizeOf
    simp only [Option.map_eq_some_iff] at this
    obtain ⟨i, hi, rfl⟩ := this
    rw [now_bind]
    have : semNow P (typeInfo e) = some i := by
      unfold typeInfo
      rw [now_bind]
      show (some P).bind _ = _
      simp only [Option.bind, hi]
      rfl
    rw [this]; rfl
  simp only [p2, toVal, Instr.sliceAt, Instr.slice, Instr.sliceBounds, Instr.sliceBound, asIntOf, now_bind, now_und, now_pure, h, hz, Option.bind, Option.isSome, if_pos (And.intro h0 h1), if_neg Bool.false_ne_true, norm, norm1]

def sliH (P : Program) (t : TypeId) (a h : AV) : Option Req := match a with
  | .sl b g off len es => (elemSize P t).bind fun (_, es') => (intOfA h).bind fun h => if 0 ≤ h ∧ h ≤ len then (if es' = es then some (.done (.sl b g off h.toNat es)) else none) else none
  | .lit cs len => (elemSize P t).bind fun (_, es) => (intOfA h).bind fun h => if 0 ≤ h ∧ h ≤ len then (if cs.length = len * es then some (.done (.lit (cs.take (h.toNat * es)) h.toNat)) else none) else none
  | a => p2 P a h fun x y => Instr.sliceAt t x none (some y) none
theorem a_sliceH {t : TypeId} {x y : Operand} : aop c f fr { dst := d, op := .slice t x none (some y) none, type := ty, pos := pos, after := af, guard := g } = sliH c.P t (ev fr x) (ev fr y) := by
  have key : plainOp c.P fr { dst := d, op := .slice t x none (some y) none, type := ty, pos := pos, after := af, guard := g } = p2 c.P (ev fr x) (ev fr y) fun x y => Instr.sliceAt t x none (some y) none := plain_p2 rfl (fun _ => rfl)
  simp only [aop, sliH]
  cases hx : ev fr x with
  | sl b gg off len es =>
    simp only [Option.isNone, if_true, boundsA]
    cases elemSize c.P t with
    | none => rfl
    | some p =>
      simp only [Option.bind]
      cases intOfA (ev fr y) with
      | none => rfl
      | some n =>
        simp only
        by_cases hn : 0 ≤ n ∧ n ≤ (len : Int)
        · simp [hn]
        · simp [hn]
  | lit cs len =>
    simp only [Option.isNone, if_true, boundsA]
    cases elemSize c.P t with
    | none => rfl
    | some p =>
      simp only [Option.bind]
      cases intOfA (ev fr y) with
      | none => rfl
      | some n =>
        simp only
        by_cases hn : 0 ≤ n ∧ n ≤ (len : Int)
        · simp [hn]
        · simp [hn]
  | _ => first | (rw [hx] at key; exact key)
theorem slih_str {P : Program} {t : TypeId} {s : ByteArray} {h : AV} : sliH P t (.val (.string s)) h = p2 P (.val (.string s)) h (fun x y => Instr.sliceAt t x none (some y) none) := rfl
theorem slih_slice {P : Program} {t : TypeId} {a : Option Addr} {len cap : Nat} {h : AV} : sliH P t (.val (.slice a len cap)) h = p2 P (.val (.slice a len cap)) h (fun x y => Instr.sliceAt t x none (some y) none) := rfl
theorem slih_sl {P : Program} {t e : TypeId} {b g off len es es' : Nat} {k : IntKind} {n : Int} (h : elemSize P t = some (e, es')) (h0 : 0 ≤ n) (h1 : n ≤ len) (h2 : es' = es) : sliH P t (.sl b g off len es) (.val (.int k n)) = some (.done (.sl b g off n.toNat es)) := by
  simp only [sliH, h, Option.bind, intOfA]
  rw [if_pos ⟨h0, h1⟩, if_pos h2]
theorem a_sliceL {t : TypeId} {x y : Operand} {s : ByteArray} (hx : ev fr x = .val (.string s)) : aop c f fr { dst := d, op := .slice t x (some y) none none, type := ty, pos := pos, after := af, guard := g } = p2 c.P (ev fr x) (ev fr y) (fun x y => Instr.sliceAt t x (some y) none none) := by
  have key : plainOp c.P fr { dst := d, op := .slice t x (some y) none none, type := ty, pos := pos, after := af, guard := g } = p2 c.P (ev fr x) (ev fr y) fun x y => Instr.sliceAt t x (some y) none none := plain_p2 rfl (fun _ => rfl)
  rw [← key]
  simp only [aop, hx]
theorem a_sliceLH {t : TypeId} {x y z : Operand} {s : ByteArray} (hx : ev fr x = .val (.string s)) : aop c f fr { dst := d, op := .slice t x (some y) (some z) none, type := ty, pos := pos, after := af, guard := g } = p3 c.P (ev fr x) (ev fr y) (ev fr z) (fun x y z => Instr.sliceAt t x (some y) (some z) none) := by
  have key : plainOp c.P fr { dst := d, op := .slice t x (some y) (some z) none, type := ty, pos := pos, after := af, guard := g } = p3 c.P (ev fr x) (ev fr y) (ev fr z) fun x y z => Instr.sliceAt t x (some y) (some z) none := plain_p3 rfl (fun _ => rfl)
  rw [← key]
  simp only [aop, hx]
def sliL (P : Program) (t : TypeId) (fr : List AV) (o : Oper) (y : Operand) (a : AV) : Option Req := match a with
  | .val (.string s) => p2 P (.val (.string s)) (ev fr y) (fun x y => Instr.sliceAt t x (some y) none none)
  | _ => none

/-! conversions -/
def convA (c : Cfg) (f : FuncId) (d : Option Tmp) (src dst : TypeId) (us ud : Option TypeDesc) (v : AV) : Option Req := match us, ud, v with
  | some .string, some (.slice e), .val (.string s) =>
    if isU8 (c.P.underlying e) then
      match d with
      | some d => if (c.hb f).contains d then some (.heap (.new (bytesA s) 1 (some s.size))) else some (.done (.lit (bytesA s) s.size))
      | none => none
    else none
  | some (.slice e), some .string, .sl b g off len 1 => if isU8 (c.P.underlying e) then some (.heap (.str b g off len)) else none
  | some (.slice e), some .string, .lit cs len => if isU8 (c.P.underlying e) = true ∧ cs.length = len then (unbytes cs).map fun l => .done (.val (.string ⟨l.toArray⟩)) else none
  | _, _, _ => p1 c.P v fun x => convert src dst x
theorem p1_conv_int {P : Program} {src dst : TypeId} {k k' : IntKind} {n : Int} {u : IntKind} (h1 : P.underlying src = some (.int u)) (h2 : P.underlying dst = some (.int k)) : p1 P (.val (.int k' n)) (fun x => convert src dst x) = some (.done (.val (.int k (k.wrap n)))) := by
  simp only [p1, toVal, convert, now_bind, now_und, h1, h2, Option.bind]
  rfl
theorem p1_conv_str {P : Program} {src dst : TypeId} {s : ByteArray} (h1 : P.underlying src = some .string) (h2 : P.underlying dst = some .string) : p1 P (.val (.string s)) (fun x => convert src dst x) = some (.done (.val (.string s))) := by
  simp only [p1, toVal, convert, now_bind, now_und, h1, h2, Option.bind]
  rfl
theorem p1_conv_nil {P : Program} {src dst e : TypeId} {m n : Nat} (h1 : P.underlying src = some (.slice e)) (h2 : P.underlying dst = some .string) (h3 : P.underlying e = some (.int .u8)) : p1 P (.val (.slice none m n)) (fun x => convert src dst x) = some (.done (.val (.string .empty))) := by
  simp only [p1, toVal, convert, now_bind, now_und, h1, h2, h3, Option.bind]
  rfl
theorem a_convert {src dst : TypeId} {x : Operand} : aop c f fr { dst := d, op := .convert src dst x, type := ty, pos := pos, after := af, guard := g } = convA c f d src dst (c.P.underlying src) (c.P.underlying dst) (ev fr x) := by
  have key : plainOp c.P fr { dst := d, op := .convert src dst x, type := ty, pos := pos, after := af, guard := g } = p1 c.P (ev fr x) fun x => convert src dst x := plain_p1 rfl (fun _ => rfl)
  simp only [aop, key, ← List.contains_iff_mem]
  unfold convA
  rfl
theorem conv_int {src dst : TypeId} {k k' : IntKind} {n : Int} {u : IntKind} (h1 : c.P.underlying src = some (.int u)) (h2 : c.P.underlying dst = some (.int k)) : convA c f d src dst (some (.int u)) (some (.int k)) (.val (.int k' n)) = some (.done (.val (.int k (k.wrap n)))) := by
  simp only [convA]
  exact p1_conv_int h1 h2
theorem conv_bytes_lit {src dst e : TypeId} {s : ByteArray} {d : Tmp} (h : c.P.underlying e = some (.int .u8)) (hd : (c.hb f).contains d = false) : convA c f (some d) src dst (some .string) (some (.slice e)) (.val (.string s)) = some (.done (.lit (bytesA s) s.size)) := by
  simp only [convA, h, isU8, hd]
  rfl
theorem conv_bytes_heap {src dst e : TypeId} {s : ByteArray} {d : Tmp} (h : c.P.underlying e = some (.int .u8)) (hd : (c.hb f).contains d = true) : convA c f (some d) src dst (some .string) (some (.slice e)) (.val (.string s)) = some (.heap (.new (bytesA s) 1 (some s.size))) := by
  simp only [convA, h, isU8, hd]
  rfl
theorem conv_sl {src dst e : TypeId} {b g off len : Nat} (h : c.P.underlying e = some (.int .u8)) : convA c f d src dst (some (.slice e)) (some .string) (.sl b g off len 1) = some (.heap (.str b g off len)) := by
  simp only [convA, h, isU8]
  rfl
theorem conv_lit {src dst e : TypeId} {cs : List AV} {len : Nat} (h : c.P.underlying e = some (.int .u8)) (hl : cs.length = len) : convA c f d src dst (some (.slice e)) (some .string) (.lit cs len) = (unbytes cs).map fun l => .done (.val (.string ⟨l.toArray⟩)) := by
  simp [convA, h, isU8, hl]
theorem unbytes_bytes (l : List UInt8) : unbytes (l.map fun b => .val (.int .u8 b.toNat)) = some l := by
  induction l with
  | nil => rfl
  | cons b l ih => simp [unbytes, ih]

/-! structs -/
def buildA (c : Cfg) (t : TypeId) (d : Option TypeDesc) (parts : List (Nat × AV)) : Option Req := match d with
  | some (.struct fields) =>
    if fields.toList.all fun fd => (sizeT c.P fd.type).isSome then
      (zeroT c.P t).bind fun z => (fillA (fun i => (placesT c.P fields.toList)[i]?) (cellsOf (norm1 z)) parts).map fun cells => .done (.agg cells)
    else none
  | _ => none
theorem a_build {t : TypeId} {parts : Array (Nat × Operand)} {fs : Array Field} (h : c.P.underlying t = some (.struct fs)) : aop c f fr { dst := d, op := .build t parts, type := ty, pos := pos, after := af, guard := g } =
    if fs.toList.all (fun fd => (sizeT c.P fd.type).isSome) then
      (zeroT c.P t).bind fun z => (fillA (fun i => (placesT c.P fs.toList)[i]?) (cellsOf (norm1 z)) (parts.toList.map fun p => (p.1, ev fr p.2))).map fun cells => .done (.agg cells)
    else none := by
  simp only [aop, h]
/-- where a struct's fields lie -/
def placesOf (P : Program) (t : TypeId) : Option (List (Nat × Nat)) := match P.underlying t with
  | some (.struct fs) => if fs.toList.all fun fd => (sizeT P fd.type).isSome then some (placesT P fs.toList) else none
  | _ => none
def buiA (pl : Option (List (Nat × Nat))) (z : Option Value) (parts : List (Nat × AV)) : Option Req :=
  pl.bind fun pl => z.bind fun z => (fillA (fun i => pl[i]?) (cellsOf (norm1 z)) parts).map fun cells => .done (.agg cells)
theorem a_bui {t : TypeId} {parts : Array (Nat × Operand)} {pl : List (Nat × Nat)} (h : placesOf c.P t = some pl) : aop c f fr { dst := d, op := .build t parts, type := ty, pos := pos, after := af, guard := g } =
    buiA (placesOf c.P t) (zeroT c.P t) (parts.toList.map fun p => (p.1, ev fr p.2)) := by
  rw [h]
  unfold placesOf at h
  split at h
  · rename_i fs hu
    split at h
    · rename_i hall
      cases h
      rw [a_build hu, if_pos hall]
      rfl
    · cases h
  · cases h
def aopAs (c : Cfg) (f : FuncId) (fr : List AV) (o : Oper) : Option Req := aop c f fr o
def bld (pl : Option (List (Nat × Nat))) (z : Option Value) (parts : List (Nat × AV)) (r : Option Req) : Option Req := match pl with
  | some pl => z.bind fun z => (fillA (fun i => pl[i]?) (cellsOf (norm1 z)) parts).map fun cells => .done (.agg cells)
  | none => r
theorem bld_some {pl : List (Nat × Nat)} {z : Value} {parts : List (Nat × AV)} {r : Option Req} : bld (some pl) (some z) parts r = (fillA (fun i => pl[i]?) (cellsOf (norm1 z)) parts).map fun cells => .done (.agg cells) := rfl
theorem a_bld {t : TypeId} {parts : Array (Nat × Operand)} : aop c f fr { dst := d, op := .build t parts, type := ty, pos := pos, after := af, guard := g } =
    bld (placesOf c.P t) (zeroT c.P t) (parts.toList.map fun p => (p.1, ev fr p.2)) (aopAs c f fr { dst := d, op := .build t parts, type := ty, pos := pos, after := af, guard := g }) := by
  cases h : placesOf c.P t with
  | none => rfl
  | some pl => rw [a_bui h, h]; rfl
theorem wrap_i64 {n : Int} (h1 : -9223372036854775808 ≤ n) (h2 : n ≤ 9223372036854775807) : IntKind.i64.wrap n = n := by
  show (if (true && decide (n % 18446744073709551616 ≥ 9223372036854775808)) = true then n % 18446744073709551616 - 18446744073709551616 else n % 18446744073709551616) = n
  rw [Bool.true_and]
  by_cases h : n % 18446744073709551616 ≥ 9223372036854775808
  · rw [if_pos (decide_eq_true h)]; omega
  · rw [if_neg (by simpa using h)]; omega
theorem wrap_u8 {n : Int} : IntKind.u8.wrap n = n % 256 := by
  unfold IntKind.wrap
  simp only [IntKind.bits, IntKind.signed, Bool.false_and, Bool.false_eq_true, reduceIte]
  rfl
theorem wrap_u64 {n : Int} : IntKind.u64.wrap n = n % 18446744073709551616 := by
  unfold IntKind.wrap
  simp only [IntKind.bits, IntKind.signed, Bool.false_and, Bool.false_eq_true, reduceIte]
  rfl
theorem fill_nil {pl : Nat → Option (Nat × Nat)} {cs : List AV} : fillA pl cs [] = some cs := rfl
theorem a_buildSlice {t : TypeId} {n : Nat} {parts : Array (Nat × Operand)} {d : Tmp} : aop c f fr { dst := some d, op := .buildSlice t n parts, type := ty, pos := pos, after := af, guard := g } =
    (elemSize c.P t).bind fun p => (zeroT c.P p.1).bind fun z =>
      if (cellsOf (norm1 z)).length = p.2 ∧ n * p.2 ≤ 65536 then
        (fillA (fun i => some (i * p.2, p.2)) (zerosA (cellsOf (norm1 z)) (n * p.2)) (parts.toList.map fun p => (p.1, ev fr p.2))).bind fun cells =>
          if noBxs cells then (if (c.hb f).contains d then some (.heap (.new cells p.2 (some n))) else some (.done (.lit cells n))) else none
      else none := by
  simp only [aop, List.contains_iff_mem]
end ops
/-! ### frames -/
def fl (n : Nat) (F : Nat → AV) : List AV := (List.range n).map F
def upd (F : Nat → AV) (i : Nat) (v : AV) : Nat → AV := fun j => if j = i then v else F j
def ini : List AV → Nat → AV
  | [], _ => undefA
  | a :: _, 0 => a
  | _ :: l, n + 1 => ini l n
theorem fl_length {n : Nat} {F : Nat → AV} : (fl n F).length = n := by simp [fl]
theorem fl_get {n : Nat} {F : Nat → AV} {j : Nat} : getT (fl n F) j = if j < n then F j else undefA := by
  rw [getT_eq, List.getD_eq_getElem?_getD, fl, List.getElem?_map]
  by_cases h : j < n
  · simp [h]
  · simp [h]
theorem fl_set {n : Nat} {F : Nat → AV} {i : Nat} {v : AV} : setT (fl n F) i v = fl n (upd F i v) := by
  rw [setT_eq]
  apply List.ext_getElem?
  intro j
  simp only [fl, List.getElem?_set, List.getElem?_map, List.length_map, List.length_range]
  by_cases hj : j < n
  · rw [List.getElem?_range hj]
    by_cases e : i = j
    · subst e; simp [upd, hj]
    · have : ¬ j = i := fun k => e k.symm
      simp [upd, e, this]
  · have hn : (List.range n)[j]? = none := by simp [Nat.le_of_not_lt hj]
    rw [hn]
    by_cases e : i = j
    · subst e; simp [hj]
    · simp [e]
theorem upd_at {F : Nat → AV} {i j : Nat} {v : AV} : upd F i v j = if j = i then v else F j := rfl
theorem ini_at {l : List AV} : ∀ {j : Nat}, ini l j = l.getD j undefA := by
  induction l with
  | nil => intro j; rfl
  | cons a l ih =>
    intro j
    cases j with
    | zero => rfl
    | succ n => simpa [ini] using ih (j := n)
theorem fl_init (args : List AV) (k : Nat) : args ++ List.replicate k undefA = fl (args.length + k) (ini args) := by
  apply List.ext_getElem?
  intro j
  simp only [fl, List.getElem?_map]
  by_cases h : j < args.length
  · rw [List.getElem?_append_left h, List.getElem?_range (by omega)]
    simp [ini_at, h]
  · by_cases h2 : j < args.length + k
    · rw [List.getElem?_append_right (by omega), List.getElem?_range h2, List.getElem?_replicate]
      have : args[j]? = none := by simp [Nat.le_of_not_lt h]
      rw [if_pos (by omega)]
      simp [ini_at, this]
    · rw [List.getElem?_append_right (by omega), List.getElem?_replicate, if_neg (by omega)]
      have : (List.range (args.length + k))[j]? = none := by simp; omega
      rw [this]; rfl

/-- what a call ends in -/
def endR (c : Cfg) (rs : List ResultVar) (h : H) (r : Option (Ex × S)) : Option (Out × H × Option Nat) :=
  match r with
  | some (.normal, s) | some (.ret, s) => (resultsA c s rs).bind fun vs => leave h (.ret (tupA vs)) s
  | some (.pan v, s) => leave h (.pan v) s
  | _ => none
section
variable {c : Cfg} {rs : List ResultVar} {h : H} {s : S}
theorem er_normal : endR c rs h (some (.normal, s)) = (resultsA c s rs).bind fun vs => leave h (.ret (tupA vs)) s := rfl
theorem er_ret : endR c rs h (some (.ret, s)) = (resultsA c s rs).bind fun vs => leave h (.ret (tupA vs)) s := rfl
theorem er_pan {v : AV} : endR c rs h (some (.pan v, s)) = leave h (.pan v) s := rfl
theorem callI_fl {f : FuncId} {fn : Func} {b : Code} {args : List AV} (hT : c.T f = none) (hf : c.P.funcs[f]? = some fn) (hb : fn.body = some b) (hn : (fn.name == "runtime.NumGoroutine") = false) :
    acallI c f args h = endR c fn.results.toList h (acodeI c f (fn.body.getD .skip) ⟨fl (args.length + (fn.ntmps - args.length)) (ini args), [], h, none⟩) := by
  rw [callI_eq hT hf hb hn, fl_init, hb]
  rfl
end
end Go.Proofs.Ytmglahnoemgieaa.Ax

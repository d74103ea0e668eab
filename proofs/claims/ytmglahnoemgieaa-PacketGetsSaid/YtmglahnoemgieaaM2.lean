/- The abstract machine, part 10: every operation goes on as the machine says. (And what follows from it, text by text.) -/
import Derived.Test.YtmglahnoemgieaaM1
import Derived.Orders
namespace Go.Proofs.Ytmglahnoemgieaa.Ax
open Go Go.RowKit
set_option linter.unusedSimpArgs false
set_option linter.unusedVariables false

def LwP (h h' : H) (lw : Option Nat) : Prop := h.length ≤ h'.length ∧ ∀ n, n ≤ h.length → lwOver lw n = true → h'.take n = h.take n

/-- what a call's answer says -/
def OutOk (M : Mu) : Out → Ending → Prop
  | .ret v, e => ∃ x, e = .returned x ∧ Rv M v x
  | .pan v, e => ∃ x, e = .panicked [{ v := x, recovered := false }] ∧ Rv M v x

/-- calls are taken rightly -/
def CallSound (c : Cfg) (call : CallF) : Prop :=
  ∀ f args h out h' lw, call f args h = some (out, h', lw) → ∀ (M : Mu) (w : World) (vs : List Value), HRel c.w0 M h w → Rvs M args vs → noBxs args = true →
    LwP h h' lw ∧ noBx (outV out) = true ∧ (callFunc f vs.toArray).run c.P w = .ok (.enter f vs.toArray) w ∧
    Calls c.P f vs.toArray w fun e w' => ∃ M', HStep c.w0 M w M' h' w' ∧ OutOk M' out e

variable {c : Cfg} {A M : Mu} {we : World} {s : S} {o : Oper} {a : Act} {w w' : World}

/-- what a frame's panic says -/
def PanOk (c : Cfg) (A : Mu) (we : World) (v : AV) (h : H) (ch : List PanicEntry) (w' : World) : Prop :=
  ∃ x M', ch = [{ v := x, recovered := false }] ∧ Rv M' v x ∧ HRel c.w0 M' h w' ∧ Keeps A we M' w' ∧ Ext false A M'

def ReqOk (c : Cfg) (A : Mu) (we : World) (s : S) (o : Oper) (a : Act) (w : World) : Req → Prop
  | .done v => To c A we o a w { s with fr := putT s.fr o.dst v }
  | .pan v => Wps c.P o a w (fun _ _ => False) (PanOk c A we v s.h)
  | .box b => ∀ v loc, doBox s.loc b = some (v, loc) → To c A we o a w { s with fr := putT s.fr o.dst v, loc := loc }
  | .heap k => ∀ call, CallSound c call → ∀ res, doHeap c call s.h k = some res → match res with
    | .val v h lw => To c A we o a w { s with fr := putT s.fr o.dst v, h := h, lw := lwMin s.lw lw }
    | .pan v h lw => Wps c.P o a w (fun _ _ => False) (PanOk c A we v h)

theorem reqOk_plain (h : SRel c A we M s a w) {r : Req} (hp : plainOp c.P s.fr o = some r) (hs : ∀ l b, o.op ≠ .select l b) : ReqOk c A we s o a w r := by
  obtain ⟨v, rfl, ht⟩ := sound_plain h hp hs
  exact ht
theorem reqOk_new (h : SRel c A we M s a w) {f : FuncId} {cells : List AV} {cur : Array Value} {e : TypeId} {r : Req} (hr : newReq c f o.dst cells = some r) (hc : Rvs M cells cur.toList)
    (hrun : (execOp a.eval o).run c.P w = .ok (.value (.pointer (some ⟨w.heap.size, 0, none⟩))) (w.alloc (.cells cur e))) : ReqOk c A we s o a w r := by
  rcases sound_new h hr hc hrun with ⟨b, rfl, v, loc, h1, h2⟩ | ⟨k, rfl, h1⟩
  · intro v' loc' h3
    rw [h1] at h3; cases h3
    exact h2
  · intro call _ res h3
    obtain ⟨v, h', lw, h4, h5⟩ := h1 call
    rw [h4] at h3; cases h3
    exact h5

theorem isU8_eq {d : Option TypeDesc} (h : isU8 d = true) : d = some (.int .u8) := by
  unfold isU8 at h
  split at h
  · rfl
  · cases h
theorem isSl_eq {d : Option TypeDesc} (h : isSl d = true) : ∃ e, d = some (.slice e) := by
  unfold isSl at h
  split at h
  · exact ⟨_, rfl⟩
  · cases h
theorem nonInt_eq {d : Option TypeDesc} (h : nonInt d = true) : ∃ x, d = some x ∧ ∀ k, x ≠ .int k := by
  unfold nonInt at h
  split at h
  · cases h
  · rename_i x hx
    exact ⟨x, rfl, fun k e => hx k e⟩
  · cases h

/-! ### loads and stores -/
theorem rk_load (h : SRel c A we M s a w) {f : FuncId} {t : TypeId} {x : Operand} (ho : o.op = .load t x) {r : Req} (e : aop c f s.fr o = some r) : ReqOk c A we s o a w r := by
  simp only [aop, ho, Option.bind_eq_some_iff] at e
  obtain ⟨⟨n, agg⟩, hsh, e⟩ := e
  have hx := h.fr.ev x
  simp only at e
  split at e
  · rename_i b g off hev
    cases e
    intro v loc hd
    rw [hev] at hx
    obtain ⟨rfl, ad, y, h1, h2, h3⟩ := box_read h hsh hd hx
    exact to_done h (exec_load ho h1 h2) h3
  · rename_i b g off hev
    cases e
    intro call _ res hd
    rw [hev] at hx
    cases res with
    | val v h' lw =>
      obtain ⟨rfl, rfl, ad, y, h1, h2, h3⟩ := heap_read h hsh hd hx
      exact to_heap h (exec_load ho h1 h2) (HStep.refl h.hr) h3
    | pan v h' lw =>
      simp only [doHeap] at hd
      split at hd
      · split at hd
        · simp at hd
        · cases hd
      · cases hd
  · rename_i cs hev
    simp only [Option.map_eq_some_iff] at e
    obtain ⟨v, hv, rfl⟩ := e
    rw [hev] at hx
    obtain ⟨ad, y, h1, h2, h3⟩ := lp_load h hsh hv hx
    exact to_done h (exec_load ho h1 h2) h3
  · rename_i ad hev
    simp only [Option.bind_eq_some_iff, Option.map_eq_some_iff] at e
    obtain ⟨l, hl, v, hv, rfl⟩ := e
    rw [hev] at hx
    simp only [Rv] at hx
    obtain ⟨y, h2, h3⟩ := foreign_load h hsh hl hv
    exact to_done h (exec_load ho hx h2) h3
  · cases e
theorem rk_store (h : SRel c A we M s a w) {f : FuncId} {t : TypeId} {x y : Operand} (ho : o.op = .store t x y) {r : Req} (e : aop c f s.fr o = some r) : ReqOk c A we s o a w r := by
  simp only [aop, ho] at e
  have hx := h.fr.ev x
  have hy := cells_rel (h.fr.ev y)
  split at e
  · rename_i hc
    obtain ⟨c1, c2⟩ := hc
    split at e
    · rename_i b g off hev
      cases e
      intro v loc hd
      rw [hev] at hx
      obtain ⟨rfl, ad, w', h1, h2, h3, h4, h5⟩ := box_store h c1 c2 hy hd hx
      exact wps_skip (exec_store ho h1 h2) ⟨M, h.box (Ext.refl _ M) h3 h4 h5 (v := undefA) (x := undef) rfl o.dst⟩
    · rename_i b g off hev
      split at e
      · rename_i hn
        cases e
        intro call _ res hd
        rw [hev] at hx
        cases res with
        | val v h' lw =>
          obtain ⟨rfl, ad, w', M', h1, h2, h3⟩ := heap_store h c1 c2 hn hy hd hx
          exact to_heap_skip h (exec_store ho h1 h2) h3
        | pan v h' lw =>
          simp only [doHeap] at hd
          split at hd
          · split at hd
            · simp at hd
            · cases hd
          · cases hd
      · cases e
    · cases e
  · cases e

/-! ### addresses and slices -/
theorem rk_field (h : SRel c A we M s a w) {f : FuncId} {t : TypeId} {x : Operand} {i : Nat} (ho : o.op = .fieldAddr t x i) {r : Req} (e : aop c f s.fr o = some r) : ReqOk c A we s o a w r := by
  simp only [aop, ho] at e
  have hx := h.fr.ev x
  split at e
  · rename_i b g off hev
    simp only [Option.map_eq_some_iff] at e
    obtain ⟨k, hk, rfl⟩ := e
    rw [hev] at hx
    obtain ⟨ad, h1, h2⟩ := bx_add hx k
    exact to_done h (exec_field ho h1 hk) h2
  · rename_i b g off hev
    simp only [Option.map_eq_some_iff] at e
    obtain ⟨k, hk, rfl⟩ := e
    rw [hev] at hx
    obtain ⟨ad, h1, h2⟩ := ptr_add hx k
    exact to_done h (exec_field ho h1 hk) h2
  · rename_i cs hev
    simp only [Option.map_eq_some_iff] at e
    obtain ⟨k, hk, rfl⟩ := e
    rw [hev] at hx
    obtain ⟨ad, h1, h2⟩ := lp_add hx k
    exact to_done h (exec_field ho h1 hk) h2
  · exact reqOk_plain h e (by rw [ho]; intro _ _ h; cases h)
theorem rk_nil (h : SRel c A we M s a w) {f : FuncId} {x : Operand} (ho : o.op = .nilCheck x) {r : Req} (e : aop c f s.fr o = some r) : ReqOk c A we s o a w r := by
  simp only [aop, ho] at e
  have hx := h.fr.ev x
  split at e
  · rename_i b g off hev
    cases e
    rw [hev] at hx
    obtain ⟨h0, ad, h1, h2⟩ := hx
    exact to_done h (x := a.eval x) (by simp only [execOp, ho, h1, Sem.run_pure]) (by rw [h1]; exact ⟨h0, ad, rfl, h2⟩)
  · rename_i b g off hev
    cases e
    rw [hev] at hx
    obtain ⟨h0, h3, ad, h1, h2⟩ := hx
    exact to_done h (x := a.eval x) (by simp only [execOp, ho, h1, Sem.run_pure]) (by rw [h1]; exact ⟨h0, h3, ad, rfl, h2⟩)
  · rename_i cs hev
    cases e
    rw [hev] at hx
    obtain ⟨b, off, cur, h1, h2⟩ := hx
    exact to_done h (x := a.eval x) (by simp only [execOp, ho, h1, Sem.run_pure]) (by rw [h1]; exact ⟨b, off, cur, rfl, h2⟩)
  · exact reqOk_plain h e (by rw [ho]; intro _ _ h; cases h)
theorem rk_index (h : SRel c A we M s a w) {f : FuncId} {t : TypeId} {x i : Operand} (ho : o.op = .indexAddr t x i) {r : Req} (e : aop c f s.fr o = some r) : ReqOk c A we s o a w r := by
  simp only [aop, ho] at e
  have hx := h.fr.ev x
  split at e
  · rename_i b g off len es hev
    simp only [Option.bind_eq_some_iff] at e
    obtain ⟨⟨e1, es'⟩, he, n, hn, e⟩ := e
    split at e
    · rename_i hc
      obtain ⟨hc0, hc1, hc2⟩ := hc
      simp only at hc0; subst hc0
      cases e
      rw [hev] at hx
      obtain ⟨k, hk⟩ := intOf_rel hn (h.fr.ev i)
      obtain ⟨ad, cap, h1, h2⟩ := sl_index hx hc1 hc2
      exact to_done h (exec_index ho he hc1 hc2 h1 hk) h2
    · cases e
  · rename_i cs len hev
    simp only [Option.bind_eq_some_iff] at e
    obtain ⟨⟨e1, es⟩, he, n, hn, e⟩ := e
    split at e
    · rename_i hc
      cases e
      rw [hev] at hx
      obtain ⟨k, hk⟩ := intOf_rel hn (h.fr.ev i)
      obtain ⟨ad, cap, h1, h2⟩ := lit_index hx (n.toNat * es)
      exact to_done h (exec_index ho he hc.1 hc.2 h1 hk) h2
    · cases e
  · rename_i b g off hev
    simp only [Option.bind_eq_some_iff] at e
    obtain ⟨⟨len, es⟩, he, n, hn, e⟩ := e
    split at e
    · rename_i hc
      cases e
      rw [hev] at hx
      obtain ⟨k, hk⟩ := intOf_rel hn (h.fr.ev i)
      obtain ⟨ad, h1, h2⟩ := bx_add hx (n.toNat * es)
      exact to_done h (exec_indexArr ho he hc.1 hc.2 h1 hk) h2
    · cases e
  · exact reqOk_plain h e (by rw [ho]; intro _ _ h; cases h)
theorem rk_slice (h : SRel c A we M s a w) {f : FuncId} {t : TypeId} {x : Operand} {lo hi mx : Option Operand} (ho : o.op = .slice t x lo hi mx) {r : Req} (e : aop c f s.fr o = some r) : ReqOk c A we s o a w r := by
  simp only [aop, ho] at e
  have hx := h.fr.ev x
  split at e
  · rename_i b g off len es0 hev
    split at e
    · rename_i hm
      have hm : mx = none := by simpa using hm
      subst hm
      simp only [Option.bind_eq_some_iff, Option.map_eq_some_iff] at e
      obtain ⟨⟨e1, es⟩, he, ⟨l, u⟩, hb, e⟩ := e
      simp only at e
      split at e
      · rename_i hes
        cases e
        rw [hev] at hx
        obtain ⟨b1, b2, _⟩ := bounds_rel h.fr hb
        subst hes
        obtain ⟨ad, cap, h0, h1, h2⟩ := sl_slice hx b1 b2
        exact to_done h (exec_slice ho h.fr he hb h0 h1) h2
      · cases e
    · cases e
  · rename_i cs len hev
    split at e
    · rename_i hm
      have hm : mx = none := by simpa using hm
      subst hm
      simp only [Option.bind_eq_some_iff, Option.map_eq_some_iff] at e
      obtain ⟨⟨e1, es⟩, he, ⟨l, u⟩, hb, e⟩ := e
      split at e
      · rename_i hes
        cases e
        rw [hev] at hx
        obtain ⟨b1, b2, _⟩ := bounds_rel h.fr hb
        obtain ⟨ad, cap, h0, h1, h2⟩ := lit_slice hx b1 b2 hes
        exact to_done h (exec_slice ho h.fr he hb h0 h1) h2
      · cases e
    · cases e
  · exact reqOk_plain h e (by rw [ho]; intro _ _ h; cases h)

/-! ### aggregates -/
theorem rk_buildSlice (h : SRel c A we M s a w) {f : FuncId} {t : TypeId} {len : Nat} {parts : Array (Nat × Operand)} (ho : o.op = .buildSlice t len parts) {r : Req} (e : aop c f s.fr o = some r) : ReqOk c A we s o a w r := by
  simp only [aop, ho, Option.bind_eq_some_iff] at e
  obtain ⟨⟨e1, es⟩, he, z, hz, e⟩ := e
  split at e
  · rename_i hc
    simp only [Option.bind_eq_some_iff] at e
    obtain ⟨cells, hcells, e⟩ := e
    obtain ⟨cs, hrun, hr⟩ := exec_buildSlice (w := w) ho h.fr he hz hc.1 hc.2 hcells
    have hl := hr.length
    simp only [Array.length_toList] at hl
    split at e
    · rename_i d hd
      split at e
      · rename_i hn
        split at e
        · cases e
          intro call _ res hdo
          have hsz : len * es = cs.size := by
            have h1 := fillA_length _ _ _ _ hcells
            rw [← hl, h1]
            simp [zerosA]
          obtain ⟨v, h', lw, h1, h2⟩ := exec_newslice (call := call) (es := es) (len := len) (cap := len) (fr := (0, 0)) h (cells := cells) (.inl rfl) hn (by omega) (Nat.le_refl _) hsz (by rw [hl, List.take_of_length_le (by simp)]; exact hr) hrun
          rw [h1] at hdo; cases hdo
          exact h2
        · cases e
          exact exec_lit h (Nat.le_refl _) (by rw [hl, List.take_of_length_le (by simp)]; exact hr) hrun rfl rfl
      · cases e
    · cases e
  · cases e
theorem rk_build (h : SRel c A we M s a w) {f : FuncId} {t : TypeId} {parts : Array (Nat × Operand)} (ho : o.op = .build t parts) {r : Req} (e : aop c f s.fr o = some r) : ReqOk c A we s o a w r := by
  simp only [aop, ho] at e
  split at e
  · rename_i fields hu
    split at e
    · rename_i hall
      simp only [Option.bind_eq_some_iff, Option.map_eq_some_iff] at e
      obtain ⟨z, hz, cells, hc, rfl⟩ := e
      obtain ⟨cs, h1, h2⟩ := exec_build (w := w) ho h.fr hu hall hz hc
      exact to_done h h1 ⟨cs, rfl, h2⟩
    · cases e
  · exact reqOk_plain h e (by rw [ho]; intro _ _ h; cases h)
theorem rk_extract (h : SRel c A we M s a w) {f : FuncId} {x : Operand} {i : Nat} (ho : o.op = .extract x i) {r : Req} (e : aop c f s.fr o = some r) : ReqOk c A we s o a w r := by
  simp only [aop, ho] at e
  have hx := h.fr.ev x
  split at e
  · rename_i l hev
    simp only [Option.map_eq_some_iff] at e
    obtain ⟨v, hv, rfl⟩ := e
    rw [hev] at hx
    obtain ⟨cs, h1, h2⟩ := hx
    obtain ⟨y, hy, hr⟩ := h2.get hv
    refine to_done h (x := y) ?_ hr
    have hy' : cs[i]? = some y := by simpa using hy
    simp only [execOp, ho, h1, Instr.extract, hy', Sem.run_bind, Sem.run_pure, Result.andThen_ok]
  · exact reqOk_plain h e (by rw [ho]; intro _ _ h; cases h)
theorem rk_convert (h : SRel c A we M s a w) {f : FuncId} {src dst : TypeId} {x : Operand} (ho : o.op = .convert src dst x) {r : Req} (e : aop c f s.fr o = some r) : ReqOk c A we s o a w r := by
  simp only [aop, ho] at e
  have hx := h.fr.ev x
  split at e
  · rename_i el str hs hd hev
    split at e
    · rename_i he
      have he := isU8_eq he
      rw [hev] at hx
      simp only [Rv] at hx
      obtain ⟨h1, h2⟩ := sound_conv_bytes h ho hs hd he hx
      split at e
      · split at e
        · cases e
          intro call _ res hdo
          obtain ⟨v, h', lw, h3, h4⟩ := h2 call
          rw [h3] at hdo; cases hdo
          exact h4
        · cases e
          exact h1
      · cases e
    · cases e
  · rename_i el b g off len hs hd hev
    split at e
    · rename_i he
      have he := isU8_eq he
      cases e
      rw [hev] at hx
      intro call _ res hdo
      simp only [doHeap] at hdo
      split at hdo
      · rename_i k hk
        split at hdo
        · rename_i hc
          obtain ⟨hc1, hc2⟩ := hc
          simp only [Option.map_eq_some_iff] at hdo
          obtain ⟨bs, hb, rfl⟩ := hdo
          obtain ⟨k1, k3, k4⟩ := h.hr.blk b k hk
          obtain ⟨cur, e', fr, k5, k6, k7, k8, k9⟩ := k4.row
          obtain ⟨p0, p1, ad, cap, p2, p3, p4⟩ := hx
          obtain ⟨p5, p6, p7⟩ := p4 (k1.trans hc1)
          have hr := (k9.drop (off - (M.home b).shift)).take len
          rw [List.drop_drop, show (M.home b).shift + (off - (M.home b).shift) = off from by omega] at hr
          have hlen : ((k.cells.drop off).take len).length = len := by simp; omega
          refine to_heap h (x := .string ⟨bs.toArray⟩) ?_ (HStep.refl h.hr) rfl
          refine exec_conv_str ho hs he hd (b := (M.home b).blk) (off := off - (M.home b).shift) hb hlen hr ?_ ?_ p2
          · intro h0 j v hv
            rw [cell_blk k5]
            rw [List.getElem?_take] at hv
            split at hv
            · rw [List.getElem?_drop, List.getElem?_take] at hv
              split at hv
              · simpa using hv
              · cases hv
            · cases hv
          · intro h0
            exact p7.resolve_left (by omega)
        · cases hdo
      · cases hdo
    · cases e
  · rename_i el cs len hs hd hev
    split at e
    · rename_i hc
      obtain ⟨he, hl⟩ := hc
      have he := isU8_eq he
      simp only [Option.map_eq_some_iff] at e
      obtain ⟨bs, hb, rfl⟩ := e
      rw [hev] at hx
      obtain ⟨b, off, cap, cur, p2, p3, p4, p5⟩ := hx
      obtain ⟨_, ⟨e', fr, k5⟩, _⟩ := h.hr.imm b cur p4
      refine to_done h (x := .string ⟨bs.toArray⟩) ?_ rfl
      refine exec_conv_str ho hs he hd (b := b) (off := off) hb hl p5 ?_ (fun _ => rfl) p2
      intro h0 j v hv
      rw [cell_blk k5]
      rw [List.getElem?_take] at hv
      split at hv
      · simpa using hv
      · cases hv
    · cases e
  · exact reqOk_plain h e (by rw [ho]; intro _ _ h; cases h)
theorem rk_iface (h : SRel c A we M s a w) {f : FuncId} {t : TypeId} {x : Operand} (ho : o.op = .makeInterface t x) {r : Req} (e : aop c f s.fr o = some r) : ReqOk c A we s o a w r := by
  simp only [aop, ho] at e
  have hx := h.fr.ev x
  split at e
  · cases e
  · rename_i d hd hu
    cases e
    refine to_done h (x := .iface t (a.eval x)) ?_ ⟨_, rfl, hx⟩
    simp only [execOp, ho, Instr.makeInterface, Sem.run_bind, run_und hu, Result.andThen_ok]
    cases d <;> simp_all
  · cases e
theorem rk_func (h : SRel c A we M s a w) {f : FuncId} {fn : Fn} {l k : Array Operand} (ho : o.op = .makeFunc fn l k) {r : Req} (e : aop c f s.fr o = some r) : ReqOk c A we s o a w r := by
  simp only [aop, ho] at e
  cases e
  refine to_done h (x := .func fn (l.map a.eval) (k.map a.eval)) ?_ ⟨_, _, rfl, by simpa using h.fr.evs l.toList, by simpa using h.fr.evs k.toList⟩
  simp only [execOp, ho, Instr.makeFunc, Sem.run_bind, Sem.run_pure, Result.andThen_ok]
theorem rk_range (h : SRel c A we M s a w) {f : FuncId} {t : TypeId} {x : Operand} (ho : o.op = .range t x) {r : Req} (e : aop c f s.fr o = some r) : ReqOk c A we s o a w r := by
  simp only [aop, ho] at e
  have hx := h.fr.ev x
  split at e
  · rename_i str d hu hev hd
    cases e
    rw [hev] at hx
    simp only [Rv] at hx
    intro v loc hdo
    simp only [doBox] at hdo
    cases hdo
    obtain ⟨M', E, h1, h2, h3, h4⟩ := loc_new h.hr h.lr h.wle d (.iter str 0) (.stringIter str 0) (fun M' E => heap_alloc_new w _)
    refine wps_value ?_ ⟨M', h.box E h1 h2 (h.k0.trans h4) h3 o.dst⟩
    simp only [execOp, ho, hx, Sem.run_bind, run_range_string hu, Result.andThen_ok, Sem.run_pure]
  · cases e
theorem rk_next (h : SRel c A we M s a w) {f : FuncId} {x : Operand} {b : Bool} (ho : o.op = .next x b) {r : Req} (e : aop c f s.fr o = some r) : ReqOk c A we s o a w r := by
  simp only [aop, ho] at e
  have hx := h.fr.ev x
  split at e
  · rename_i sl g hev
    split at e
    · rename_i hb
      subst hb
      cases e
      rw [hev] at hx
      intro v loc hdo
      simp only [doBox] at hdo
      split at hdo
      · rename_i g' str pos hg
        split at hdo
        · rename_i hgg
          subst hgg
          obtain ⟨k1, k2, k3, k4, k5⟩ := h.lr.box sl _ _ hg
          obtain ⟨_, ad, h1, h2⟩ := hx
          have had := h2 k1
          subst had
          simp only [LBOk] at k5
          split at hdo
          · rename_i hp
            cases hdo
            obtain ⟨m1, m2⟩ := loc_write h.hr h.lr h.lo hg (b' := .iter str (pos + (Utf8.decode str pos).2)) (.stringIter str (pos + (Utf8.decode str pos).2)) (setBlk_same (lt_of_blk k5))
            refine wps_value (v := .tuple #[.bool true, .int .i64 pos, .int .i32 (Utf8.decode str pos).1]) ?_ ⟨M, h.box (Ext.refl _ M) m1 m2 (h.k0.write k2 _) ?_ o.dst⟩
            · simp only [execOp, ho, h1, Sem.run_bind, run_next_more k5 hp, Result.andThen_ok, Sem.run_pure]
            · exact ⟨_, rfl, .cons rfl (.cons rfl (.cons rfl Rvs.nil))⟩
          · rename_i hp
            cases hdo
            refine wps_value (v := .tuple #[.bool false]) ?_ ⟨M, h.done (v := .tup [.val (.bool false)]) ⟨_, rfl, .cons rfl Rvs.nil⟩ o.dst⟩
            simp only [execOp, ho, h1, Sem.run_bind, run_next_over k5 hp, Result.andThen_ok, Sem.run_pure]
        · cases hdo
      · cases hdo
    · cases e
  · cases e
theorem rk_panic (h : SRel c A we M s a w) {f : FuncId} {x : Operand} (ho : o.op = .panic x) {r : Req} (e : aop c f s.fr o = some r) : ReqOk c A we s o a w r := by
  simp only [aop, ho] at e
  have hx := h.fr.ev x
  have key : ∀ t y, a.eval x = .iface t y → (execOp a.eval o).run c.P w = .halt (.panic (.iface t y)) w := by
    intro t y hy
    simp only [execOp, ho, hy, Instr.panic, Sem.run_bind, run_goPanic, Result.andThen_halt]
  split at e
  · rename_i t y hev
    cases e
    rw [hev] at hx
    obtain ⟨v, h1, h2⟩ := hx
    exact wps_panic (key t v h1) ⟨_, M, rfl, ⟨v, rfl, h2⟩, h.hr, h.k0, h.e0⟩
  · rename_i t v hev
    cases e
    rw [hev] at hx
    simp only [Rv] at hx
    exact wps_panic (key t v hx) ⟨_, M, rfl, rfl, h.hr, h.k0, h.e0⟩
  · cases e

/-! ### calls -/
theorem rk_enter (h : SRel c A we M s a w) {g : FuncId} {args : List AV} {vs : List Value} (hv : Rvs M args vs) (hn : noBxs args = true)
    (hrun : ∀ w' y, (callFunc g vs.toArray).run c.P w = .ok (.enter g y) w' → (execOp a.eval o).run c.P w = .ok (.enter g y) w') : ReqOk c A we s o a w (.heap (.call g args)) := by
  intro call hcall res hdo
  simp only [doHeap] at hdo
  split at hdo
  · rename_i v h' lw hc
    cases hdo
    obtain ⟨h1, h2, h3, h4⟩ := hcall _ _ _ _ _ _ hc M w vs h.hr hv hn
    refine wps_enter (hrun _ _ h3) (h4.mono ?_)
    rintro e w' ⟨M', st, x, rfl, hx⟩
    exact ⟨M', h.heap st hx o.dst⟩
  · rename_i v h' lw hc
    cases hdo
    obtain ⟨h1, h2, h3, h4⟩ := hcall _ _ _ _ _ _ hc M w vs h.hr hv hn
    refine wps_enter (hrun _ _ h3) (h4.mono ?_)
    rintro e w' ⟨M', st, x, rfl, hx⟩
    exact ⟨x, M', rfl, hx, st.rel, h.k0.trans st.keeps, h.e0.trans st.ext.weak⟩
  · cases hdo

theorem exec_call {k : Call} {x : Operand} (ho : o.op = .call k) (hk : k.callee = .value x) {g : FuncId} {first caps : Array Value} (hx : a.eval x = .func (.func g) first caps) {w' : World} {y : Array Value}
    (hc : (callFunc g (first.toList ++ k.args.toList.map a.eval ++ caps.toList).toArray).run c.P w = .ok (.enter g y) w') : (execOp a.eval o).run c.P w = .ok (.enter g y) w' := by
  have e1 : (first.toList ++ k.args.toList.map a.eval ++ caps.toList).toArray = first ++ k.args.map a.eval ++ caps := by
    apply Array.ext'
    simp
  rw [e1] at hc
  simp only [execOp, ho, resolve, hk, hx, Deferred.ofValue, Sem.run_bind, Sem.run_pure, Result.andThen_ok, invoke, hc]

theorem exec_builtin {k : Call} {b : Builtin} (ho : o.op = .call k) (hk : k.callee = .builtin b) : execOp a.eval o = builtin b k.argTypes o.type (k.args.map fun | .const _ => true | _ => false) (k.args.map a.eval) := by
  simp only [execOp, ho, resolve, hk]
  rfl

theorem run_len_slice {P : Program} {ts : Array TypeId} {ty e : TypeId} (h : (ts[0]?.bind P.underlying) = some (.slice e)) {x : Value} {len cap : Nat} {ad : Option Addr} (hx : x = .slice ad len cap) :
    (Builtin.len_ ts ty #[x]).run P w = .ok (.int .i64 len) w := by
  simp only [Option.bind_eq_some_iff] at h
  obtain ⟨t, h1, h2⟩ := h
  subst hx
  simp [Builtin.len_, h1, run_und h2, goInt]

theorem rk_call (h : SRel c A we M s a w) {f : FuncId} {k : Call} (ho : o.op = .call k) {r : Req} (e : aop c f s.fr o = some r) : ReqOk c A we s o a w r := by
  simp only [aop, ho] at e
  have hargs := h.fr.evs k.args.toList
  have hmap : k.args.map a.eval = (k.args.toList.map a.eval).toArray := by apply Array.ext'; simp
  split at e
  · rename_i hk
    have hlen : ∀ x len, (k.args.toList.map (ev s.fr)) = [x] → (∀ y, Rv M x y → ∃ ad cap, y = .slice ad len cap) → isSl (k.argTypes[0]?.bind c.P.underlying) = true →
        To c A we o a w { s with fr := putT s.fr o.dst (.val (.int .i64 len)) } := by
      intro x len h1 h2 h3
      rw [h1] at hargs
      obtain ⟨y, r, h4, h5, h6⟩ := hargs
      simp only [Rvs] at h6; subst h6
      obtain ⟨ad, cap, hy⟩ := h2 y h5
      obtain ⟨e, hT⟩ := isSl_eq h3
      refine to_done h (x := .int .i64 len) ?_ rfl
      rw [exec_builtin ho hk, hmap, h4]
      simp only [builtin, Sem.run_bind, run_len_slice hT hy, Result.andThen_ok, Sem.run_pure]
    split at e
    · rename_i b g off len es hl
      split at e
      · rename_i hT
        cases e
        exact hlen _ len hl (fun y hy => by obtain ⟨_, _, ad, cap, rfl, _⟩ := hy; exact ⟨_, _, rfl⟩) hT
      · cases e
    · rename_i cs len hl
      split at e
      · rename_i hT
        cases e
        exact hlen _ len hl (fun y hy => by obtain ⟨b, off, cap, cur, rfl, _⟩ := hy; exact ⟨_, _, rfl⟩) hT
      · cases e
    · exact reqOk_plain h e (by rw [ho]; intro _ _ h; cases h)
  · rename_i hk
    split at e
    · rename_i d x t hl ht
      simp only [Option.bind_eq_some_iff] at e
      obtain ⟨⟨el, es⟩, he, e⟩ := e
      split at e
      · rename_i hc
        obtain ⟨hc1, hc2, hc3⟩ := hc
        cases e
        rw [hl] at hargs
        obtain ⟨y, r, h4, h5, h6⟩ := hargs
        obtain ⟨y', r', h7, h8, h9⟩ := h6
        simp only [Rvs] at h9; subst h9
        subst h7
        intro call _ res hdo
        obtain ⟨he1, he2⟩ := elemSize_rel he
        have hT : AppT c.P k.argTypes el := by
          obtain ⟨d, hd1, hd2⟩ := nonInt_eq hc3
          simp only [Option.bind_eq_some_iff] at hd1
          obtain ⟨u, hu1, hu2⟩ := hd1
          exact ⟨t, ht, he1, u, d, hu1, hu2, hd2⟩
        cases res with
        | val v h' lw =>
          obtain ⟨z, w', M', h10, h11, h12⟩ := sound_app h hdo hT (ty := o.type) h5 h8 hc1 hc2
          refine to_heap h (x := z) ?_ h11 h12
          rw [exec_builtin ho hk, hmap, h4]
          simp only [builtin, Sem.run_bind, h10, Result.andThen_ok, Sem.run_pure]
        | pan v h' lw =>
          simp only [doHeap] at hdo
          (repeat' split at hdo) <;> simp at hdo
      · cases e
    · cases e
  · exact reqOk_plain h e (by rw [ho]; intro _ _ h; cases h)
  · rename_i x hk
    split at e
    · rename_i hn
      have hx := h.fr.ev x
      split at e
      · rename_i g first caps hev
        cases e
        rw [hev] at hx
        simp only [Rv] at hx
        refine rk_enter h (vs := first.toList ++ k.args.toList.map a.eval ++ caps.toList) (((Rvs.vals _).append hargs).append (Rvs.vals _)) (by simp only [noBxs_append, noBxs_vals, hn, Bool.and_self]) ?_
        intro w' y hc
        exact exec_call ho hk hx hc
      · rename_i g first caps hev
        split at e
        · rename_i hfc
          cases e
          rw [hev] at hx
          obtain ⟨f', c', h1, h2, h3⟩ := hx
          refine rk_enter h (vs := f'.toList ++ k.args.toList.map a.eval ++ c'.toList) ((h2.append hargs).append h3) (by simp only [noBxs_append, hfc.1, hfc.2, hn, Bool.and_self]) ?_
          intro w' y hc
          exact exec_call ho hk h1 hc
        · cases e
      · cases e
    · cases e
  · cases e
end Go.Proofs.Ytmglahnoemgieaa.Ax
namespace Go.Proofs.Ytmglahnoemgieaa.Ax
open Go Go.RowKit
set_option linter.unusedSimpArgs false
set_option linter.unusedVariables false
variable {c : Cfg} {A M : Mu} {we : World} {s : S} {o : Oper} {a : Act} {w w' : World}

theorem aop_sound (h : SRel c A we M s a w) {f : FuncId} {r : Req} (e : aop c f s.fr o = some r) : ReqOk c A we s o a w r := by
  cases ho : o.op with
  | move x =>
    simp only [aop, ho] at e
    cases e
    exact to_done h (x := a.eval x) (by simp only [execOp, ho, Sem.run_pure]) (h.fr.ev x)
  | assign x =>
    simp only [aop, ho] at e
    cases e
    exact to_done h (x := a.eval x) (by simp only [execOp, ho, Sem.run_pure]) (h.fr.ev x)
  | pick x p q =>
    simp only [aop, ho] at e
    have hx := h.fr.ev x
    split at e
    · rename_i t hev
      cases e
      rw [hev] at hx
      simp only [Rv] at hx
      refine to_done h (x := if t then a.eval p else a.eval q) ?_ ?_
      · simp only [execOp, ho, hx, asBool, Sem.run_bind, Sem.run_pure, Result.andThen_ok]
      · cases t
        · exact h.fr.ev q
        · exact h.fr.ev p
    · cases e
  | alloc t =>
    simp only [aop, ho, Option.bind_eq_some_iff] at e
    obtain ⟨z, hz, e⟩ := e
    refine reqOk_new h e (cur := z.cells) (e := t) (cells_rel (norm1_rel z)) ?_
    simp only [execOp, ho, Sem.run_bind, run_alloc hz, Result.andThen_ok, Sem.run_pure]
  | box t x =>
    simp only [aop, ho] at e
    refine reqOk_new h e (cur := (a.eval x).cells) (e := t) (cells_rel (h.fr.ev x)) ?_
    simp only [execOp, ho, Sem.run_bind, run_box, Result.andThen_ok, Sem.run_pure]
  | build t parts => exact rk_build h ho e
  | buildSlice t n parts => exact rk_buildSlice h ho e
  | load t x => exact rk_load h ho e
  | store t x y => exact rk_store h ho e
  | ready g => simp [aop, ho] at e
  | waits g => simp [aop, ho] at e
  | nilCheck x => exact rk_nil h ho e
  | binOp op t x y u => exact reqOk_plain h (by simpa only [aop, ho] using e) (by rw [ho]; intro _ _ h; cases h)
  | unOp op t x => exact reqOk_plain h (by simpa only [aop, ho] using e) (by rw [ho]; intro _ _ h; cases h)
  | convert t u x => exact rk_convert h ho e
  | sliceToArrayPointer t x => exact reqOk_plain h (by simpa only [aop, ho] using e) (by rw [ho]; intro _ _ h; cases h)
  | makeInterface t x => exact rk_iface h ho e
  | makeFunc f x y => exact rk_func h ho e
  | makeMap t x => simp [aop, ho] at e
  | makeChan t x => simp [aop, ho] at e
  | makeSlice t x y => simp [aop, ho] at e
  | slice t x l u m => exact rk_slice h ho e
  | fieldAddr t x i => exact rk_field h ho e
  | field t x i => exact reqOk_plain h (by simpa only [aop, ho] using e) (by rw [ho]; intro _ _ h; cases h)
  | indexAddr t x i => exact rk_index h ho e
  | index t x i => exact reqOk_plain h (by simpa only [aop, ho] using e) (by rw [ho]; intro _ _ h; cases h)
  | lookup t x i b => simp [aop, ho] at e
  | mapUpdate t m k x => simp [aop, ho] at e
  | insert t m k x => simp [aop, ho] at e
  | mapEntry t m k => simp [aop, ho] at e
  | entryStore t m k x => simp [aop, ho] at e
  | range t x => exact rk_range h ho e
  | next x b => exact rk_next h ho e
  | entry x => simp [aop, ho] at e
  | typeAssert x t u b => exact reqOk_plain h (by simpa only [aop, ho] using e) (by rw [ho]; intro _ _ h; cases h)
  | extract x i => exact rk_extract h ho e
  | call k => exact rk_call h ho e
  | go k => simp [aop, ho] at e
  | defer k => simp [aop, ho] at e
  | panic x => exact rk_panic h ho e
  | send x y => simp [aop, ho] at e
  | recv t x b => simp [aop, ho] at e
  | select l b => simp [aop, ho] at e

/-- a step, or its panic -/
def StepOk (c : Cfg) (A : Mu) (we : World) (o : Oper) (a : Act) (w : World) (p : Option AV) (s' : S) : Prop :=
  match p with
  | none => To c A we o a w s'
  | some v => Wps c.P o a w (fun _ _ => False) (PanOk c A we v s'.h)

theorem aone_sound {call : CallF} (hc : CallSound c call) (h : SRel c A we M s a w) {f : FuncId} {p : Option AV} {s' : S} {d : Dom} (e : aone c call f o s = some (p, s', d)) : StepOk c A we o a w p s' := by
  unfold aone at e
  split at e
  · cases e
  · rename_i v hr
    cases e
    exact aop_sound h hr
  · rename_i v hr
    cases e
    exact aop_sound h hr
  · rename_i r hr
    have := aop_sound h hr
    split at e
    · rename_i v loc hd
      cases e
      exact this v loc hd
    · cases e
  · rename_i r hr
    have := aop_sound h hr
    split at e
    · rename_i v h' lw hd
      cases e
      exact this call hc _ hd
    · rename_i v h' lw hd
      cases e
      exact this call hc _ hd
    · cases e

theorem wanted_rel {ops : Array Oper} (h : FRel M s.fr a) : wantedA ops s.fr o = Region.wanted o (yielded ops a.tmps) := by
  unfold wantedA Region.wanted
  cases hg : o.guard with
  | none => rfl
  | some g =>
    obtain ⟨j, want⟩ := g
    simp only [yielded]
    cases hd : (ops[j]?).bind (·.dst) with
    | none => rfl
    | some d =>
      simp only [Option.bind_some]
      have hx := Rvs.getT h d
      cases ht : a.tmps[d]? with
      | none =>
        have : a.tmps.toList.getD d undef = undef := by
          have h2 : ¬ d < a.tmps.size := fun hlt => by simp [Array.getElem?_eq_getElem hlt] at ht
          simp only [List.getD_eq_getElem?_getD]
          rw [List.getElem?_eq_none (by simpa using h2)]; rfl
        have hlen := Rvs.length h
        have h2 : ¬ d < s.fr.length := by
          intro hlt
          have : d < a.tmps.size := by simpa [hlen] using hlt
          simp [Array.getElem?_eq_getElem this] at ht
        have hund : getT s.fr d = undefA := by
          rw [getT_eq, List.getD_eq_getElem?_getD, List.getElem?_eq_none (Nat.le_of_not_lt h2)]; rfl
        rw [hund]; rfl
      | some v =>
        have hv : a.tmps.toList.getD d undef = v := by
          simp only [List.getD_eq_getElem?_getD, Array.getElem?_toList, ht]; rfl
        rw [hv] at hx
        cases hq : getT s.fr d with
        | val u =>
          rw [hq] at hx
          simp only [Rv] at hx; subst hx
          cases v <;> first | rfl | (rename_i b; cases b <;> cases want <;> rfl)
        | bx s g off => rw [hq] at hx; obtain ⟨_, _, rfl, _⟩ := hx; rfl
        | ptr b g off => rw [hq] at hx; obtain ⟨_, _, _, rfl, _⟩ := hx; rfl
        | sl b g off len es => rw [hq] at hx; obtain ⟨_, _, _, _, rfl, _⟩ := hx; rfl
        | lit cs len => rw [hq] at hx; obtain ⟨_, _, _, _, rfl, _⟩ := hx; rfl
        | lp cs => rw [hq] at hx; obtain ⟨_, _, _, rfl, _⟩ := hx; rfl
        | agg l => rw [hq] at hx; obtain ⟨_, rfl, _⟩ := hx; rfl
        | tup l => rw [hq] at hx; obtain ⟨_, rfl, _⟩ := hx; rfl
        | ifc t y => rw [hq] at hx; obtain ⟨_, rfl, _⟩ := hx; rfl
        | fn f p q => rw [hq] at hx; obtain ⟨_, _, rfl, _⟩ := hx; rfl

/-- what comes behind a region -/
def RegQ (c : Cfg) (A : Mu) (we : World) (p : Option AV) (s' : S) : Exit → Act → World → Prop
  | .normal, a, w => p = none ∧ ∃ M, SRel c A we M s' a w
  | .panic ch, a, w => a.defers = [] ∧ ∃ v, p = some v ∧ PanOk c A we v s'.h ch w
  | _, _, _ => False

/-- one operation of a region, at its place -/
theorem astep_wpOp {call : CallF} (hc : CallSound c call) {f : FuncId} {ops : Array Oper} {i : Nat} (hi : ops[i]? = some o) (h : SRel c A we M s a w) {p : Option AV} {s' : S} {d : Dom} (e : astep c call f ops o s = some (p, s', d))
    {Q : Exit → Act → World → Prop} {K : Act → World → Prop} (hK : p = none → ∀ M' a' w', SRel c A we M' s' a' w' → K a' w') (hQ : ∀ v ch w', p = some v → PanOk c A we v s'.h ch w' → Q (.panic ch) a w') : wpOp c.P ops Q i K a w := by
  unfold wpOp
  simp only [hi]
  unfold astep at e
  rw [wanted_rel h.fr] at e
  split
  · rename_i hw
    rw [if_pos hw] at e
    have := aone_sound hc h e
    left
    cases p with
    | none => exact this K Q (fun a' w' ⟨M', h'⟩ => hK rfl M' a' w' h') (fun _ _ h => h.elim)
    | some v => exact this K Q (fun _ _ h => h.elim) (fun ch w' h' => hQ v ch w' rfl h')
  · rename_i hw
    rw [if_neg hw] at e
    cases e
    exact hK rfl M _ _ (h.done (v := undefA) (x := undef) rfl o.dst)

/-- a region in the text's order -/
theorem aops_sound {call : CallF} (hc : CallSound c call) {f : FuncId} {ops : Array Oper} : ∀ (l : List Oper) (k : Nat), (∀ j, l[j]? = ops[k + j]?) → ∀ (s : S) (M : Mu) (a : Act) (w : World) (p : Option AV) (s' : S) (ds : List Dom),
    aops c call f ops l s = some (p, s', ds) → SRel c A we M s a w → wpOps c.P ops (RegQ c A we p s') (List.range' k l.length) a w
  | [], k, hk, s, M, a, w, p, s', ds, e, h => by
    simp only [aops] at e; cases e
    exact ⟨rfl, M, h⟩
  | o :: l, k, hk, s, M, a, w, p, s', ds, e, h => by
    have h0 : ops[k]? = some o := by simpa using (hk 0).symm
    rw [List.length_cons, List.range'_succ, wpOps_cons]
    simp only [aops] at e
    have hk' : ∀ j, l[j]? = ops[k + 1 + j]? := fun j => by
      have := hk (j + 1)
      simpa [Nat.add_assoc, Nat.add_comm 1 j] using this
    split at e
    · rename_i s1 d hs
      split at e
      · rename_i p2 s2 ds2 hr
        cases e
        exact astep_wpOp hc h0 h hs (fun _ M' a' w' h' => aops_sound hc l (k + 1) hk' s1 M' a' w' p s' ds2 hr h') (fun v ch w' hv _ => by cases hv)
      · cases e
    · rename_i v s1 d hs
      cases e
      exact astep_wpOp hc h0 h hs (fun hv => by cases hv) (fun v' ch w' hv hp => ⟨h.df, v', hv, hp⟩)
    · cases e
end Go.Proofs.Ytmglahnoemgieaa.Ax
namespace Go.Proofs.Ytmglahnoemgieaa.Ax
open Go Go.RowKit
set_option linter.unusedSimpArgs false
set_option linter.unusedVariables false

theorem bounds_congr {fr fr' : List AV} {lo hi : Option Operand} (h1 : ∀ x ∈ lo, ev fr x = ev fr' x) (h2 : ∀ x ∈ hi, ev fr x = ev fr' x) (len : Nat) : boundsA fr len lo hi = boundsA fr' len lo hi := by
  unfold boundsA
  cases lo <;> cases hi <;> simp_all
theorem plain_congr {P : Program} {fr fr' : List AV} {o : Oper} (h : ∀ x ∈ o.op.operands.toList, ev fr x = ev fr' x) (hs : ∀ l b, o.op ≠ .select l b) : plainOp P fr o = plainOp P fr' o := by
  unfold plainOp
  have e1 : (o.op.operands.toList.all fun x => (toVal (ev fr x)).isSome) = (o.op.operands.toList.all fun x => (toVal (ev fr' x)).isSome) := by
    apply Bool.eq_iff_iff.2
    simp only [List.all_eq_true]
    exact ⟨fun k x hx => by rw [← h x hx]; exact k x hx, fun k x hx => by rw [h x hx]; exact k x hx⟩
  rw [e1, execOp_congr (ρ := fun x => (toVal (ev fr x)).getD undef) (ρ' := fun x => (toVal (ev fr' x)).getD undef) (fun x hx => by simp only [h x hx]) (fun l => hs l true) (fun l => hs l false)]

theorem aop_congr {c : Cfg} {f : FuncId} {fr fr' : List AV} {o : Oper} (h : ∀ x ∈ o.op.operands.toList, ev fr x = ev fr' x) : aop c f fr o = aop c f fr' o := by
  have hlist : ∀ l : Array Operand, (∀ x ∈ l.toList, ev fr x = ev fr' x) → l.toList.map (ev fr) = l.toList.map (ev fr') := fun l hl => List.map_congr_left hl
  have hpart : ∀ l : Array (Nat × Operand), (∀ x ∈ (l.toList.map (·.2)), ev fr x = ev fr' x) → (l.toList.map fun x => (x.1, ev fr x.2)) = l.toList.map fun x => (x.1, ev fr' x.2) := by
    intro l hl
    apply List.map_congr_left
    rintro ⟨i, x⟩ hx
    simp only [Prod.mk.injEq, true_and]
    exact hl x (List.mem_map.2 ⟨(i, x), hx, rfl⟩)
  cases ho : o.op with
  | select l b => simp only [aop, ho]
  | build t parts =>
    have hp := plain_congr (P := c.P) h (by rw [ho]; intro _ _ h; cases h)
    rw [ho] at h
    simp only [Op.operands] at h
    simp only [aop, ho, hp]
    rw [hpart parts (by simpa using h)]
  | buildSlice t n parts =>
    rw [ho] at h
    simp only [Op.operands] at h
    simp only [aop, ho]
    rw [hpart parts (by simpa using h)]
  | makeFunc fn x y =>
    rw [ho] at h
    simp only [Op.operands] at h
    simp only [aop, ho]
    rw [hlist x (fun z hz => h z (by simp at hz; simp [hz])), hlist y (fun z hz => h z (by simp at hz; simp [hz]))]
  | slice t x l u m =>
    have hp := plain_congr (P := c.P) h (by rw [ho]; intro _ _ h; cases h)
    rw [ho] at h
    simp only [Op.operands] at h
    have hx : ev fr x = ev fr' x := h x (by simp)
    have hb : ∀ len, boundsA fr len l u = boundsA fr' len l u := bounds_congr (fun z hz => h z (by simp at hz; simp [hz])) (fun z hz => h z (by simp at hz; simp [hz]))
    simp only [aop, ho, hp, hx, hb]
  | call k =>
    have hp := plain_congr (P := c.P) h (by rw [ho]; intro _ _ h; cases h)
    rw [ho] at h
    simp only [Op.operands, Call.operands] at h
    have hargs := hlist k.args (fun z hz => h z (by simp at hz; simp [hz]))
    simp only [aop, ho, hp, hargs]
    cases hk : k.callee with
    | value x =>
      have hx : ev fr x = ev fr' x := h x (by simp [hk])
      simp only [hx]
    | builtin b => cases b <;> rfl
    | invoke r n => rfl
  | _ =>
    have hp := plain_congr (P := c.P) h (by rw [ho]; intro _ _ h; cases h)
    rw [ho] at h
    simp only [Op.operands] at h
    simp only [aop, ho, hp]
    all_goals first
    | (simp at h; simp only [h]; done)
    | (simp at h; obtain ⟨h1, h2⟩ := h; simp only [h1, h2]; done)
    | (simp at h; obtain ⟨h1, h2, h3⟩ := h; simp only [h1, h2, h3]; done)

/-! ### what a step does, apart from where it starts -/
inductive Eff where
  | none
  | loc (b g : Nat) (x : LB)
  | heap (h : H) (lw : Option Nat)
def applyE (s : S) (d : Option Tmp) (v : AV) : Eff → S
  | .none => { s with fr := putT s.fr d v }
  | .loc b g x => { s with fr := putT s.fr d v, loc := locSet s.loc b g x }
  | .heap h lw => { s with fr := putT s.fr d v, h := h, lw := lwMin s.lw lw }
def EffDom (d : Dom) : Eff → Prop
  | .none => True
  | .loc b _ _ => d = .wb b
  | .heap _ _ => d = .wh
structure Agree (ops : Array Oper) (o : Oper) (d : Dom) (s t : S) : Prop where
  fr : ∀ x ∈ o.looksAt ops, getT s.fr x = getT t.fr x
  loc : ∀ b, d = .rb b ∨ d = .wb b → locGet s.loc b = locGet t.loc b
  h : d = .rh ∨ d = .wh → s.h = t.h

theorem lwMin_none (l : Option Nat) : lwMin l none = l := by cases l <;> rfl

theorem doBox_local {loc loc' : Loc} {r : BReq} {v : AV} (e : doBox loc r = some (v, loc')) : ∃ E, EffDom r.dom E ∧ (∀ s : S, s.loc = loc → ∀ d, applyE s d v E = { s with fr := putT s.fr d v, loc := loc' }) ∧
    ∀ l, (∀ b, r.dom = .rb b ∨ r.dom = .wb b → locGet loc b = locGet l b) → ∃ l', doBox l r = some (v, l') ∧ ∀ s : S, s.loc = l → ∀ d, applyE s d v E = { s with fr := putT s.fr d v, loc := l' } := by
  cases r with
  | new s cells =>
    simp only [doBox] at e
    cases e
    refine ⟨.loc s (nextGen loc s) (.cells cells), rfl, ?_, ?_⟩
    · rintro t rfl d; rfl
    · intro l hl
      have : nextGen loc s = nextGen l s := by unfold nextGen; rw [hl s (.inr rfl)]
      refine ⟨locSet l s (nextGen l s) (.cells cells), by simp only [doBox, this], ?_⟩
      rintro t rfl d
      simp only [applyE, this]
  | iter s str =>
    simp only [doBox] at e
    cases e
    refine ⟨.loc s (nextGen loc s) (.iter str 0), rfl, ?_, ?_⟩
    · rintro t rfl d; rfl
    · intro l hl
      have : nextGen loc s = nextGen l s := by unfold nextGen; rw [hl s (.inr rfl)]
      refine ⟨locSet l s (nextGen l s) (.iter str 0), by simp only [doBox, this], ?_⟩
      rintro t rfl d
      simp only [applyE, this]
  | load s g off n agg =>
    simp only [doBox] at e
    split at e
    · rename_i g' l0 hg
      split at e
      · rename_i hgg
        simp only [Option.map_eq_some_iff] at e
        obtain ⟨v', hv, he⟩ := e
        cases he
        refine ⟨.none, trivial, ?_, ?_⟩
        · rintro t rfl d; rfl
        · intro l hl
          refine ⟨l, ?_, ?_⟩
          · simp only [doBox]
            rw [← hl s (.inl rfl), hg]
            simp only
            rw [if_pos hgg, hv]; rfl
          · rintro t rfl d; rfl
      · cases e
    · cases e
  | store s g off cells =>
    simp only [doBox] at e
    split at e
    · rename_i g' l0 hg
      split at e
      · rename_i hgg
        simp only [Option.map_eq_some_iff] at e
        obtain ⟨l1, hv, he⟩ := e
        cases he
        refine ⟨.loc s g (.cells l1), rfl, ?_, ?_⟩
        · rintro t rfl d; rfl
        · intro l hl
          refine ⟨locSet l s g (.cells l1), ?_, ?_⟩
          · simp only [doBox]
            rw [← hl s (.inr rfl), hg]
            simp only
            rw [if_pos hgg, hv]; rfl
          · rintro t rfl d; rfl
      · cases e
    · cases e
  | next s g =>
    simp only [doBox] at e
    split at e
    · rename_i g' str pos hg
      split at e
      · rename_i hgg
        split at e
        · rename_i hp
          cases e
          refine ⟨.loc s g (.iter str (pos + (Utf8.decode str pos).2)), rfl, ?_, ?_⟩
          · rintro t rfl d; rfl
          · intro l hl
            refine ⟨locSet l s g (.iter str (pos + (Utf8.decode str pos).2)), ?_, ?_⟩
            · simp only [doBox]
              rw [← hl s (.inr rfl), hg]
              simp only
              rw [if_pos hgg, if_pos hp]
            · rintro t rfl d; rfl
        · rename_i hp
          cases e
          refine ⟨.none, trivial, ?_, ?_⟩
          · rintro t rfl d; rfl
          · intro l hl
            refine ⟨l, ?_, ?_⟩
            · simp only [doBox]
              rw [← hl s (.inr rfl), hg]
              simp only
              rw [if_pos hgg, if_neg hp]
            · rintro t rfl d; rfl
      · cases e
    · cases e

theorem doHeap_read {c : Cfg} {call : CallF} {h h' : H} {r : HReq} {v : AV} {lw : Option Nat} (e : doHeap c call h r = some (.val v h' lw)) (hd : r.dom ≠ .wh) : h' = h ∧ lw = none := by
  cases r with
  | load b g off n agg =>
    simp only [doHeap] at e
    split at e
    · split at e
      · simp only [Option.map_eq_some_iff] at e
        obtain ⟨v', hv, he⟩ := e
        cases he; exact ⟨rfl, rfl⟩
      · cases e
    · cases e
  | str b g off len =>
    simp only [doHeap] at e
    split at e
    · split at e
      · simp only [Option.map_eq_some_iff] at e
        obtain ⟨v', hv, he⟩ := e
        cases he; exact ⟨rfl, rfl⟩
      · cases e
    · cases e
  | _ => exact absurd rfl hd
theorem doHeap_pan {c : Cfg} {call : CallF} {h h' : H} {r : HReq} {v : AV} {lw : Option Nat} (e : doHeap c call h r = some (.pan v h' lw)) : r.dom = .wh := by
  cases r with
  | load b g off n agg => simp only [doHeap] at e; (repeat' split at e) <;> simp at e
  | str b g off len => simp only [doHeap] at e; (repeat' split at e) <;> simp at e
  | _ => rfl

theorem ev_agree {fr fr' : List AV} {o : Oper} {ops : Array Oper} (h : ∀ x ∈ o.looksAt ops, getT fr x = getT fr' x) : ∀ x ∈ o.op.operands.toList, ev fr x = ev fr' x := by
  intro x hx
  cases x with
  | tmp t => exact h t (List.mem_append_left _ (List.mem_filterMap.2 ⟨.tmp t, hx, rfl⟩))
  | _ => rfl
theorem wanted_agree {fr fr' : List AV} {o : Oper} {ops : Array Oper} (h : ∀ x ∈ o.looksAt ops, getT fr x = getT fr' x) : wantedA ops fr o = wantedA ops fr' o := by
  unfold wantedA
  cases hg : o.guard with
  | none => rfl
  | some gw =>
    obtain ⟨g, want⟩ := gw
    simp only
    cases ht : (ops[g]?).bind (·.dst) with
    | none => rfl
    | some t =>
      have := h t (by simp [Oper.looksAt, hg, ht])
      simp only [this]

/-- a step, from any state that agrees -/
theorem astep_local {c : Cfg} {call : CallF} {f : FuncId} {ops : Array Oper} {o : Oper} {s s' : S} {d : Dom} (e : astep c call f ops o s = some (none, s', d)) :
    ∃ v E, EffDom d E ∧ s' = applyE s o.dst v E ∧ ∀ t, Agree ops o d s t → astep c call f ops o t = some (none, applyE t o.dst v E, d) := by
  unfold astep at e
  split at e
  · rename_i hw
    unfold aone at e
    have hcong : ∀ t : S, (∀ x ∈ o.looksAt ops, getT s.fr x = getT t.fr x) → wantedA ops t.fr o = true ∧ aop c f t.fr o = aop c f s.fr o := fun t ht =>
      ⟨by rw [← wanted_agree ht]; exact hw, (aop_congr (ev_agree ht)).symm⟩
    split at e
    · cases e
    · rename_i v hr
      cases e
      refine ⟨v, .none, trivial, rfl, fun t ht => ?_⟩
      obtain ⟨h1, h2⟩ := hcong t ht.fr
      unfold astep
      rw [if_pos h1]; unfold aone; rw [h2, hr]; rfl
    · cases e
    · rename_i r hr
      split at e
      · rename_i v loc hd
        cases e
        obtain ⟨E, h1, h2, h3⟩ := doBox_local hd
        refine ⟨v, E, h1, (h2 s rfl o.dst).symm, fun t ht => ?_⟩
        obtain ⟨k1, k2⟩ := hcong t ht.fr
        obtain ⟨l', k3, k4⟩ := h3 t.loc ht.loc
        unfold astep
        rw [if_pos k1]; unfold aone; rw [k2, hr]
        simp only [k3]
        rw [k4 t rfl o.dst]
      · cases e
    · rename_i r hr
      split at e
      · rename_i v h' lw hd
        cases e
        by_cases hdom : r.dom = .wh
        · refine ⟨v, .heap h' lw, hdom, rfl, fun t ht => ?_⟩
          obtain ⟨k1, k2⟩ := hcong t ht.fr
          have hh := ht.h (.inr hdom)
          unfold astep
          rw [if_pos k1]; unfold aone; rw [k2, hr]
          simp only [← hh, hd]
          rfl
        · obtain ⟨e1, e2⟩ := doHeap_read hd hdom
          subst e1 e2
          refine ⟨v, .none, trivial, by simp only [applyE, lwMin_none], fun t ht => ?_⟩
          obtain ⟨k1, k2⟩ := hcong t ht.fr
          have hrd : r.dom = .rh := by cases r <;> simp_all [HReq.dom]
          have hh := ht.h (.inl hrd)
          unfold astep
          rw [if_pos k1]; unfold aone; rw [k2, hr]
          rw [hh] at hd
          simp only [hd, applyE, lwMin_none]
      · cases e
      · cases e
  · rename_i hw
    cases e
    refine ⟨undefA, .none, trivial, rfl, fun t ht => ?_⟩
    unfold astep
    rw [← wanted_agree ht.fr, if_neg hw]; rfl
/-- a panic, from any state that agrees -/
theorem astep_pan {c : Cfg} {call : CallF} {f : FuncId} {ops : Array Oper} {o : Oper} {s s' : S} {d : Dom} {v : AV} (e : astep c call f ops o s = some (some v, s', d)) :
    d = .wh ∧ ∀ t, Agree ops o d s t → ∃ t', astep c call f ops o t = some (some v, t', d) ∧ t'.h = s'.h := by
  unfold astep at e
  split at e
  · rename_i hw
    unfold aone at e
    have hcong : ∀ t : S, (∀ x ∈ o.looksAt ops, getT s.fr x = getT t.fr x) → wantedA ops t.fr o = true ∧ aop c f t.fr o = aop c f s.fr o := fun t ht =>
      ⟨by rw [← wanted_agree ht]; exact hw, (aop_congr (ev_agree ht)).symm⟩
    split at e
    · cases e
    · cases e
    · rename_i v hr
      cases e
      refine ⟨rfl, fun t ht => ?_⟩
      obtain ⟨h1, h2⟩ := hcong t ht.fr
      refine ⟨t, ?_, (ht.h (.inr rfl)).symm⟩
      unfold astep
      rw [if_pos h1]; unfold aone; rw [h2, hr]
    · split at e
      · cases e
      · cases e
    · rename_i r hr
      split at e
      · cases e
      · rename_i v' h' lw hd
        cases e
        have hdom := doHeap_pan hd
        refine ⟨hdom, fun t ht => ?_⟩
        obtain ⟨k1, k2⟩ := hcong t ht.fr
        have hh := ht.h (.inr hdom)
        refine ⟨{ t with h := h', lw := lwMin t.lw lw }, ?_, rfl⟩
        unfold astep
        rw [if_pos k1]; unfold aone; rw [k2, hr]
        simp only [← hh, hd]
      · cases e
  · cases e
end Go.Proofs.Ytmglahnoemgieaa.Ax
namespace Go.Proofs.Ytmglahnoemgieaa.Ax
open Go Go.RowKit
set_option linter.unusedSimpArgs false
set_option linter.unusedVariables false

theorem locSet_comm (l : Loc) {s t g g' : Nat} {x y : LB} (h : s ≠ t) : locSet (locSet l s g x) t g' y = locSet (locSet l t g' y) s g x := by
  induction l with
  | nil =>
    simp only [locSet]
    by_cases h1 : s < t
    · have h2 : ¬ t < s := by omega
      simp [h, h.symm, h1, h2]
    · have h2 : t < s := by omega
      simp [h, h.symm, h1, h2]
  | cons a l ih =>
    obtain ⟨r, gr, br⟩ := a
    simp only [locSet]
    by_cases h1 : r = s
    · subst h1
      simp only [if_true]
      by_cases h2 : t < r
      · simp [locSet, h, h.symm, h2, show ¬ r < t by omega, show ¬ r = t from h]
      · simp [locSet, h, h.symm, h2]
    · by_cases h2 : r = t
      · subst h2
        simp only [h1, if_false, if_true]
        by_cases h3 : s < r
        · simp [locSet, h, h.symm, h3, show ¬ r < s by omega, h1]
        · simp [locSet, h, h.symm, h3, h1]
      · by_cases h3 : s < r
        · by_cases h4 : t < r
          · rcases Nat.lt_or_ge s t with h5 | h5
            · simp [locSet, h, h.symm, h1, h2, h3, h4, h5, show ¬ t < s by omega]
            · have h6 : t < s := by omega
              simp [locSet, h, h.symm, h1, h2, h3, h4, h6, show ¬ s < t by omega]
          · have h5 : s < t := by omega
            simp [locSet, h, h.symm, h1, h2, h3, h4, h5, show ¬ t < s by omega]
        · by_cases h4 : t < r
          · have h5 : t < s := by omega
            simp [locSet, h, h.symm, h1, h2, h3, h4, h5, show ¬ s < t by omega]
          · simp [locSet, h1, h2, h3, h4, ih]
theorem putT_comm (fr : List AV) {d d' : Option Tmp} {v v' : AV} (h : ∀ x, d = some x → d' ≠ some x) : putT (putT fr d v) d' v' = putT (putT fr d' v') d v := by
  cases d with
  | none => rfl
  | some x =>
    cases d' with
    | none => rfl
    | some y =>
      have hne : x ≠ y := fun e => h x rfl (e ▸ rfl)
      simp only [putT, setT_eq]
      exact List.set_comm _ _ hne
theorem getT_put (fr : List AV) {d : Option Tmp} {v : AV} {x : Nat} (h : d ≠ some x) : getT (putT fr d v) x = getT fr x := by
  cases d with
  | none => rfl
  | some y =>
    have hne : y ≠ x := fun e => h (e ▸ rfl)
    simp only [putT, getT_eq, setT_eq, List.getD_eq_getElem?_getD, List.getElem?_set_ne hne]

theorem applyE_fr (s : S) (d : Option Tmp) (v : AV) (E : Eff) : (applyE s d v E).fr = putT s.fr d v := by cases E <;> rfl

section
variable {c : Cfg} {call : CallF} {f : FuncId} {ops : Array Oper}

/-- after a step that it does not meet, a step agrees with the state before -/
theorem agree_apply {o p : Oper} {d dp : Dom} (s : S) {v : AV} {E : Eff} (hE : EffDom dp E) (hd : ∀ x, p.dst = some x → x ∉ o.looksAt ops) (hm : Dom.meets dp d = false) : Agree ops o d (applyE s p.dst v E) s where
  fr x hx := by
    rw [applyE_fr]
    exact getT_put _ fun e => hd x e hx
  loc b hb := by
    cases E with
    | none => rfl
    | heap h lw => rfl
    | loc b' g x =>
      simp only [EffDom] at hE; subst hE
      have hne : b' ≠ b := by
        rintro rfl
        rcases hb with rfl | rfl <;> simp [Dom.meets] at hm
      simp only [applyE, locGet_set]
      rw [if_neg (fun e => hne e.symm)]
  h hh := by
    cases E with
    | none => rfl
    | loc b g x => rfl
    | heap h lw =>
      simp only [EffDom] at hE; subst hE
      rcases hh with rfl | rfl <;> simp [Dom.meets] at hm
theorem Agree.symm {o : Oper} {d : Dom} {s t : S} (h : Agree ops o d s t) : Agree ops o d t s := ⟨fun x hx => (h.fr x hx).symm, fun b hb => (h.loc b hb).symm, fun hh => (h.h hh).symm⟩
theorem Agree.trans {o : Oper} {d : Dom} {s t u : S} (h : Agree ops o d s t) (k : Agree ops o d t u) : Agree ops o d s u :=
  ⟨fun x hx => (h.fr x hx).trans (k.fr x hx), fun b hb => (h.loc b hb).trans (k.loc b hb), fun hh => (h.h hh).trans (k.h hh)⟩
theorem Agree.refl (o : Oper) (d : Dom) (s : S) : Agree ops o d s s := ⟨fun _ _ => rfl, fun _ _ => rfl, fun _ => rfl⟩

theorem lwMin_comm (a b : Option Nat) : lwMin a b = lwMin b a := by cases a <;> cases b <;> simp [lwMin, Nat.min_comm]
theorem lwMin_assoc (a b c : Option Nat) : lwMin (lwMin a b) c = lwMin a (lwMin b c) := by cases a <;> cases b <;> cases c <;> simp [lwMin, Nat.min_assoc]

theorem meets_comm (a b : Dom) : Dom.meets a b = Dom.meets b a := by
  cases a <;> cases b <;> first | rfl | exact BEq.comm

/-- two steps that do not meet: do they change places? -/
theorem applyE_comm (s : S) {d d' : Option Tmp} {v v' : AV} {E E' : Eff} {a b : Dom} (hE : EffDom a E) (hE' : EffDom b E') (hd : ∀ x, d = some x → d' ≠ some x) (hm : Dom.meets a b = false) :
    applyE (applyE s d v E) d' v' E' = applyE (applyE s d' v' E') d v E := by
  have hp := putT_comm s.fr (v := v) (v' := v') hd
  cases E with
  | none => cases E' <;> simp only [applyE, hp]
  | loc s1 g1 x1 =>
    cases E' with
    | loc s2 g2 x2 =>
      simp only [EffDom] at hE hE'
      subst hE hE'
      have hne : s1 ≠ s2 := by
        rintro rfl
        simp [Dom.meets] at hm
      simp only [applyE, hp, locSet_comm s.loc hne]
    | _ => simp only [applyE, hp]
  | heap h lw =>
    cases E' with
    | heap h' lw' =>
      simp only [EffDom] at hE hE'
      subst hE hE'
      simp [Dom.meets] at hm
    | _ => simp only [applyE, hp]

structure Compat (ops : Array Oper) (o p : Oper) (d e : Dom) : Prop where
  ap : o.apart ops p = true
  m : Dom.meets d e = false

theorem astep_swap {o p : Oper} {d e : Dom} (hc : Compat ops o p d e) {s s1 s2 : S} (h1 : astep c call f ops o s = some (none, s1, d)) (h2 : astep c call f ops p s1 = some (none, s2, e)) :
    ∃ t, astep c call f ops p s = some (none, t, e) ∧ astep c call f ops o t = some (none, s2, d) := by
  obtain ⟨a1, a2, a3⟩ := Oper.apart_spec hc.ap
  obtain ⟨v, E, hE, rfl, hl⟩ := astep_local h1
  obtain ⟨u, F, hF, rfl, hk⟩ := astep_local h2
  have ag1 := agree_apply (ops := ops) (o := p) (p := o) (d := e) s (v := v) hE a1 hc.m
  have hs := hk s ag1
  refine ⟨_, hs, ?_⟩
  have ag2 := agree_apply (ops := ops) (o := o) (p := p) (d := d) s (v := u) hF a3 (by rw [meets_comm]; exact hc.m)
  rw [hl _ ag2.symm, applyE_comm s hE hF a2 hc.m]

/-- the steps of some places, one after the other, each of the kind that is told -/
def RunL (c : Cfg) (call : CallF) (f : FuncId) (ops : Array Oper) (dom : Nat → Dom) : List Nat → S → S → Prop
  | [], s, s' => s' = s
  | i :: l, s, s' => ∃ o s1, ops[i]? = some o ∧ astep c call f ops o s = some (none, s1, dom i) ∧ RunL c call f ops dom l s1 s'

def CompatAt (ops : Array Oper) (dom : Nat → Dom) (i j : Nat) : Prop := ∀ o p, ops[i]? = some o → ops[j]? = some p → Compat ops o p (dom i) (dom j)

theorem RunL.front {dom : Nat → Dom} {i : Nat} {post : List Nat} : ∀ (pre : List Nat) (s s' : S), RunL c call f ops dom (pre ++ i :: post) s s' → (∀ p ∈ pre, CompatAt ops dom p i) →
    ∃ o t, ops[i]? = some o ∧ astep c call f ops o s = some (none, t, dom i) ∧ RunL c call f ops dom (pre ++ post) t s'
  | [], s, s', h, _ => by
    obtain ⟨o, s1, h1, h2, h3⟩ := h
    exact ⟨o, s1, h1, h2, h3⟩
  | q :: pre, s, s', h, hc => by
    obtain ⟨oq, s1, h1, h2, h3⟩ := h
    obtain ⟨o, t, k1, k2, k3⟩ := RunL.front pre s1 s' h3 (fun p hp => hc p (by simp [hp]))
    obtain ⟨t', m1, m2⟩ := astep_swap (hc q (by simp) oq o h1 k1) h2 k2
    exact ⟨o, t', k1, m1, oq, t, h1, m2, k3⟩

/-- a panic that comes behind steps that it does not meet, at once -/
theorem RunL.pan {dom : Nat → Dom} {i : Nat} {o : Oper} (hi : ops[i]? = some o) {v : AV} {s2 : S} {d : Dom} : ∀ (pre : List Nat) (s s1 : S), RunL c call f ops dom pre s s1 → (∀ p ∈ pre, CompatAt ops dom p i) → d = dom i →
    astep c call f ops o s1 = some (some v, s2, d) → ∃ t, astep c call f ops o s = some (some v, t, d) ∧ t.h = s2.h
  | [], s, s1, h, _, hd, e => by simp only [RunL] at h; subst h; exact ⟨s2, e, rfl⟩
  | q :: pre, s, s1, h, hc, hd, e => by
    obtain ⟨oq, t, h1, h2, h3⟩ := h
    obtain ⟨t2, k1, k2⟩ := RunL.pan hi pre t s1 h3 (fun p hp => hc p (by simp [hp])) hd e
    obtain ⟨v', E, hE, rfl, hl⟩ := astep_local h2
    have hcq := hc q (by simp) oq o h1 hi
    obtain ⟨a1, a2, a3⟩ := Oper.apart_spec hcq.ap
    obtain ⟨_, m2⟩ := astep_pan k1
    have ag := agree_apply (ops := ops) (o := o) (p := oq) (d := d) s (v := v') hE a1 (by rw [hd]; exact hcq.m)
    obtain ⟨t3, n1, n2⟩ := m2 s ag
    exact ⟨t3, n1, n2.trans k2⟩

/-- the run in the text's order, told so -/
theorem aops_runL : ∀ (l : List Oper) (k : Nat), (∀ j, l[j]? = ops[k + j]?) → ∀ (dom : Nat → Dom) (s s' : S) (p : Option AV) (ds : List Dom), (∀ j, j < ds.length → ds.getD j .pure = dom (k + j)) → aops c call f ops l s = some (p, s', ds) →
    match p with
    | none => RunL c call f ops dom (List.range' k l.length) s s'
    | some v => ∃ m o s1, ds.length = m + 1 ∧ RunL c call f ops dom (List.range' k m) s s1 ∧ ops[k + m]? = some o ∧ astep c call f ops o s1 = some (some v, s', dom (k + m))
  | [], k, hk, dom, s, s', p, ds, hds, e => by
    simp only [aops] at e; cases e
    rfl
  | o :: l, k, hk, dom, s, s', p, ds, hds, e => by
    have h0 : ops[k]? = some o := by simpa using (hk 0).symm
    have hk' : ∀ j, l[j]? = ops[k + 1 + j]? := fun j => by
      have := hk (j + 1)
      simpa [Nat.add_assoc, Nat.add_comm 1 j] using this
    simp only [aops] at e
    split at e
    · rename_i s1 d hs
      split at e
      · rename_i p2 s2 ds2 hr
        cases e
        have hd0 : d = dom k := by have := hds 0 (by simp); simpa using this
        have hds' : ∀ j, j < ds2.length → ds2.getD j .pure = dom (k + 1 + j) := fun j hj => by
          have := hds (j + 1) (by simp; omega)
          simpa [Nat.add_assoc, Nat.add_comm 1 j] using this
        have := aops_runL l (k + 1) hk' dom s1 s' p ds2 hds' hr
        cases p with
        | none =>
          simp only at this ⊢
          rw [List.length_cons, List.range'_succ]
          exact ⟨o, s1, h0, by rw [← hd0]; exact hs, this⟩
        | some v =>
          simp only at this ⊢
          obtain ⟨m, o', t, m1, m2, m3, m4⟩ := this
          refine ⟨m + 1, o', t, by simp [m1], ?_, ?_, ?_⟩
          · rw [List.range'_succ]
            exact ⟨o, s1, h0, by rw [← hd0]; exact hs, m2⟩
          · rw [show k + (m + 1) = k + 1 + m by omega]; exact m3
          · rw [show k + (m + 1) = k + 1 + m by omega]; exact m4
      · cases e
    · rename_i v s1 d hs
      cases e
      have hd0 : d = dom k := by have := hds 0 (by simp); simpa using this
      exact ⟨0, o, s, rfl, rfl, h0, by rw [Nat.add_zero, ← hd0]; exact hs⟩
    · cases e
end
end Go.Proofs.Ytmglahnoemgieaa.Ax
namespace Go.Proofs.Ytmglahnoemgieaa.Ax
open Go Go.RowKit
set_option linter.unusedSimpArgs false
set_option linter.unusedVariables false

/-- an operation that never meets memory -/
def kindPure (o : Oper) : Bool :=
  match o.op with
  | .move _ | .assign _ | .pick .. | .fieldAddr .. | .nilCheck _ | .indexAddr .. | .slice .. | .build .. | .extract .. | .makeInterface .. | .makeFunc .. | .binOp .. | .unOp .. | .field .. | .index .. | .typeAssert .. => true
  | .call k => (match k.callee with | .builtin .append => false | .builtin _ => true | _ => false)
  | _ => false

theorem plain_done {P : Program} {fr : List AV} {o : Oper} {r : Req} (h : plainOp P fr o = some r) : ∃ v, r = .done v := by
  unfold plainOp at h
  split at h
  · split at h
    · cases h; exact ⟨_, rfl⟩
    · cases h
  · cases h
theorem aop_pure {c : Cfg} {f : FuncId} {fr : List AV} {o : Oper} (hk : kindPure o = true) {r : Req} (h : aop c f fr o = some r) : ∃ v, r = .done v := by
  unfold kindPure at hk
  cases ho : o.op with
  | fieldAddr t x i =>
    simp only [aop, ho] at h
    split at h
    · simp only [Option.map_eq_some_iff] at h; obtain ⟨k, _, rfl⟩ := h; exact ⟨_, rfl⟩
    · simp only [Option.map_eq_some_iff] at h; obtain ⟨k, _, rfl⟩ := h; exact ⟨_, rfl⟩
    · simp only [Option.map_eq_some_iff] at h; obtain ⟨k, _, rfl⟩ := h; exact ⟨_, rfl⟩
    · exact plain_done h
  | nilCheck x =>
    simp only [aop, ho] at h
    split at h
    · cases h; exact ⟨_, rfl⟩
    · cases h; exact ⟨_, rfl⟩
    · cases h; exact ⟨_, rfl⟩
    · exact plain_done h
  | indexAddr t x i =>
    simp only [aop, ho] at h
    split at h
    · simp only [Option.bind_eq_some_iff] at h
      obtain ⟨_, _, _, _, h⟩ := h
      split at h
      · cases h; exact ⟨_, rfl⟩
      · cases h
    · simp only [Option.bind_eq_some_iff] at h
      obtain ⟨_, _, _, _, h⟩ := h
      split at h
      · cases h; exact ⟨_, rfl⟩
      · cases h
    · simp only [Option.bind_eq_some_iff] at h
      obtain ⟨_, _, _, _, h⟩ := h
      split at h
      · cases h; exact ⟨_, rfl⟩
      · cases h
    · exact plain_done h
  | slice t x l u m =>
    simp only [aop, ho] at h
    split at h
    · split at h
      · simp only [Option.bind_eq_some_iff] at h
        obtain ⟨_, _, _, _, h⟩ := h
        split at h
        · cases h; exact ⟨_, rfl⟩
        · cases h
      · cases h
    · split at h
      · simp only [Option.bind_eq_some_iff] at h
        obtain ⟨_, _, _, _, h⟩ := h
        split at h
        · cases h; exact ⟨_, rfl⟩
        · cases h
      · cases h
    · exact plain_done h
  | build t parts =>
    simp only [aop, ho] at h
    split at h
    · split at h
      · simp only [Option.bind_eq_some_iff, Option.map_eq_some_iff] at h
        obtain ⟨_, _, _, _, rfl⟩ := h
        exact ⟨_, rfl⟩
      · cases h
    · exact plain_done h
  | extract x i =>
    simp only [aop, ho] at h
    split at h
    · simp only [Option.map_eq_some_iff] at h; obtain ⟨k, _, rfl⟩ := h; exact ⟨_, rfl⟩
    · exact plain_done h
  | makeInterface t x =>
    simp only [aop, ho] at h
    split at h
    · cases h
    · cases h; exact ⟨_, rfl⟩
    · cases h
  | pick x p q =>
    simp only [aop, ho] at h
    split at h
    · cases h; exact ⟨_, rfl⟩
    · cases h
  | call k =>
    rw [ho] at hk
    simp only [aop, ho] at h
    simp only at hk
    split at h
    · rename_i hk2
      split at h
      · split at h
        · cases h; exact ⟨_, rfl⟩
        · cases h
      · split at h
        · cases h; exact ⟨_, rfl⟩
        · cases h
      · exact plain_done h
    · rename_i hk2
      rw [hk2] at hk; cases hk
    · exact plain_done h
    · rename_i hk2
      rw [hk2] at hk; cases hk
    · cases h
  | move x => simp only [aop, ho] at h; cases h; exact ⟨_, rfl⟩
  | assign x => simp only [aop, ho] at h; cases h; exact ⟨_, rfl⟩
  | makeFunc x y z => simp only [aop, ho] at h; cases h; exact ⟨_, rfl⟩
  | binOp => exact plain_done (by simpa only [aop, ho] using h)
  | unOp => exact plain_done (by simpa only [aop, ho] using h)
  | field => exact plain_done (by simpa only [aop, ho] using h)
  | index => exact plain_done (by simpa only [aop, ho] using h)
  | typeAssert => exact plain_done (by simpa only [aop, ho] using h)
  | _ => rw [ho] at hk; cases hk
theorem astep_pure {c : Cfg} {call : CallF} {f : FuncId} {ops : Array Oper} {o : Oper} (hk : kindPure o = true) {s s' : S} {p : Option AV} {d : Dom} (e : astep c call f ops o s = some (p, s', d)) : d = .pure ∧ p = none := by
  unfold astep at e
  split at e
  · unfold aone at e
    split at e
    · cases e
    · cases e; exact ⟨rfl, rfl⟩
    · rename_i v hr
      obtain ⟨_, h⟩ := aop_pure hk hr
      cases h
    · rename_i r hr
      obtain ⟨_, h⟩ := aop_pure hk hr
      cases h
    · rename_i r hr
      obtain ⟨_, h⟩ := aop_pure hk hr
      cases h
  · cases e; exact ⟨rfl, rfl⟩

/-- the fixed check of a region that draws: what no edge orders stands apart, and is told or never meets memory; behind what may panic stands only what waits on it -/
def regionChk (ops : Array Oper) (l : List (Nat × Nat)) (ps : List Nat) : Bool :=
  (List.range ops.size).all (fun j =>
    match ops[j]? with
    | none => false
    | some oj =>
      oj.after.all (fun e => !Region.binds .any e || decide (e.on < j)) &&
      (List.range j).all fun i =>
        match ops[i]? with
        | none => false
        | some oi => ((Region.before ops).getD j 0).testBit i || (oi.apart ops oj && (kindPure oi || kindPure oj || l.contains (i, j)))) &&
  ps.all fun p => (List.range ops.size).all fun j => decide (j ≤ p) || ((Region.before ops).getD j 0).testBit p

theorem mask_bit (acc : Array Nat) (j : Nat) : ∀ (l : List Edge) (m : Nat), (l.foldl (fun s e => if Region.binds .any e then s ||| 2 ^ e.on ||| acc.getD e.on 0 else s) m).testBit j = true →
    m.testBit j = true ∨ ∃ e ∈ l, Region.binds .any e = true ∧ (j = e.on ∨ (acc.getD e.on 0).testBit j = true)
  | [], m, h => .inl h
  | e :: l, m, h => by
    rw [List.foldl_cons] at h
    rcases mask_bit acc j l _ h with h | ⟨e', h1, h2⟩
    · split at h
      · rename_i hb
        rw [Nat.testBit_or, Nat.testBit_or, Bool.or_eq_true, Bool.or_eq_true] at h
        rcases h with (h | h) | h
        · exact .inl h
        · rw [Nat.testBit_two_pow] at h
          exact .inr ⟨e, by simp, hb, .inl (by have := of_decide_eq_true h; omega)⟩
        · exact .inr ⟨e, by simp, hb, .inr h⟩
      · exact .inl h
    · exact .inr ⟨e', by simp [h1], h2⟩
theorem before_closed {ops : Array Oper} {L : Nat → Prop} (hL : ∀ i o, L i → ops[i]? = some o → ∀ e ∈ o.after, Region.binds .any e = true → L e.on) :
    ∀ i o, ops[i]? = some o → (∀ e ∈ o.after, Region.binds .any e = true → L e.on) → ∀ j, ((Region.before ops).getD i 0).testBit j = true → L j := by
  have key : ∀ (l : List Oper) (k : Nat) (acc : Array Nat), (∀ j, l[j]? = ops[k + j]?) → acc.size = k →
      (∀ i o, i < k → ops[i]? = some o → (∀ e ∈ o.after, Region.binds .any e = true → L e.on) → ∀ j, (acc.getD i 0).testBit j = true → L j) →
      ∀ i o, i < k + l.length → ops[i]? = some o → (∀ e ∈ o.after, Region.binds .any e = true → L e.on) → ∀ j,
        ((l.foldl (fun acc o => acc.push (o.after.foldl (fun s e => if Region.binds .any e then s ||| 2 ^ e.on ||| acc.getD e.on 0 else s) 0)) acc).getD i 0).testBit j = true → L j := by
    intro l
    induction l with
    | nil => intro k acc _ hs h i o hi; exact h i o (by simpa using hi)
    | cons x l ih =>
      intro k acc hl hs h i o hi
      rw [List.foldl_cons]
      have hx : ops[k]? = some x := by simpa using (hl 0).symm
      refine ih (k + 1) _ (fun j => by have := hl (j + 1); simpa [Nat.add_assoc, Nat.add_comm 1 j] using this) (by simp [hs]) ?_ i o (by simpa [Nat.add_assoc, Nat.add_comm 1] using hi)
      intro i' o' hi' ho' he' j hj
      by_cases hik : i' = k
      · subst hik
        rw [hx] at ho'; cases ho'
        have e1 : ∀ m : Nat, (acc.push m).getD i' 0 = m := by intro m; rw [← hs]; simp [Array.getD]
        rw [e1, ← Array.foldl_toList] at hj
        rcases mask_bit acc j _ 0 hj with h0 | ⟨e, h1, h2, h3⟩
        · simp at h0
        · have hLe := he' e (by simpa using h1) h2
          rcases h3 with rfl | h3
          · exact hLe
          · by_cases hek : e.on < i'
            · have hlt : e.on < ops.size := by
                have := (Array.getElem?_eq_some_iff.1 hx).1; omega
              exact h e.on ops[e.on] hek (Array.getElem?_eq_getElem hlt) (hL e.on _ hLe (Array.getElem?_eq_getElem hlt)) j h3
            · have : acc.getD e.on 0 = 0 := by simp [Array.getD]; omega
              rw [this] at h3; simp at h3
      · have e1 : ∀ m : Nat, (acc.push m).getD i' 0 = acc.getD i' 0 := by
          intro m
          have : i' < acc.size := by omega
          simp [Array.getD, this, Array.getElem_push]
          omega
        rw [e1] at hj
        exact h i' o' (by omega) ho' he' j hj
  intro i o hi he j hj
  refine key ops.toList 0 #[] (by intro j; simp) rfl (by intro i o hi; omega) i o ?_ hi he j ?_
  · have := (Array.getElem?_eq_some_iff.1 hi).1; simpa using this
  · unfold Region.before at hj
    rw [← Array.foldl_toList] at hj
    exact hj
end Go.Proofs.Ytmglahnoemgieaa.Ax
namespace Go.Proofs.Ytmglahnoemgieaa.Ax
open Go Go.RowKit
set_option linter.unusedSimpArgs false
set_option linter.unusedVariables false

/-- the places that are not listed yet, below a bound -/
def unl (listed : Array Bool) (n : Nat) : List Nat := (List.range n).filter fun i => !listed.getD i true

theorem unl_mem {listed : Array Bool} {n i : Nat} : i ∈ unl listed n ↔ i < n ∧ listed.getD i true = false := by simp [unl]
theorem unl_nodup (listed : Array Bool) (n : Nat) : (unl listed n).Nodup := List.nodup_range.filter _
theorem getD_set (listed : Array Bool) (i j : Nat) (h : i < listed.size) : (listed.setIfInBounds i true).getD j true = (if i = j then true else listed.getD j true) := by
  simp only [Array.getD_eq_getD_getElem?, Array.getElem?_setIfInBounds]
  by_cases e : i = j
  · subst e; simp [h]
  · simp [e]
theorem unl_set {listed : Array Bool} {n i : Nat} (h : i < listed.size) {pre post : List Nat} (he : unl listed n = pre ++ i :: post) : unl (listed.setIfInBounds i true) n = pre ++ post := by
  have hnd := unl_nodup listed n
  rw [he] at hnd
  have h1 : unl (listed.setIfInBounds i true) n = (unl listed n).filter (fun j => j != i) := by
    unfold unl
    rw [List.filter_filter]
    congr 1
    funext j
    rw [getD_set listed i j h]
    by_cases e : i = j
    · subst e; simp
    · have : (j != i) = true := by simp; exact fun e' => e e'.symm
      simp [e, this]
  rw [h1, he, List.filter_append, List.filter_cons]
  have h2 : i ∉ pre ++ post := by
    have k := List.nodup_append.1 hnd
    intro hmem
    rcases List.mem_append.1 hmem with hm | hm
    · exact k.2.2 i hm i (by simp) rfl
    · exact (List.nodup_cons.1 k.2.1).1 hm
  have h3 : pre.filter (fun j => j != i) = pre := List.filter_eq_self.2 fun j hj => by simp; rintro rfl; exact h2 (by simp [hj])
  have h4 : post.filter (fun j => j != i) = post := List.filter_eq_self.2 fun j hj => by simp; rintro rfl; exact h2 (by simp [hj])
  rw [h3, h4]
  simp
theorem unl_sorted (listed : Array Bool) (n : Nat) : (unl listed n).Pairwise (· < ·) := List.pairwise_lt_range.filter _

section
variable {c : Cfg} {call : CallF} {f : FuncId} {ops : Array Oper} {l : List (Nat × Nat)} {ps : List Nat}

theorem chk_edge (chk : regionChk ops l ps = true) {j : Nat} {o : Oper} (hj : ops[j]? = some o) : ∀ e ∈ o.after, Region.binds .any e = true → e.on < j := by
  intro e he hb
  unfold regionChk at chk
  rw [Bool.and_eq_true] at chk
  have h1 := List.all_eq_true.1 chk.1 j (List.mem_range.2 (Array.getElem?_eq_some_iff.1 hj).1)
  rw [hj] at h1
  simp only [Bool.and_eq_true] at h1
  have h2 := Array.all_eq_true_iff_forall_mem.1 h1.1 e he
  simp [hb] at h2
  exact h2
theorem chk_pair (chk : regionChk ops l ps = true) {i j : Nat} (hij : i < j) {oi oj : Oper} (hi : ops[i]? = some oi) (hj : ops[j]? = some oj) (hn : ((Region.before ops).getD j 0).testBit i = false) :
    oi.apart ops oj = true ∧ (kindPure oi = true ∨ kindPure oj = true ∨ (i, j) ∈ l) := by
  unfold regionChk at chk
  rw [Bool.and_eq_true] at chk
  have h1 := List.all_eq_true.1 chk.1 j (List.mem_range.2 (Array.getElem?_eq_some_iff.1 hj).1)
  rw [hj] at h1
  simp only [Bool.and_eq_true] at h1
  have h2 := List.all_eq_true.1 h1.2 i (List.mem_range.2 hij)
  rw [hi] at h2
  simp only [hn, Bool.false_or, Bool.and_eq_true, Bool.or_eq_true] at h2
  refine ⟨h2.1, ?_⟩
  rcases h2.2 with (h | h) | h
  · exact .inl h
  · exact .inr (.inl h)
  · exact .inr (.inr (by simpa using h))
theorem chk_pan (chk : regionChk ops l ps = true) {p j : Nat} (hp : p ∈ ps) (hj : j < ops.size) (hpj : p < j) : ((Region.before ops).getD j 0).testBit p = true := by
  unfold regionChk at chk
  rw [Bool.and_eq_true] at chk
  have h1 := List.all_eq_true.1 (List.all_eq_true.1 chk.2 p hp) j (List.mem_range.2 hj)
  simp only [Bool.or_eq_true, decide_eq_true_eq] at h1
  rcases h1 with h | h
  · omega
  · exact h

def Closed (ops : Array Oper) (listed : Array Bool) : Prop := ∀ i o, listed.getD i true = true → ops[i]? = some o → ∀ e ∈ o.after, Region.binds .any e = true → listed.getD e.on true = true

theorem getD_false {listed : Array Bool} {i : Nat} : (listed.getD i false = true) → listed.getD i true = true := by
  simp only [Array.getD_eq_getD_getElem?]
  cases listed[i]? <;> simp
theorem ready_iff {listed : Array Bool} (hs : listed.size = ops.size) {i : Nat} : i ∈ Region.ready .any ops listed ↔ i < ops.size ∧ listed.getD i true = false ∧ ∃ o, ops[i]? = some o ∧ ∀ e ∈ o.after, Region.binds .any e = true → listed.getD e.on false = true := by
  unfold Region.ready
  simp only [List.mem_filter, List.mem_range, Bool.and_eq_true, Bool.not_eq_true']
  constructor
  · rintro ⟨h1, h2, h3⟩
    refine ⟨h1, h2, ops[i], Array.getElem?_eq_getElem h1, ?_⟩
    rw [Array.getElem?_eq_getElem h1] at h3
    simp only [Option.map_some, Option.getD_some] at h3
    intro e he hb
    have := Array.all_eq_true_iff_forall_mem.1 h3 e he
    simpa [hb] using this
  · rintro ⟨h1, h2, o, h3, h4⟩
    refine ⟨h1, h2, ?_⟩
    rw [h3]
    simp only [Option.map_some, Option.getD_some]
    refine Array.all_eq_true_iff_forall_mem.2 fun e he => ?_
    cases hb : Region.binds .any e with
    | false => rfl
    | true => simpa using h4 e he hb

theorem closed_set {listed : Array Bool} (hs : listed.size = ops.size) (hc : Closed ops listed) {i : Nat} (hi : i ∈ Region.ready .any ops listed) : Closed ops (listed.setIfInBounds i true) := by
  obtain ⟨h1, h2, o, h3, h4⟩ := (ready_iff hs).1 hi
  intro j oj hj hoj e he hb
  rw [getD_set listed _ _ (by omega)] at hj ⊢
  split
  · rfl
  · split at hj
    · rename_i e1
      subst e1
      rw [h3] at hoj; cases hoj
      exact getD_false (h4 e he hb)
    · exact hc j oj hj hoj e he hb
theorem ready_anc {listed : Array Bool} (hs : listed.size = ops.size) (hc : Closed ops listed) {i : Nat} (hi : i ∈ Region.ready .any ops listed) {j : Nat} (hj : ((Region.before ops).getD i 0).testBit j = true) : listed.getD j true = true := by
  obtain ⟨h1, h2, o, h3, h4⟩ := (ready_iff hs).1 hi
  exact before_closed (L := fun i => listed.getD i true = true) hc i o h3 (fun e he hb => getD_false (h4 e he hb)) j hj
/-- what is least among those that wait is ready -/
theorem least_ready (chk : regionChk ops l ps = true) {listed : Array Bool} (hs : listed.size = ops.size) {i : Nat} {rest : List Nat} (h : unl listed ops.size = i :: rest) : i ∈ Region.ready .any ops listed := by
  have hm : i ∈ unl listed ops.size := by rw [h]; simp
  obtain ⟨h1, h2⟩ := unl_mem.1 hm
  refine (ready_iff hs).2 ⟨h1, h2, ops[i], Array.getElem?_eq_getElem h1, ?_⟩
  intro e he hb
  have hlt := chk_edge chk (Array.getElem?_eq_getElem h1) e he hb
  have hsort := unl_sorted listed ops.size
  rw [h] at hsort
  have hno : ¬ listed.getD e.on true = false := by
    intro hf
    have hmem : e.on ∈ unl listed ops.size := unl_mem.2 ⟨by omega, hf⟩
    rw [h] at hmem
    cases hmem with
    | head => omega
    | tail _ hm => have := (List.pairwise_cons.1 hsort).1 _ hm; omega
  have hlt2 : e.on < listed.size := by omega
  simp only [Array.getD_eq_getD_getElem?, Array.getElem?_eq_getElem hlt2, Option.getD_some] at hno ⊢
  simpa using hno

theorem RunL.dom {dom : Nat → Dom} : ∀ {L : List Nat} {s s' : S}, RunL c call f ops dom L s s' → ∀ i ∈ L, ∃ o s1 s2, ops[i]? = some o ∧ astep c call f ops o s1 = some (none, s2, dom i)
  | [], _, _, _, i, hi => by cases hi
  | j :: L, s, s', h, i, hi => by
    obtain ⟨o, s1, h1, h2, h3⟩ := h
    cases hi with
    | head => exact ⟨o, s, s1, h1, h2⟩
    | tail _ hi => exact RunL.dom h3 i hi

/-- does what waits ahead of a ready one stand apart from it? -/
theorem compat_ready (chk : regionChk ops l ps = true) {dom : Nat → Dom} (hpairs : ∀ i j, (i, j) ∈ l → Dom.meets (dom i) (dom j) = false) {listed : Array Bool} (hs : listed.size = ops.size) (hc : Closed ops listed) {i : Nat} (hi : i ∈ Region.ready .any ops listed)
    {q : Nat} (hq : listed.getD q true = false) (hqi : q < i) (hdq : ∀ o, ops[q]? = some o → kindPure o = true → dom q = .pure) (hdi : ∀ o, ops[i]? = some o → kindPure o = true → dom i = .pure) : CompatAt ops dom q i := by
  intro o p ho hp
  have hn : ((Region.before ops).getD i 0).testBit q = false := by
    cases hb : ((Region.before ops).getD i 0).testBit q with
    | false => rfl
    | true => have := ready_anc hs hc hi hb; rw [hq] at this; cases this
  obtain ⟨h1, h2⟩ := chk_pair chk hqi ho hp hn
  refine ⟨h1, ?_⟩
  rcases h2 with h2 | h2 | h2
  · rw [hdq o ho h2]; rfl
  · rw [hdi p hp h2, meets_comm]; rfl
  · exact hpairs q i h2

variable {A : Mu} {we : World}

theorem draw_run (hcall : CallSound c call) (chk : regionChk ops l ps = true) {dom : Nat → Dom} (hpairs : ∀ i j, (i, j) ∈ l → Dom.meets (dom i) (dom j) = false) {s' : S} : ∀ (fuel : Nat) (listed : Array Bool) (s : S) (M : Mu) (a : Act) (w : World),
    listed.size = ops.size → Closed ops listed → (unl listed ops.size).length = fuel → RunL c call f ops dom (unl listed ops.size) s s' → SRel c A we M s a w →
    wpAny c.P .any ops (RegQ c A we none s') fuel listed a w
  | 0, listed, s, M, a, w, hs, hc, hf, hr, h => by
    have hnil : unl listed ops.size = [] := List.length_eq_zero_iff.1 hf
    rw [hnil] at hr
    simp only [RunL] at hr
    subst hr
    refine ⟨?_, rfl, M, h⟩
    rcases hrd : Region.ready .any ops listed with _ | ⟨i, r⟩
    · rfl
    · have hi : i ∈ Region.ready .any ops listed := by rw [hrd]; simp
      obtain ⟨h1, h2, _⟩ := (ready_iff hs).1 hi
      have : i ∈ unl listed ops.size := unl_mem.2 ⟨h1, h2⟩
      rw [hnil] at this; cases this
  | fuel + 1, listed, s, M, a, w, hs, hc, hf, hr, h => by
    refine ⟨?_, ?_⟩
    · intro hrd
      rcases hu : unl listed ops.size with _ | ⟨i, r⟩
      · rw [hu] at hf; cases hf
      · have := least_ready chk hs hu
        rw [hrd] at this; cases this
    · intro i hi
      obtain ⟨h1, h2, o, h3, h4⟩ := (ready_iff hs).1 hi
      have hm : i ∈ unl listed ops.size := unl_mem.2 ⟨h1, h2⟩
      obtain ⟨pre, post, hpp⟩ := List.append_of_mem hm
      have hdom := hr.dom
      have hpure : ∀ j ∈ unl listed ops.size, ∀ o, ops[j]? = some o → kindPure o = true → dom j = .pure := by
        intro j hj o ho hk
        obtain ⟨o', s1, s2, k1, k2⟩ := hdom j hj
        rw [ho] at k1; cases k1
        exact (astep_pure hk k2).1
      have hsort := unl_sorted listed ops.size
      rw [hpp] at hr hsort
      have hlt : ∀ q ∈ pre, q < i := fun q hq => (List.pairwise_append.1 hsort).2.2 q hq i (by simp)
      obtain ⟨o', t, k1, k2, k3⟩ := RunL.front pre s s' hr (fun q hq => by
        have hqm : q ∈ unl listed ops.size := by rw [hpp]; simp [hq]
        exact compat_ready chk hpairs hs hc hi (unl_mem.1 hqm).2 (hlt q hq) (hpure q hqm) (hpure i hm))
      rw [h3] at k1; cases k1
      refine astep_wpOp hcall h3 h k2 (fun _ M' a' w' h' => ?_) (fun v ch w' hv _ => by cases hv)
      have hset := unl_set (listed := listed) (i := i) (by omega) hpp
      refine draw_run hcall chk hpairs fuel (listed.setIfInBounds i true) t M' a' w' (by simpa using hs) (closed_set hs hc hi) ?_ (by rw [hset]; exact k3) h'
      rw [hset]
      rw [hpp] at hf
      simp at hf ⊢
      omega

theorem draw_pan (hcall : CallSound c call) (chk : regionChk ops l ps = true) {dom : Nat → Dom} (hpairs : ∀ i j, (i, j) ∈ l → Dom.meets (dom i) (dom j) = false) {p : Nat} (hp : p ∈ ps) {op : Oper} (hop : ops[p]? = some op) {v : AV} {s2 : S} : ∀ (fuel : Nat) (listed : Array Bool) (s s1 : S) (M : Mu) (a : Act) (w : World),
    listed.size = ops.size → Closed ops listed → (unl listed ops.size).length = fuel → listed.getD p true = false → RunL c call f ops dom (unl listed p) s s1 → astep c call f ops op s1 = some (some v, s2, dom p) → SRel c A we M s a w →
    wpAny c.P .any ops (RegQ c A we (some v) s2) fuel listed a w
  | 0, listed, s, s1, M, a, w, hs, hc, hf, hpl, hr, he, h => by
    have hnil : unl listed ops.size = [] := List.length_eq_zero_iff.1 hf
    have : p ∈ unl listed ops.size := unl_mem.2 ⟨(Array.getElem?_eq_some_iff.1 hop).1, hpl⟩
    rw [hnil] at this; cases this
  | fuel + 1, listed, s, s1, M, a, w, hs, hc, hf, hpl, hr, he, h => by
    refine ⟨?_, ?_⟩
    · intro hrd
      rcases hu : unl listed ops.size with _ | ⟨i, r⟩
      · rw [hu] at hf; cases hf
      · have := least_ready chk hs hu
        rw [hrd] at this; cases this
    · intro i hi
      obtain ⟨h1, h2, o, h3, h4⟩ := (ready_iff hs).1 hi
      have hdom := hr.dom
      have hpure : ∀ j ∈ unl listed p, ∀ o, ops[j]? = some o → kindPure o = true → dom j = .pure := by
        intro j hj o ho hk
        obtain ⟨o', s1, s2, k1, k2⟩ := hdom j hj
        rw [ho] at k1; cases k1
        exact (astep_pure hk k2).1
      rcases Nat.lt_trichotomy i p with hip | hip | hip
      · have hm : i ∈ unl listed p := unl_mem.2 ⟨hip, h2⟩
        obtain ⟨pre, post, hpp⟩ := List.append_of_mem hm
        have hsort := unl_sorted listed p
        rw [hpp] at hr hsort
        have hlt : ∀ q ∈ pre, q < i := fun q hq => (List.pairwise_append.1 hsort).2.2 q hq i (by simp)
        obtain ⟨o', t, k1, k2, k3⟩ := RunL.front pre s s1 hr (fun q hq => by
          have hqm : q ∈ unl listed p := by rw [hpp]; simp [hq]
          exact compat_ready chk hpairs hs hc hi (unl_mem.1 hqm).2 (hlt q hq) (hpure q hqm) (hpure i hm))
        rw [h3] at k1; cases k1
        refine astep_wpOp hcall h3 h k2 (fun _ M' a' w' h' => ?_) (fun v ch w' hv _ => by cases hv)
        have hset := unl_set (listed := listed) (i := i) (by omega) hpp
        have hm2 : i ∈ unl listed ops.size := unl_mem.2 ⟨h1, h2⟩
        obtain ⟨pre2, post2, hpp2⟩ := List.append_of_mem hm2
        have hset2 := unl_set (listed := listed) (i := i) (by omega) hpp2
        refine draw_pan hcall chk hpairs hp hop fuel (listed.setIfInBounds i true) t s1 M' a' w' (by simpa using hs) (closed_set hs hc hi) ?_ ?_ (by rw [hset]; exact k3) he h'
        · rw [hset2]
          rw [hpp2] at hf
          simp at hf ⊢
          omega
        · rw [getD_set listed _ _ (by omega), if_neg (by omega)]; exact hpl
      · subst hip
        rw [hop] at h3; cases h3
        have hkp : ∀ o', ops[i]? = some o' → kindPure o' = true → dom i = .pure := by
          intro o' ho' hk
          rw [hop] at ho'; cases ho'
          exact (astep_pure hk he).1
        obtain ⟨t, k1, k2⟩ := RunL.pan hop (unl listed i) s s1 hr (fun q hq => compat_ready chk hpairs hs hc hi (unl_mem.1 hq).2 (unl_mem.1 hq).1 (hpure q hq) hkp) rfl he
        refine astep_wpOp hcall hop h k1 (fun hv => by cases hv) (fun v' ch w' hv hpan => ?_)
        rw [k2] at hpan
        exact ⟨h.df, v', hv, hpan⟩
      · exfalso
        have := ready_anc hs hc hi (chk_pan chk hp h1 hip)
        rw [hpl] at this; cases this

theorem unl_all (n : Nat) (k : Nat) (hk : k ≤ n) : unl (Array.replicate n false) k = List.range k := by
  unfold unl
  refine List.filter_eq_self.2 fun i hi => ?_
  have : i < n := by have := List.mem_range.1 hi; omega
  simp [Array.getD_eq_getD_getElem?, this]

/-- a region that draws its order goes on as in the text's order -/
theorem region_draw (hmix : c.P.follows .mixedOrders = true) (hcall : CallSound c call) (chk : regionChk ops l ps = true) {s s' : S} {p : Option AV} {ds : List Dom} (e : aops c call f ops ops.toList s = some (p, s', ds)) (hp : pairsOk ds l = true)
    (hps : p.isSome = true → ps.contains (ds.length - 1) = true) {M : Mu} {a : Act} {w : World} (h : SRel c A we M s a w) {id : Nat} : (Code.region id ops true).wp c.P (RegQ c A we p s') a w := by
  refine wp_region_any hmix ?_
  have hd : SRel c A we M s a { w with drawn := w.drawn + 1 } := h.drew
  have hpairs : ∀ i j, (i, j) ∈ l → Dom.meets (ds.getD i .pure) (ds.getD j .pure) = false := by
    intro i j hij
    have := List.all_eq_true.1 hp (i, j) hij
    simpa using this
  have hrun := aops_runL (c := c) (call := call) (f := f) (ops := ops) ops.toList 0 (by intro j; simp) (fun i => ds.getD i .pure) s s' p ds (by intro j _; simp) e
  have hcl : Closed ops (Array.replicate ops.size false) := by
    intro i o hi ho
    have hlt := (Array.getElem?_eq_some_iff.1 ho).1
    simp [Array.getD_eq_getD_getElem?, hlt] at hi
  have hsz : (Array.replicate ops.size false).size = ops.size := by simp
  have hall := unl_all ops.size ops.size (Nat.le_refl _)
  cases p with
  | none =>
    simp only at hrun
    refine draw_run (f := f) hcall chk hpairs ops.size _ s M a _ hsz hcl (by rw [hall]; simp) ?_ hd
    rw [hall, List.range_eq_range']
    simpa using hrun
  | some v =>
    simp only [Nat.zero_add] at hrun
    obtain ⟨m, o, s1, h1, h2, h3, h4⟩ := hrun
    have hm : m ∈ ps := by
      have := hps rfl
      rw [h1] at this
      simpa using this
    have hlt := (Array.getElem?_eq_some_iff.1 h3).1
    refine draw_pan (f := f) hcall chk hpairs hm h3 ops.size _ s s1 M a _ hsz hcl (by rw [hall]; simp) ?_ ?_ h4 hd
    · simp [Array.getD_eq_getD_getElem?, hlt]
    · rw [unl_all ops.size m (by omega), List.range_eq_range']
      exact h2
end
end Go.Proofs.Ytmglahnoemgieaa.Ax
namespace Go.Proofs.Ytmglahnoemgieaa.Ax
open Go Go.RowKit
set_option linter.unusedSimpArgs false
set_option linter.unusedVariables false

/-! ### the lowest write -/
theorem LwP.refl (h : H) (lw : Option Nat) : LwP h h lw := ⟨Nat.le_refl _, fun _ _ _ => rfl⟩
theorem lwOver_min {a b : Option Nat} {n : Nat} : lwOver (lwMin a b) n = (lwOver a n && lwOver b n) := by
  cases a <;> cases b <;> simp [lwMin, lwOver]
  rw [Bool.eq_iff_iff]; simp; omega
theorem LwP.trans {a b d : H} {x y : Option Nat} (h : LwP a b x) (k : LwP b d y) : LwP a d (lwMin x y) := by
  refine ⟨Nat.le_trans h.1 k.1, fun n hn ho => ?_⟩
  rw [lwOver_min, Bool.and_eq_true] at ho
  rw [k.2 n (Nat.le_trans hn h.1) ho.2, h.2 n hn ho.1]

def CallLw (call : CallF) : Prop := ∀ f args h out h' lw, call f args h = some (out, h', lw) → LwP h h' lw ∧ noBx (outV out) = true

theorem lw_set {h : H} {b : Nat} {k : Blk} : LwP h (h.set b k) (some b) := by
  refine ⟨by simp, fun n hn ho => ?_⟩
  simp only [lwOver, decide_eq_true_eq] at ho
  rw [List.take_set_of_le ho]
theorem lw_push {h : H} {k : Blk} : LwP h (h ++ [k]) none := by
  refine ⟨by simp, fun n hn _ => ?_⟩
  rw [List.take_append_of_le_length hn]

def HRes.lwp (h : H) : HRes → Prop
  | .val _ h' lw => LwP h h' lw
  | .pan _ h' lw => LwP h h' lw

theorem lw_doHeap {c : Cfg} {call : CallF} (hc : CallLw call) {h : H} {r : HReq} {res : HRes} (e : doHeap c call h r = some res) : res.lwp h := by
  cases r with
  | new cells es len => simp only [doHeap] at e; cases e; exact lw_push
  | load b g off n agg =>
    simp only [doHeap] at e
    split at e
    · split at e
      · simp only [Option.map_eq_some_iff] at e
        obtain ⟨v, _, rfl⟩ := e
        exact LwP.refl _ _
      · cases e
    · cases e
  | store b g off cells =>
    simp only [doHeap] at e
    split at e
    · split at e
      · simp only [Option.map_eq_some_iff] at e
        obtain ⟨v, _, rfl⟩ := e
        exact lw_set
      · cases e
    · cases e
  | str b g off len =>
    simp only [doHeap] at e
    split at e
    · split at e
      · simp only [Option.map_eq_some_iff] at e
        obtain ⟨v, _, rfl⟩ := e
        exact LwP.refl _ _
      · cases e
    · cases e
  | app t dst src =>
    simp only [doHeap] at e
    split at e
    · cases e
    · split at e
      · cases e
      · split at e
        · cases e
        · split at e
          · split at e
            · cases e; exact LwP.refl _ _
            · split at e
              · cases e; exact lw_push
              · cases e
          · split at e
            · cases e
            · split at e
              · split at e
                · cases e; exact LwP.refl _ _
                · split at e
                  · cases e; exact lw_set
                  · split at e
                    · cases e; exact lw_set
                    · cases e
              · cases e
          · cases e
  | call f args =>
    simp only [doHeap] at e
    split at e
    · rename_i v h' lw hh; cases e; exact (hc _ _ _ _ _ _ hh).1
    · rename_i v h' lw hh; cases e; exact (hc _ _ _ _ _ _ hh).1
    · cases e

theorem lw_astep {c : Cfg} {call : CallF} (hc : CallLw call) {f : FuncId} {ops : Array Oper} {o : Oper} {s s' : S} {p : Option AV} {d : Dom} (e : astep c call f ops o s = some (p, s', d)) {h0 : H} (h : LwP h0 s.h s.lw) : LwP h0 s'.h s'.lw := by
  unfold astep at e
  split at e
  · unfold aone at e
    split at e
    · cases e
    · cases e; exact h
    · cases e; exact h
    · split at e
      · cases e; exact h
      · cases e
    · split at e
      · rename_i hh; cases e; exact h.trans (lw_doHeap hc hh)
      · rename_i hh; cases e; exact h.trans (lw_doHeap hc hh)
      · cases e
  · cases e; exact h
theorem lw_aops {c : Cfg} {call : CallF} (hc : CallLw call) {f : FuncId} {ops : Array Oper} : ∀ {l : List Oper} {s s' : S} {p : Option AV} {ds : List Dom}, aops c call f ops l s = some (p, s', ds) → ∀ {h0 : H}, LwP h0 s.h s.lw → LwP h0 s'.h s'.lw
  | [], s, s', p, ds, e, h0, h => by simp only [aops] at e; cases e; exact h
  | o :: l, s, s', p, ds, e, h0, h => by
    simp only [aops] at e
    split at e
    · rename_i s1 d hs
      split at e
      · rename_i p2 s2 ds2 hr
        cases e
        exact lw_aops hc hr (lw_astep hc hs h)
      · cases e
    · rename_i hs; cases e; exact lw_astep hc hs h
    · cases e
theorem aregion_run {c : Cfg} {call : CallF} {f : FuncId} {id : Nat} {ops : Array Oper} {draw : Bool} {s s' : S} {x : Ex} (e : aregion c call f id ops draw s = some (x, s')) : ∃ p ds, aops c call f ops ops.toList s = some (p, s', ds) ∧
    x = (match p with | none => Ex.normal | some v => Ex.pan v) ∧ (draw = true → ∃ l ps, c.un f id = some (l, ps) ∧ pairsOk ds l = true ∧ (p.isSome = true → ps.contains (ds.length - 1) = true)) := by
  unfold aregion at e
  split at e
  · cases e
  · rename_i s1 ds hh
    cases draw with
    | false => simp at e; obtain ⟨rfl, rfl⟩ := e; exact ⟨none, ds, hh, rfl, fun h => by cases h⟩
    | true =>
      simp only [if_true] at e
      split at e
      · rename_i l ps hu
        split at e
        · rename_i hp; cases e; exact ⟨none, ds, hh, rfl, fun _ => ⟨l, ps, hu, hp, fun h => by cases h⟩⟩
        · cases e
      · cases e
  · rename_i v s1 ds hh
    cases draw with
    | false => simp at e; obtain ⟨rfl, rfl⟩ := e; exact ⟨some v, ds, hh, rfl, fun h => by cases h⟩
    | true =>
      simp only [if_true] at e
      split at e
      · rename_i l ps hu
        split at e
        · rename_i hp
          rw [Bool.and_eq_true] at hp
          cases e; exact ⟨some v, ds, hh, rfl, fun _ => ⟨l, ps, hu, hp.1, fun _ => hp.2⟩⟩
        · cases e
      · cases e

def RunLw (run : RunF) : Prop := ∀ f code s x s', run f code s = some (x, s') → ∀ h0, LwP h0 s.h s.lw → LwP h0 s'.h s'.lw

theorem lw_code {c : Cfg} {rec : RunF} (hr : RunLw rec) (hc : CallLw (acall c rec)) {f : FuncId} : ∀ (code : Code) (s : S) (x : Ex) (s' : S), acodeS c rec f code s = some (x, s') → ∀ h0, LwP h0 s.h s.lw → LwP h0 s'.h s'.lw := by
  intro code
  induction code with
  | skip => intro s x s' e h0 h; simp only [acodeS] at e; cases e; exact h
  | label l => intro s x s' e h0 h; simp only [acodeS] at e; cases e; exact h
  | region id ops draw =>
    intro s x s' e h0 h
    simp only [acodeS] at e
    obtain ⟨p, ds, h1, _⟩ := aregion_run e
    exact lw_aops hc h1 h
  | seq a b iha ihb =>
    intro s x s' e h0 h
    simp only [acodeS] at e
    split at e
    · rename_i s1 hs; exact ihb _ _ _ e _ (iha _ _ _ hs _ h)
    · exact iha _ _ _ e _ h
  | cond t a b iha ihb =>
    intro s x s' e h0 h
    simp only [acodeS] at e
    split at e
    · exact iha _ _ _ e _ h
    · exact ihb _ _ _ e _ h
    · cases e
  | block id b ih =>
    intro s x s' e h0 h
    simp only [acodeS] at e
    split at e
    · rename_i i s1 hs
      have := ih _ _ _ hs _ h
      split at e <;> · cases e; exact this
    · exact ih _ _ _ e _ h
  | loop b ih =>
    intro s x s' e h0 h
    simp only [acodeS] at e
    split at e
    · rename_i s1 hs; exact hr _ _ _ _ _ e _ (ih _ _ _ hs _ h)
    · exact ih _ _ _ e _ h
  | exit id => intro s x s' e h0 h; simp only [acodeS] at e; cases e; exact h
  | ret => intro s x s' e h0 h; simp only [acodeS] at e; cases e; exact h
  | scope _ _ => intro s x s' e; simp only [acodeS] at e; cases e
  | goto _ => intro s x s' e; simp only [acodeS] at e; cases e
  | rangeFunc _ _ _ _ _ _ => intro s x s' e; simp only [acodeS] at e; cases e
  | refuse _ => intro s x s' e; simp only [acodeS] at e; cases e

theorem lw_leave {h : H} {o : Out} {s : S} {out : Out} {h' : H} {lw : Option Nat} (e : leave h o s = some (out, h', lw)) (k : LwP h s.h s.lw) : LwP h h' lw ∧ noBx (outV out) = true := by
  unfold leave at e
  split at e
  · rename_i hn
    split at e
    · cases e; exact ⟨LwP.refl _ _, hn⟩
    · cases e
      refine ⟨⟨k.1, fun n hle ho => ?_⟩, hn⟩
      split at ho
      · rename_i hl
        refine k.2 n hle ?_
        cases hs : s.lw with
        | none => rfl
        | some l => rw [hs] at hl; simp [lwOver] at hl ⊢; omega
      · exact k.2 n hle ho
  · cases e

theorem lw_acall {c : Cfg} {rec : RunF} (hr : RunLw rec) (hT : ∀ f g, c.T f = some g → ∀ args h out h' lw, g args h = some (out, h', lw) → LwP h h' lw ∧ noBx (outV out) = true) : CallLw (acall c rec) := by
  intro f args h out h' lw e
  unfold acall at e
  split at e
  · rename_i g hg; exact hT f g hg _ _ _ _ _ e
  · split at e
    · cases e
    · split at e
      · cases e
      · rename_i b _
        split at e
        · cases e
        · split at e
          · rename_i s hs
            simp only [Option.bind_eq_some_iff] at e
            obtain ⟨vs, _, e⟩ := e
            exact lw_leave e (hr _ _ _ _ _ hs h (LwP.refl _ _))
          · rename_i s hs
            simp only [Option.bind_eq_some_iff] at e
            obtain ⟨vs, _, e⟩ := e
            exact lw_leave e (hr _ _ _ _ _ hs h (LwP.refl _ _))
          · rename_i v s hs
            exact lw_leave e (hr _ _ _ _ _ hs h (LwP.refl _ _))
          · cases e

/-! ### results -/
variable {c : Cfg} {A M : Mu} {we : World} {s : S} {a : Act} {w : World}

theorem resultA_rel (h : SRel c A we M s a w) {r : ResultVar} {v : AV} (e : resultA c s r = some v) : ∃ x, Rv M v x ∧
    Sem.run c.P (match r with | .tmp t => pure (a.tmps.getD t undef) | .cell b t => do loadVar t (← asAddr (a.tmps.getD b undef))) w = .ok x w := by
  have hget : ∀ t, Rv M (getT s.fr t) (a.tmps.getD t undef) := by
    intro t
    have := Rvs.getT h.fr t
    simpa using this
  cases r with
  | tmp t => simp only [resultA] at e; cases e; exact ⟨_, hget t, rfl⟩
  | cell b t =>
    simp only [resultA, Option.bind_eq_some_iff] at e
    obtain ⟨⟨n, agg⟩, hsh, e⟩ := e
    have hx := hget b
    simp only at e
    split at e
    · rename_i q g off hev
      simp only [Option.map_eq_some_iff] at e
      obtain ⟨⟨v', loc⟩, hd, rfl⟩ := e
      rw [hev] at hx
      obtain ⟨rfl, ad, y, h1, h2, h3⟩ := box_read h hsh hd hx
      refine ⟨y, h3, ?_⟩
      simp only [h1, asAddr, Sem.run_bind, Sem.run_pure, Result.andThen_ok, h2]
    · rename_i q g off hev
      split at e
      · rename_i v' h' lw hd
        cases e
        rw [hev] at hx
        obtain ⟨rfl, rfl, ad, y, h1, h2, h3⟩ := heap_read h hsh hd hx
        refine ⟨y, h3, ?_⟩
        simp only [h1, asAddr, Sem.run_bind, Sem.run_pure, Result.andThen_ok, h2]
      · cases e
    · cases e
theorem resultsA_rel (h : SRel c A we M s a w) : ∀ {l : List ResultVar} {vs : List AV}, resultsA c s l = some vs → ∃ xs, Rvs M vs xs ∧
    Sem.run c.P (l.mapM fun | .tmp t => pure (a.tmps.getD t undef) | .cell b t => do loadVar t (← asAddr (a.tmps.getD b undef))) w = .ok xs w
  | [], vs, e => by simp only [resultsA] at e; cases e; exact ⟨[], rfl, rfl⟩
  | r :: l, vs, e => by
    simp only [resultsA, Option.bind_eq_some_iff, Option.map_eq_some_iff] at e
    obtain ⟨v, h1, us, h2, rfl⟩ := e
    obtain ⟨x, hx, r1⟩ := resultA_rel h h1
    obtain ⟨xs, hxs, r2⟩ := resultsA_rel h h2
    refine ⟨x :: xs, .cons hx hxs, ?_⟩
    rw [List.mapM_cons]
    simp only [Sem.run_bind, Sem.run_pure]
    cases r <;> (simp only at r1; simp only [Sem.run_bind, Sem.run_pure] at r1; simp only [Sem.run_bind, Sem.run_pure, r1, r2, Result.andThen_ok])
theorem results_rel (h : SRel c A we M s a w) {fn : Func} {vs : List AV} (e : resultsA c s fn.results.toList = some vs) : ∃ x, Rv M (tupA vs) x ∧ (results fn a.tmps).run c.P w = .ok x w := by
  obtain ⟨xs, h1, h2⟩ := resultsA_rel h e
  unfold results
  rw [Array.mapM_eq_mapM_toList]
  simp only [Sem.run_bind, Sem.run_map, Sem.run_pure]
  have key : ∃ x, Rv M (tupA vs) x ∧ (if h : xs.toArray.size = 1 then xs.toArray[0] else Value.tuple xs.toArray) = x := by
    match vs, xs, h1 with
    | [], xs, h1 => simp only [Rvs] at h1; subst h1; exact ⟨_, ⟨#[], rfl, rfl⟩, rfl⟩
    | [v], xs, h1 =>
      obtain ⟨x, r, rfl, hx, hr⟩ := h1
      simp only [Rvs] at hr; subst hr
      exact ⟨x, hx, rfl⟩
    | v :: u :: l, xs, h1 =>
      obtain ⟨x, r, rfl, hx, y, q, rfl, hy, hq⟩ := h1
      refine ⟨.tuple (x :: y :: q).toArray, ⟨_, rfl, .cons hx (.cons hy hq)⟩, ?_⟩
      simp
  obtain ⟨x, hx, hxe⟩ := key
  refine ⟨x, hx, ?_⟩
  refine Eq.trans (congrArg (fun r => (Result.andThen (Result.andThen r _) _)) h2) ?_
  simp only [Result.andThen_ok]
  rw [hxe]
end Go.Proofs.Ytmglahnoemgieaa.Ax

/- What single functions of the program come to: a message's bytes. (And what follows from it, text by text.) -/
import Derived.Test.YtmglahnoemgieaaM7
namespace Go.Proofs.Ytmglahnoemgieaa.Ax
open Go Go.RowKit
set_option linter.unusedSimpArgs false
set_option linter.unusedVariables false
set_option maxHeartbeats 8000000
set_option maxRecDepth 4000
variable {w0 : World} {t : Option Gf}
def encEs (l : List Ed) : List UInt8 := l.flatMap encE
def encM (m : Msg) : List UInt8 := encB m.kind.toNat 1 ++ encB m.ticket.toNat 8 ++
  (if m.kind = 0 ∨ m.kind = 1 then encP m.sheet m.col.toNat m.row.toNat
   else if m.kind = 2 then encP m.sheet m.col.toNat m.row.toNat ++ encB m.ver.toNat 8 ++ encV m.v
   else if m.kind = 3 then encB m.ver.toNat 8 ++ encB m.edges.length 2 ++ encEs m.edges
   else [])
/-- how much the edges come to, at most -/
def edsW (l : List Ed) : Nat := (l.map fun e => 3000 + e.reads.length * 3000).sum
theorem plOk_nat {p : Pl} (h : plOk p = true) : plNat p := by
  simp only [plOk, placedOk, nameOk, cellOk, Bool.and_eq_true, decide_eq_true_eq] at h
  unfold plNat
  omega
theorem placed_nat {s : ByteArray} {a b : Int} (h : placedOk s a b = true) : 0 ≤ a ∧ a < 64 ∧ 0 ≤ b ∧ b < 1024 ∧ s.size ≤ 16 := by
  simp only [placedOk, nameOk, cellOk, Bool.and_eq_true, decide_eq_true_eq] at h
  omega
theorem edOk_nat {e : Ed} (h : edOk e = true) : edNat e := by
  simp only [edOk, Bool.and_eq_true, decide_eq_true_eq, List.all_eq_true] at h
  have h2 := placed_nat h.1.2
  exact ⟨by omega, by omega, by omega, by omega, by omega, fun p hp => plOk_nat (h.1.1 p hp), h.2⟩
theorem encLs_le (l : List Pl) (h : ∀ p ∈ l, plNat p) : (encLs l).length ≤ l.length * 3000 := by
  induction l with
  | nil => simp [encLs]
  | cons p l ih =>
    have h1 := ih (fun q hq => h q (List.mem_cons_of_mem _ hq))
    have h2 := h p List.mem_cons_self
    have h3 : encLs (p :: l) = encL p ++ encLs l := rfl
    rw [h3, List.length_append, encL_length, List.length_cons]
    unfold plNat at h2
    omega
theorem encE_le {e : Ed} (h : edNat e) : (encE e).length ≤ 3000 + e.reads.length * 3000 := by
  have h1 := encLs_le e.reads h.2.2.2.2.2.1
  have h2 := h.2.2.2.2.1
  rw [encE_length]
  omega
theorem pre_get {h h' : H} (ht : h'.take h.length = h) {j : Nat} {k : Blk} (hj : h[j]? = some k) : h'[j]? = some k := by
  have hlt : j < h.length := (List.getElem?_eq_some_iff.1 hj).1
  rw [← ht] at hj
  rwa [List.getElem?_take_of_lt hlt] at hj
theorem SlR.pre {h h' : H} {v : AV} {cells : List AV} {n es : Nat} (k : SlR h v cells n es) (ht : h'.take h.length = h) : SlR h' v cells n es ∧ belowA h.length v = true := by
  rcases k with ⟨b2, g, k, rfl, h1, h2, h3⟩ | ⟨h1, rfl⟩
  · exact ⟨.inl ⟨b2, g, k, rfl, pre_get ht h1, h2, h3⟩, by simp only [belowA, decide_eq_true_eq]; exact (List.getElem?_eq_some_iff.1 h1).1⟩
  · exact ⟨.inr ⟨h1, rfl⟩, rfl⟩
def R8 (b : Nat) (out : List UInt8) (R : Option (Ex × S)) : Prop :=
  ∃ F' loc' h' lw', R = some (.exit 1, ⟨fl 87 F', loc', h', lw'⟩) ∧ F' 4 = .ptr b 0 0 ∧ WR h' b out ∧ lwOver lw' b = true
theorem L8 (ok : CfgOk (cfg w0 t)) (h0 : H) (l : List Ed) (hok : ∀ e ∈ l, edNat e) (b g : Nat) (k : Blk) (hb : h0[b]? = some k) (hg : k.gen = g) (hk : EdsC h0 l k.cells) (hlen : l.length ≤ 4096) : ∀ (n i : Nat) (o : List UInt8) (h : H) (F : Nat → AV) (loc : Loc) (lw : Option Nat), i + n = l.length →
    WR h h0.length o → h.take h0.length = h0 → o.length + edsW (l.drop i) ≤ 1000000000 → lwOver lw h0.length = true →
    F 4 = .ptr h0.length 0 0 → F 72 = .sl b g 0 l.length 4 → F 73 = vI l.length → F 74 = vI i →
    R8 h0.length (o ++ encEs (l.drop i)) (acodeI (cfg w0 t) 8 (.loop (lp Try.f8 0)) ⟨fl 87 F, loc, h, lw⟩) := by
  dsimp only [lp, loopsOf, Try.f8, Option.getD, List.append_eq, List.nil_append, List.cons_append, List.getElem?_cons_zero, List.getElem?_cons_succ]
  intro n
  induction n with
  | zero =>
    intro i o h F loc lw hi hw ht hol hlw h4 h72 h73 h74
    have e : ¬ ((i : Int) < l.length) := by omega
    have hnil : l.drop i = [] := List.drop_eq_nil_of_le (by omega)
    rw [hnil, X_loop, show o ++ encEs [] = o from by simp [encEs]]
    simp only [reduceIte, reduceCtorEq, Nat.reduceAdd, Nat.reduceMul, Nat.reduceSub, Nat.reduceEqDiff, Nat.reduceLT, Nat.reduceLeDiff, Nat.reduceBEq, Int.reduceLT, Int.reduceLE, Int.reduceEq,
    Int.reduceNe, Int.reduceAdd, Int.reduceSub, Int.reduceMul, Int.reduceToNat, push_cast, pairsOk, locGet_set, p2_int, intBin, h4, h72, h73, h74, e]
    exact ⟨_, _, _, _, rfl, by simp only [reduceIte, reduceCtorEq, Nat.reduceAdd, Nat.reduceMul, Nat.reduceSub, Nat.reduceEqDiff, Nat.reduceLT, Nat.reduceLeDiff, Nat.reduceBEq, Int.reduceLT, Int.reduceLE, Int.reduceEq,
    Int.reduceNe, Int.reduceAdd, Int.reduceSub, Int.reduceMul, Int.reduceToNat, push_cast, pairsOk, locGet_set, h4], hw, hlw⟩
  | succ n ih =>
    intro i o h F loc lw hi hw ht hol hlw h4 h72 h73 h74
    have e : (i : Int) < l.length := by omega
    have hlt : i < l.length := by omega
    have hp : l[i]? = some l[i] := List.getElem?_eq_getElem hlt
    have hdr := List.drop_eq_getElem_cons hlt
    have hsp := hok l[i] (List.getElem_mem hlt)
    obtain ⟨hld1, rv, hld, hrv⟩ := load_ed hb hk hp
    have hwr : IntKind.i64.wrap ((i : Int) + 1) = ((i + 1 : Nat) : Int) := by rw [wrap_i64] <;> omega
    generalize l[i] = p at hp hdr hsp hld hrv
    have hn : (0 : Int) ≤ i := by omega
    have hbh := pre_get ht hb
    obtain ⟨hrv', hlow⟩ := hrv.pre ht
    have hnb : noBx rv = true ∧ oneA rv = true := by rcases hrv with ⟨_, _, _, rfl, _⟩ | ⟨_, rfl⟩ <;> exact ⟨rfl, rfl⟩
    rw [hdr] at hol ⊢
    have hcons : edsW (p :: l.drop (i + 1)) = (3000 + p.reads.length * 3000) + edsW (l.drop (i + 1)) := by simp [edsW]
    rw [hcons] at hol
    obtain ⟨h1, lw1, e1, w1, o1⟩ := f25 ok h0.length p hsp rv o h hrv' hlow hw (by omega)
    have t1 := call_low ok e1 o1 (Nat.le_of_lt (wr_block hw))
    have hle := encE_le hsp
    have henc : o ++ encEs (p :: l.drop (i + 1)) = (o ++ encE p) ++ encEs (l.drop (i + 1)) := by
      simp [encEs, List.append_assoc]
    rw [henc, X_loop]
    generalize hout : (o ++ encE p) ++ encEs (l.drop (i + 1)) = out
    simp only [reduceIte, reduceCtorEq, Nat.reduceAdd, Nat.reduceMul, Nat.reduceSub, Nat.reduceEqDiff, Nat.reduceLT, Nat.reduceLeDiff, Nat.reduceBEq, Int.reduceLT, Int.reduceLE, Int.reduceEq,
    Int.reduceNe, Int.reduceAdd, Int.reduceSub, Int.reduceMul, Int.reduceToNat, push_cast, pairsOk, locGet_set, p2_int, intBin, idx_sl elemSize_37, h4, h72, h73, h74, e, hn, hbh, hg, hld1, hld, hnb.1, hnb.2, e1, hwr]
    subst hout
    refine ih (i + 1) _ _ _ _ _ (by omega) w1 (t1.trans ht) (by rw [List.length_append]; omega) ?_ ?_ ?_ ?_ ?_
    · simp only [lwOver_min, hlw, o1, Bool.and_self]
    all_goals simp only [reduceIte, reduceCtorEq, Nat.reduceAdd, Nat.reduceMul, Nat.reduceSub, Nat.reduceEqDiff, Nat.reduceLT, Nat.reduceLeDiff, Nat.reduceBEq, Int.reduceLT, Int.reduceLE, Int.reduceEq,
    Int.reduceNe, Int.reduceAdd, Int.reduceSub, Int.reduceMul, Int.reduceToNat, push_cast, pairsOk, locGet_set, h4, h72, h73]
theorem L8z (b : Nat) (o : List UInt8) (h : H) (F : Nat → AV) (loc : Loc) (lw : Option Nat) (hw : WR h b o) (hlw : lwOver lw b = true) (h4 : F 4 = .ptr b 0 0) (h73 : F 73 = vI 0) (h74 : F 74 = vI 0) :
    R8 b o (acodeI (cfg w0 t) 8 (.loop (lp Try.f8 0)) ⟨fl 87 F, loc, h, lw⟩) := by
  dsimp only [lp, loopsOf, Try.f8, Option.getD, List.append_eq, List.nil_append, List.cons_append, List.getElem?_cons_zero, List.getElem?_cons_succ]
  rw [X_loop]
  simp only [reduceIte, reduceCtorEq, Nat.reduceAdd, Nat.reduceMul, Nat.reduceSub, Nat.reduceEqDiff, Nat.reduceLT, Nat.reduceLeDiff, Nat.reduceBEq, Int.reduceLT, Int.reduceLE, Int.reduceEq,
    Int.reduceNe, Int.reduceAdd, Int.reduceSub, Int.reduceMul, Int.reduceToNat, push_cast, pairsOk, locGet_set, p2_int, intBin, h73, h74]
  exact ⟨_, _, _, _, rfl, by simp only [reduceIte, reduceCtorEq, Nat.reduceAdd, Nat.reduceMul, Nat.reduceSub, Nat.reduceEqDiff, Nat.reduceLT, Nat.reduceLeDiff, Nat.reduceBEq, Int.reduceLT, Int.reduceLE, Int.reduceEq,
    Int.reduceNe, Int.reduceAdd, Int.reduceSub, Int.reduceMul, Int.reduceToNat, push_cast, pairsOk, locGet_set, h4], hw, hlw⟩
theorem L8' (ok : CfgOk (cfg w0 t)) (h0 : H) (l : List Ed) (hok : ∀ e ∈ l, edNat e) (xs : AV) (hx : EdsV h0 l xs) (hlen : l.length ≤ 4096) (o : List UInt8) (h : H) (F : Nat → AV) (loc : Loc) (lw : Option Nat)
    (hw : WR h h0.length o) (ht : h.take h0.length = h0) (hol : o.length + edsW l ≤ 1000000000) (hlw : lwOver lw h0.length = true)
    (h4 : F 4 = .ptr h0.length 0 0) (h72 : F 72 = xs) (h73 : F 73 = vI l.length) (h74 : F 74 = vI 0) :
    R8 h0.length (o ++ encEs l) (acodeI (cfg w0 t) 8 (.loop (lp Try.f8 0)) ⟨fl 87 F, loc, h, lw⟩) := by
  rcases hx with ⟨b, g, k, rfl, hb, hg, hk⟩ | ⟨rfl, rfl⟩
  · exact L8 ok h0 l hok b g k hb hg hk hlen l.length 0 o h F loc lw (by omega) hw ht hol hlw h4 h72 h73 h74
  · rw [show o ++ encEs [] = o from by simp [encEs]]
    exact L8z h0.length o h F loc lw hw hlw h4 h73 h74
end Go.Proofs.Ytmglahnoemgieaa.Ax
namespace Go.Proofs.Ytmglahnoemgieaa.Ax
open Go Go.RowKit
set_option linter.unusedSimpArgs false
set_option linter.unusedVariables false
set_option maxHeartbeats 8000000
set_option maxRecDepth 4000
variable {w0 : World} {t : Option Gf}
theorem encM_ne (m : Msg) : encM m ≠ [] := by
  unfold encM
  intro e
  have := congrArg List.length e
  simp [encB_length] at this
theorem good_nums {m : Msg} (h : msgGood m = true) : 0 ≤ m.ticket ∧ m.ticket ≤ 9007199254740992 ∧ 0 ≤ m.ver ∧ m.ver ≤ 9007199254740992 := by
  simp only [msgGood, within, Bool.and_eq_true, decide_eq_true_eq] at h
  omega
theorem new_take {h h' : H} {k : Blk} (e : h'.take h.length = (h ++ [k]).take h.length) : h'.take h.length = h := by
  rw [e, List.take_left']
  rfl
theorem f8 (ok : CfgOk (cfg w0 t)) (m : Msg) (hsm : msgSmall m) (xs : AV) (h : H) (he : EdsV h m.edges xs) (hw : edsW m.edges ≤ 900000000) : acallI (cfg w0 t) 8 [.agg (vM m.kind m.ticket m.sheet m.col m.row m.ver m.v xs)] h =
    some (.ret (.tup (if msgGood m then [vS ⟨(encM m).toArray⟩, vI 0] else [vS .empty, vI 4])), h, none) := by
  rw [E8]
  have hg0 := f13 (w0 := w0) (t := t) m hsm xs h he
  have hnb : noBx xs = true ∧ oneA xs = true := by rcases he.len with ⟨_, _, rfl⟩ | ⟨_, rfl⟩ <;> exact ⟨rfl, rfl⟩
  cases hg : msgGood m
  · rw [hg] at hg0
    dsimp only [Try.f8, Option.getD]
    simp only [reduceIte, reduceCtorEq, Nat.reduceAdd, Nat.reduceMul, Nat.reduceSub, Nat.reduceEqDiff, Nat.reduceLT, Nat.reduceLeDiff, Nat.reduceBEq, Int.reduceLT, Int.reduceLE, Int.reduceEq,
    Int.reduceNe, Int.reduceAdd, Int.reduceSub, Int.reduceMul, Int.reduceToNat, push_cast, pairsOk, locGet, locSet, nextGen, hg0, hnb.1, hnb.2]
  rw [hg] at hg0
  have hr := good_nums hg
  have hne := encM_ne m
  have hk : 0 ≤ m.kind ∧ m.kind ≤ 4 := by
    simp only [msgGood, Bool.and_eq_true] at hg
    have := hg.2
    by_cases k0 : m.kind = 0
    · omega
    by_cases k1 : m.kind = 1
    · omega
    by_cases k2 : m.kind = 2
    · omega
    by_cases k3 : m.kind = 3
    · omega
    by_cases k4 : m.kind = 4
    · omega
    simp [k0, k1, k2, k3, k4] at this
  obtain ⟨h1, lw1, e1, w1, o1⟩ := f22 ok m.kind.toNat h.length 1 (by omega) (by omega) _ _ (wr_new h) (by simp)
  obtain ⟨h2, lw2, e2, w2, o2⟩ := f22 ok m.ticket.toNat h.length 8 (by omega) (by omega) _ _ w1 (by simp [encB_length])
  rw [Int.toNat_of_nonneg hr.1] at e2
  rw [Int.toNat_of_nonneg hk.1] at e1
  rw [show ((1 : Nat) : Int) = 1 from rfl] at e1
  rw [show ((8 : Nat) : Int) = 8 from rfl] at e2
  have t1 := new_take (call_low ok e1 o1 (by simp))
  have t2 := (call_low ok e2 o2 (Nat.le_of_lt (wr_block w1))).trans t1
  have hl2 : ([] ++ encB m.kind.toNat 1 ++ encB m.ticket.toNat 8).length = 9 := by simp [encB_length]
  by_cases k0 : m.kind = 0
  · have hp := placed_nat (s := m.sheet) (a := m.col) (b := m.row) (by simp [msgGood, k0] at hg; exact hg.2.1)
    obtain ⟨h3, lw3, e3, w3, o3⟩ := f23 ok h.length m.sheet m.col.toNat m.row.toNat (by omega) (by omega) (by omega) _ _ w2 (by omega)
    rw [Int.toNat_of_nonneg hp.1, Int.toNat_of_nonneg hp.2.2.1] at e3
    have henc : [] ++ encB m.kind.toNat 1 ++ encB m.ticket.toNat 8 ++ encP m.sheet m.col.toNat m.row.toNat = encM m := by simp [encM, k0]
    rw [henc] at w3
    obtain ⟨b2, g, r1, r2⟩ := wr_sl w3 hne
    clear henc w3 w2 w1 hl2
    generalize encM m = out at r1 r2
    rw [k0] at hg0 e1 ⊢
    dsimp only [Try.f8, Option.getD]
    simp only [reduceIte, reduceCtorEq, Nat.reduceAdd, Nat.reduceMul, Nat.reduceSub, Nat.reduceEqDiff, Nat.reduceLT, Nat.reduceLeDiff, Nat.reduceBEq, Int.reduceLT, Int.reduceLE, Int.reduceEq,
    Int.reduceNe, Int.reduceAdd, Int.reduceSub, Int.reduceMul, Int.reduceToNat, push_cast, pairsOk, locGet, locSet, nextGen, hg0, hnb.1, hnb.2, e1, e2, e3, r1, r2, o1, o2, o3, byteCells_length, unb_take, p2_int, intBin]
  by_cases k1 : m.kind = 1
  · have hp := placed_nat (s := m.sheet) (a := m.col) (b := m.row) (by simp [msgGood, k1] at hg; exact hg.2.1)
    obtain ⟨h3, lw3, e3, w3, o3⟩ := f23 ok h.length m.sheet m.col.toNat m.row.toNat (by omega) (by omega) (by omega) _ _ w2 (by omega)
    rw [Int.toNat_of_nonneg hp.1, Int.toNat_of_nonneg hp.2.2.1] at e3
    have henc : [] ++ encB m.kind.toNat 1 ++ encB m.ticket.toNat 8 ++ encP m.sheet m.col.toNat m.row.toNat = encM m := by simp [encM, k1]
    rw [henc] at w3
    obtain ⟨b2, g, r1, r2⟩ := wr_sl w3 hne
    clear henc w3 w2 w1 hl2
    generalize encM m = out at r1 r2
    rw [k1] at hg0 e1 ⊢
    dsimp only [Try.f8, Option.getD]
    simp only [reduceIte, reduceCtorEq, Nat.reduceAdd, Nat.reduceMul, Nat.reduceSub, Nat.reduceEqDiff, Nat.reduceLT, Nat.reduceLeDiff, Nat.reduceBEq, Int.reduceLT, Int.reduceLE, Int.reduceEq,
    Int.reduceNe, Int.reduceAdd, Int.reduceSub, Int.reduceMul, Int.reduceToNat, push_cast, pairsOk, locGet, locSet, nextGen, hg0, hnb.1, hnb.2, e1, e2, e3, r1, r2, o1, o2, o3, byteCells_length, unb_take, p2_int, intBin]
  by_cases k2 : m.kind = 2
  · have hv : valOk m.v = true ∧ placedOk m.sheet m.col m.row = true := by simp [msgGood, k2] at hg; exact ⟨hg.2.1.2, hg.2.1.1⟩
    have hp := placed_nat hv.2
    obtain ⟨h3, lw3, e3, w3, o3⟩ := f23 ok h.length m.sheet m.col.toNat m.row.toNat (by omega) (by omega) (by omega) _ _ w2 (by omega)
    obtain ⟨h4, lw4, e4, w4, o4⟩ := f22 ok m.ver.toNat h.length 8 (by omega) (by omega) _ _ w3 (by rw [List.length_append, hl2, encP_length]; omega)
    rw [Int.toNat_of_nonneg hp.1, Int.toNat_of_nonneg hp.2.2.1] at e3
    rw [Int.toNat_of_nonneg hr.2.2.1, show ((8 : Nat) : Int) = 8 from rfl] at e4
    have e5 := f24 ok m.v.1 m.v.2.1 m.v.2.2.1 m.v.2.2.2.1 m.v.2.2.2.2 h4
    rw [show vGood m.v.1 m.v.2.1 m.v.2.2.1 m.v.2.2.2.1 m.v.2.2.2.2 = valOk m.v from rfl, hv.1, if_pos rfl] at e5
    obtain ⟨v, hb, hv1, hnv⟩ := wr_read w4
    have hvl : (encV m.v).length ≤ 1000 := by
      have hv2 := hv.1
      unfold encV
      unfold valOk vGood at hv2
      by_cases q1 : m.v.1 = 1
      · simp [q1, encB_length]
      by_cases q2 : m.v.1 = 2
      · simp [q2] at hv2
        simp [q2, bl_len]
        omega
      by_cases q3 : m.v.1 = 3
      · simp [q3]
      by_cases q4 : m.v.1 = 4
      · simp [q4]
      · simp [q1, q2, q3, q4]
    obtain ⟨v', h5, lw5, hd, hb5, w5, o5, hnb5, hone⟩ := wr_app (w0 := w0) (t := t) (call := acallI (cfg w0 t)) (xs := encV m.v) hb hv1 (src := vS ⟨(encV m.v).toArray⟩) rfl (by rw [List.length_append, List.length_append, hl2, encP_length, encB_length]; omega)
    have henc : [] ++ encB m.kind.toNat 1 ++ encB m.ticket.toNat 8 ++ encP m.sheet m.col.toNat m.row.toNat ++ encB m.ver.toNat 8 ++ encV m.v = encM m := by simp [encM, k2]
    rw [henc] at w5
    obtain ⟨b2, g, r1, r2⟩ := wr_sl w5 hne
    clear henc w5 w4 w3 w2 w1 hl2 hv1
    generalize encM m = out at r1 r2
    rw [k2] at hg0 e1 ⊢
    dsimp only [Try.f8, Option.getD]
    simp only [reduceIte, reduceCtorEq, Nat.reduceAdd, Nat.reduceMul, Nat.reduceSub, Nat.reduceEqDiff, Nat.reduceLT, Nat.reduceLeDiff, Nat.reduceBEq, Int.reduceLT, Int.reduceLE, Int.reduceEq,
    Int.reduceNe, Int.reduceAdd, Int.reduceSub, Int.reduceMul, Int.reduceToNat, push_cast, pairsOk, locGet, locSet, nextGen, hg0, hnb.1, hnb.2, e1, e2, e3, e4, e5, hb, hnv, hd, hb5, hnb5, hone, c_one hone, r1, r2, o1, o2, o3, o4, o5, byteCells_length, unb_take, p2_int, intBin]
  by_cases k3 : m.kind = 3
  · have hv : m.edges.all edOk = true ∧ m.edges.length ≤ 4096 := by
      simp only [msgGood, k3] at hg
      simp only [Bool.and_eq_true, decide_eq_true_eq, show ¬ ((3:Int) = 0) from by decide, show ¬ ((3:Int) = 1) from by decide, show ¬ ((3:Int) = 2) from by decide, reduceIte] at hg
      exact ⟨hg.2.1.1.1, hg.2.2⟩
    have hed : ∀ e ∈ m.edges, edNat e := fun e hm => edOk_nat (by simpa using List.all_eq_true.1 hv.1 e hm)
    have hLn := he.len.lenA (P := Try.prog) Try.underlying37
    obtain ⟨h3, lw3, e3, w3, o3⟩ := f22 ok m.ver.toNat h.length 8 (by omega) (by omega) _ _ w2 (by omega)
    obtain ⟨h4, lw4, e4, w4, o4⟩ := f22 ok m.edges.length h.length 2 (by omega) (by omega) _ _ w3 (by rw [List.length_append, hl2, encB_length]; omega)
    rw [Int.toNat_of_nonneg hr.2.2.1, show ((8 : Nat) : Int) = 8 from rfl] at e3
    rw [show ((2 : Nat) : Int) = 2 from rfl] at e4
    have t3 := (call_low ok e3 o3 (Nat.le_of_lt (wr_block w2))).trans t2
    have t4 := (call_low ok e4 o4 (Nat.le_of_lt (wr_block w3))).trans t3
    have henc : [] ++ encB m.kind.toNat 1 ++ encB m.ticket.toNat 8 ++ encB m.ver.toNat 8 ++ encB m.edges.length 2 ++ encEs m.edges = encM m := by simp [encM, k3]
    obtain ⟨G, hG⟩ := skol (P := fun a : (Nat → AV) × Loc × Option Nat => lwOver a.2.2 h.length = true ∧ a.1 4 = .ptr h.length 0 0 ∧ a.1 72 = xs ∧ a.1 73 = vI m.edges.length ∧ a.1 74 = vI 0)
      (Q := fun a c => acodeI (cfg w0 t) 8 (.loop (lp Try.f8 0)) ⟨fl 87 a.1, a.2.1, h4, a.2.2⟩ = some (.exit 1, ⟨fl 87 c.1, c.2.1, c.2.2.1, c.2.2.2.1⟩) ∧ c.1 4 = .ptr h.length 0 0 ∧ lwOver c.2.2.2.1 h.length = true ∧ c.2.2.1[h.length]? = some ⟨[.sl c.2.2.2.2.1 c.2.2.2.2.2 0 (encM m).length 1], 0⟩ ∧ c.2.2.1[c.2.2.2.2.1]? = some ⟨byteCells (encM m), c.2.2.2.2.2⟩) (β := (Nat → AV) × Loc × H × Option Nat × Nat × Nat) (fun a ha => by
        obtain ⟨F', loc', h', lw', q1, q2, q3, q4⟩ := L8' ok h m.edges hed xs he hv.2 _ h4 a.1 a.2.1 a.2.2 w4 t4 (by rw [List.length_append, List.length_append, hl2, encB_length, encB_length]; omega) ha.1 ha.2.1 ha.2.2.1 ha.2.2.2.1 ha.2.2.2.2
        rw [henc] at q3
        obtain ⟨b2, g, r1, r2⟩ := wr_sl q3 hne
        exact ⟨(F', loc', h', lw', b2, g), q1, q2, q4, r1, r2⟩)
    have G1 := fun F loc lw hc => (hG (F, loc, lw) hc).1
    have G2 := fun F loc lw hc => (hG (F, loc, lw) hc).2.1
    have G3 := fun F loc lw hc => (hG (F, loc, lw) hc).2.2.1
    have G4 := fun F loc lw hc => (hG (F, loc, lw) hc).2.2.2.1
    have G5 := fun F loc lw hc => (hG (F, loc, lw) hc).2.2.2.2
    clear hG henc w4 w3 w2 w1 hl2
    generalize encM m = out at G4 G5
    rw [k3] at hg0 e1 ⊢
    dsimp only [lp, loopsOf, Try.f8, Option.getD, List.append_eq, List.nil_append, List.cons_append, List.getElem?_cons_zero, List.getElem?_cons_succ] at G1 G2 G3 G4 G5 ⊢
    simp only [reduceIte, reduceCtorEq, Nat.reduceAdd, Nat.reduceMul, Nat.reduceSub, Nat.reduceEqDiff, Nat.reduceLT, Nat.reduceLeDiff, Nat.reduceBEq, Int.reduceLT, Int.reduceLE, Int.reduceEq,
    Int.reduceNe, Int.reduceAdd, Int.reduceSub, Int.reduceMul, Int.reduceToNat, push_cast, pairsOk, locGet, locSet, nextGen, hg0, hnb.1, hnb.2, hLn, e1, e2, e3, e4, o1, o2, o3, o4, G1, G2, G3, G4, G5, byteCells_length, unb_take, p2_int, intBin]
  · have k4 : m.kind = 4 := by omega
    have henc : [] ++ encB m.kind.toNat 1 ++ encB m.ticket.toNat 8 = encM m := by simp [encM, k4]
    rw [henc] at w2
    obtain ⟨b2, g, r1, r2⟩ := wr_sl w2 hne
    clear henc w2 w1 hl2
    generalize encM m = out at r1 r2
    rw [k4] at hg0 e1 ⊢
    dsimp only [Try.f8, Option.getD]
    simp only [reduceIte, reduceCtorEq, Nat.reduceAdd, Nat.reduceMul, Nat.reduceSub, Nat.reduceEqDiff, Nat.reduceLT, Nat.reduceLeDiff, Nat.reduceBEq, Int.reduceLT, Int.reduceLE, Int.reduceEq,
    Int.reduceNe, Int.reduceAdd, Int.reduceSub, Int.reduceMul, Int.reduceToNat, push_cast, pairsOk, locGet, locSet, nextGen, hg0, hnb.1, hnb.2, e1, e2, r1, r2, o1, o2, byteCells_length, unb_take, p2_int, intBin]
end Go.Proofs.Ytmglahnoemgieaa.Ax
namespace Go.Proofs.Ytmglahnoemgieaa.Ax
open Go Go.RowKit
set_option linter.unusedSimpArgs false
set_option linter.unusedVariables false
set_option maxHeartbeats 8000000
set_option maxRecDepth 4000
variable {w0 : World} {t : Option Gf}
/-- a slice of bytes of our own, or none yet: the newest block above a heap -/
def SlT (h : H) (v : AV) (l : List UInt8) (hh : H) : Prop := (l = [] ∧ v = .val (.slice none 0 0) ∧ hh = h) ∨ ∃ g, v = .sl h.length g 0 l.length 1 ∧ hh = h ++ [⟨byteCells l, g⟩]
theorem SlT.nb {h hh : H} {v : AV} {l : List UInt8} (k : SlT h v l hh) : noBx v = true := by
  rcases k with ⟨_, rfl, _⟩ | ⟨_, rfl, _⟩ <;> rfl
theorem app_own {call : CallF} {h hh : H} {v : AV} {l xs : List UInt8} (k : SlT h v l hh) {src : AV} (hs : ∀ hh, ((srcCells hh 1 src).orElse fun _ => srcForeign w0 1 src) = some (byteCells xs, xs.length))
    (hlen : l.length + xs.length ≤ 1099511627776) (hx : xs ≠ []) : ∃ v' hh' lw, doHeap (cfg w0 t) call hh (.app 5 v src) = some (.val v' hh' lw) ∧ SlT h v' (l ++ xs) hh' ∧ lwOver lw h.length = true := by
  rcases k with ⟨rfl, rfl, rfl⟩ | ⟨g, rfl, rfl⟩
  · have hx0 : ¬ xs.length = 0 := by
      intro e
      exact hx (List.eq_nil_of_length_eq_zero e)
    refine ⟨.sl hh.length 0 0 xs.length 1, hh ++ [⟨byteCells xs, 0⟩], none, ?_, .inr ⟨0, by simp, by simp⟩, rfl⟩
    simp only [doHeap, cfg_P, cfg_w0, sizeT_5, hs, one_cells, room5 (n := xs.length) (by simpa using hlen), hx0]
    rfl
  · obtain ⟨g', lw, e1, e2⟩ := app_top (w0 := w0) (t := t) (call := call) (h := h) (l := l) (xs := xs) (g := g) (hs _) hlen
    exact ⟨_, _, lw, e1, .inr ⟨g', rfl, rfl⟩, e2⟩
def R26i (h : H) (loc : Loc) (lw : Option Nat) (q : Nat) (F : Nat → AV) (R : Option (Ex × S)) : Prop :=
  ∃ F', R = some (.exit 2, ⟨fl 33 F', loc, h, lw⟩) ∧ F' 7 = vI q ∧ F' 0 = F 0 ∧ F' 1 = F 1 ∧ F' 5 = F 5 ∧ F' 6 = F 6
theorem R26i.step {h : H} {loc : Loc} {lw : Option Nat} {q : Nat} {F F0 : Nat → AV} {R : Option (Ex × S)} (k : R26i h loc lw q F R) (h0 : F 0 = F0 0) (h1 : F 1 = F0 1) (h5 : F 5 = F0 5) (h6 : F 6 = F0 6) : R26i h loc lw q F0 R := by
  obtain ⟨F', k1, k2, k3, k4, k5, k6⟩ := k
  exact ⟨F', k1, k2, k3.trans h0, k4.trans h1, k5.trans h5, k6.trans h6⟩
theorem L26i (h : H) (loc : Loc) (lw : Option Nat) (size : Nat) (hs : size ≤ 8) : ∀ (m j p : Nat) (F : Nat → AV), j + m = size → p * 256 ^ m ≤ 72057594037927936 → F 1 = vI size → F 7 = vI p → F 8 = vI j →
    R26i h loc lw (p * 256 ^ m) F (acodeI (cfg w0 t) 26 (.loop (lp Try.f26 1)) ⟨fl 33 F, loc, h, lw⟩) := by
  dsimp only [lp, loopsOf, Try.f26, Option.getD, List.append_eq, List.nil_append, List.cons_append, List.getElem?_cons_zero, List.getElem?_cons_succ]
  intro m
  induction m with
  | zero =>
    intro j p F hj hp h1 h7 h8
    have e : ¬ ((j : Int) < size) := by omega
    rw [X_loop, Nat.pow_zero, Nat.mul_one]
    simp only [reduceIte, reduceCtorEq, Nat.reduceAdd, Nat.reduceMul, Nat.reduceSub, Nat.reduceEqDiff, Nat.reduceLT, Nat.reduceLeDiff, Nat.reduceBEq, Int.reduceLT, Int.reduceLE, Int.reduceEq,
    Int.reduceNe, Int.reduceAdd, Int.reduceSub, Int.reduceMul, Int.reduceToNat, push_cast, pairsOk, locGet_set, p2_int, intBin, h1, h7, h8, e]
    exact ⟨_, rfl, by simp only [reduceIte, reduceCtorEq, Nat.reduceAdd, Nat.reduceMul, Nat.reduceSub, Nat.reduceEqDiff, Nat.reduceLT, Nat.reduceLeDiff, Nat.reduceBEq, Int.reduceLT, Int.reduceLE, Int.reduceEq,
    Int.reduceNe, Int.reduceAdd, Int.reduceSub, Int.reduceMul, Int.reduceToNat, push_cast, pairsOk, locGet_set, h7], by simp only [reduceIte, reduceCtorEq, Nat.reduceAdd, Nat.reduceMul, Nat.reduceSub, Nat.reduceEqDiff, Nat.reduceLT, Nat.reduceLeDiff, Nat.reduceBEq, Int.reduceLT, Int.reduceLE, Int.reduceEq,
    Int.reduceNe, Int.reduceAdd, Int.reduceSub, Int.reduceMul, Int.reduceToNat, push_cast, pairsOk, locGet_set], by simp only [reduceIte, reduceCtorEq, Nat.reduceAdd, Nat.reduceMul, Nat.reduceSub, Nat.reduceEqDiff, Nat.reduceLT, Nat.reduceLeDiff, Nat.reduceBEq, Int.reduceLT, Int.reduceLE, Int.reduceEq,
    Int.reduceNe, Int.reduceAdd, Int.reduceSub, Int.reduceMul, Int.reduceToNat, push_cast, pairsOk, locGet_set], by simp only [reduceIte, reduceCtorEq, Nat.reduceAdd, Nat.reduceMul, Nat.reduceSub, Nat.reduceEqDiff, Nat.reduceLT, Nat.reduceLeDiff, Nat.reduceBEq, Int.reduceLT, Int.reduceLE, Int.reduceEq,
    Int.reduceNe, Int.reduceAdd, Int.reduceSub, Int.reduceMul, Int.reduceToNat, push_cast, pairsOk, locGet_set], by simp only [reduceIte, reduceCtorEq, Nat.reduceAdd, Nat.reduceMul, Nat.reduceSub, Nat.reduceEqDiff, Nat.reduceLT, Nat.reduceLeDiff, Nat.reduceBEq, Int.reduceLT, Int.reduceLE, Int.reduceEq,
    Int.reduceNe, Int.reduceAdd, Int.reduceSub, Int.reduceMul, Int.reduceToNat, push_cast, pairsOk, locGet_set]⟩
  | succ m ih =>
    intro j p F hj hp h1 h7 h8
    have e : (j : Int) < size := by omega
    have hw1 : IntKind.i64.wrap ((j : Int) + 1) = ((j + 1 : Nat) : Int) := by rw [wrap_i64] <;> omega
    have hp2 : p * 256 ^ (m + 1) = (256 * p) * 256 ^ m := by rw [Nat.pow_succ, ← Nat.mul_assoc, Nat.mul_comm (p * 256 ^ m) 256, Nat.mul_assoc]
    rw [hp2] at hp ⊢
    have hle : 256 * p ≤ 72057594037927936 := Nat.le_trans (Nat.le_mul_of_pos_right _ (Nat.pow_pos (by decide))) hp
    have hw2 : IntKind.i64.wrap (256 * (p : Int)) = ((256 * p : Nat) : Int) := by rw [wrap_i64] <;> omega
    rw [X_loop]
    generalize hq : 256 * p * 256 ^ m = q
    simp only [reduceIte, reduceCtorEq, Nat.reduceAdd, Nat.reduceMul, Nat.reduceSub, Nat.reduceEqDiff, Nat.reduceLT, Nat.reduceLeDiff, Nat.reduceBEq, Int.reduceLT, Int.reduceLE, Int.reduceEq,
    Int.reduceNe, Int.reduceAdd, Int.reduceSub, Int.reduceMul, Int.reduceToNat, push_cast, pairsOk, locGet_set, p2_int, intBin, h1, h7, h8, e, hw1, hw2]
    subst hq
    refine R26i.step (ih (j + 1) (256 * p) _ (by omega) hp ?_ ?_ ?_) ?_ ?_ ?_ ?_ <;> simp only [reduceIte, reduceCtorEq, Nat.reduceAdd, Nat.reduceMul, Nat.reduceSub, Nat.reduceEqDiff, Nat.reduceLT, Nat.reduceLeDiff, Nat.reduceBEq, Int.reduceLT, Int.reduceLE, Int.reduceEq,
    Int.reduceNe, Int.reduceAdd, Int.reduceSub, Int.reduceMul, Int.reduceToNat, push_cast, pairsOk, locGet_set, h1]
theorem L26i' (h : H) (loc : Loc) (lw : Option Nat) (size i : Nat) (hs : size ≤ 8) (hi : i + 1 ≤ size) (F : Nat → AV) (h1 : F 1 = vI size) (h7 : F 7 = vI 1) (h8 : F 8 = vI ((i + 1 : Nat) : Int)) :
    R26i h loc lw (256 ^ (size - (i + 1))) F (acodeI (cfg w0 t) 26 (.loop (lp Try.f26 1)) ⟨fl 33 F, loc, h, lw⟩) := by
  have := L26i (w0 := w0) (t := t) h loc lw size hs (size - (i + 1)) (i + 1) 1 F (by omega) (by
    rw [Nat.one_mul]
    exact Nat.le_trans (Nat.pow_le_pow_right (by decide) (show size - (i + 1) ≤ 7 by omega)) (by decide)) h1 h7 h8
  rwa [Nat.one_mul] at this
theorem quo_byte (n k : Nat) (hn : n ≤ 9223372036854775807) : IntKind.i64.wrap ((n : Int).tdiv ((256 ^ k : Nat) : Int)) = ((n / 2 ^ (8 * k) : Nat) : Int) := by
  have e : (256 : Nat) ^ k = 2 ^ (8 * k) := by rw [Nat.pow_mul]
  rw [e]
  have e2 : (n : Int).tdiv ((2 ^ (8 * k) : Nat) : Int) = ((n / 2 ^ (8 * k) : Nat) : Int) := by
    rw [Int.ofNat_tdiv]
  have h3 : n / 2 ^ (8 * k) ≤ n := Nat.div_le_self _ _
  rw [e2]
  generalize n / 2 ^ (8 * k) = q at h3
  rw [wrap_i64] <;> omega
theorem rem_byte (n k : Nat) : ((((n / 2 ^ (8 * k) : Nat) : Int)).tmod 256) % 256 = ((byteOf n k).toNat : Int) := by
  have h4 : (byteOf n k).toNat = n / 2 ^ (8 * k) % 256 := by
    unfold byteOf
    rw [UInt8.toNat_ofNat']
    omega
  rw [h4]
  generalize n / 2 ^ (8 * k) = q
  have : (q : Int).tmod 256 = ((q % 256 : Nat) : Int) := by
    rw [show (256 : Int) = ((256 : Nat) : Int) from rfl, Int.ofNat_tmod]
  rw [this]
  omega
def R26 (h : H) (out : List UInt8) (R : Option (Ex × S)) : Prop :=
  ∃ F' h' lw', R = some (.exit 0, ⟨fl 33 F', [], h', lw'⟩) ∧ SlT h (F' 5) out h' ∧ lwOver lw' h.length = true
theorem L26 (h : H) (n size : Nat) (hn : n ≤ 9223372036854775807) (hs : size ≤ 8) : ∀ (m i : Nat) (l : List UInt8) (hh : H) (F : Nat → AV) (lw : Option Nat), i + m = size → l.length ≤ 100 + i → lwOver lw h.length = true → SlT h (F 5) l hh →
    F 0 = vI n → F 1 = vI size → F 6 = vI i →
    R26 h (l ++ encB n m) (acodeI (cfg w0 t) 26 (.loop (lp Try.f26 0)) ⟨fl 33 F, [], hh, lw⟩) := by
  intro m
  induction m with
  | zero =>
    intro i l hh F lw hi hl hlw hS h0 h1 h6
    dsimp only [lp, loopsOf, Try.f26, Option.getD, List.append_eq, List.nil_append, List.cons_append, List.getElem?_cons_zero, List.getElem?_cons_succ]
    have e : ¬ ((i : Int) < size) := by omega
    rw [X_loop, encB, List.append_nil]
    simp only [reduceIte, reduceCtorEq, Nat.reduceAdd, Nat.reduceMul, Nat.reduceSub, Nat.reduceEqDiff, Nat.reduceLT, Nat.reduceLeDiff, Nat.reduceBEq, Int.reduceLT, Int.reduceLE, Int.reduceEq,
    Int.reduceNe, Int.reduceAdd, Int.reduceSub, Int.reduceMul, Int.reduceToNat, push_cast, pairsOk, locGet_set, p2_int, intBin, h0, h1, h6, e]
    exact ⟨_, _, _, rfl, by simpa only [reduceIte, reduceCtorEq, Nat.reduceAdd, Nat.reduceMul, Nat.reduceSub, Nat.reduceEqDiff, Nat.reduceLT, Nat.reduceLeDiff, Nat.reduceBEq, Int.reduceLT, Int.reduceLE, Int.reduceEq,
    Int.reduceNe, Int.reduceAdd, Int.reduceSub, Int.reduceMul, Int.reduceToNat, push_cast, pairsOk, locGet_set] using hS, hlw⟩
  | succ m ih =>
    intro i l hh F lw hi hl hlw hS h0 h1 h6
    have e : (i : Int) < size := by omega
    have hw1 : IntKind.i64.wrap ((i : Int) + 1) = ((i + 1 : Nat) : Int) := by rw [wrap_i64] <;> omega
    have hm : size - (i + 1) = m := by omega
    obtain ⟨G, hG⟩ := skol (P := fun a : (Nat → AV) => a 1 = vI size ∧ a 7 = vI 1 ∧ a 8 = vI ((i + 1 : Nat) : Int))
      (Q := fun a c => acodeI (cfg w0 t) 26 (.loop (lp Try.f26 1)) ⟨fl 33 a, [], hh, lw⟩ = some (.exit 2, ⟨fl 33 c, [], hh, lw⟩) ∧ c 7 = vI (256 ^ m : Nat) ∧ c 0 = a 0 ∧ c 1 = a 1 ∧ c 5 = a 5 ∧ c 6 = a 6) (β := (Nat → AV)) (fun a ha => by
        obtain ⟨F', q1, q2⟩ := L26i' (w0 := w0) (t := t) hh [] lw size i hs (by omega) a ha.1 ha.2.1 ha.2.2
        rw [hm] at q2
        exact ⟨F', q1, q2⟩)
    have G1 := fun F hc => (hG F hc).1
    have G7 := fun F hc => (hG F hc).2.1
    have G0 := fun F hc => (hG F hc).2.2.1
    have Ga := fun F hc => (hG F hc).2.2.2.1
    have G5 := fun F hc => (hG F hc).2.2.2.2.1
    have G6 := fun F hc => (hG F hc).2.2.2.2.2
    clear hG
    obtain ⟨v', h', lw', hd, hS', ho⟩ := app_own (w0 := w0) (t := t) (call := acallI (cfg w0 t)) hS (xs := [byteOf n m]) (src := .lit [vU (byteOf n m)] 1) (fun _ => rfl) (by simp; omega) (by simp)
    have hq := quo_byte n m hn
    have hr := rem_byte n m
    generalize n / 2 ^ (8 * m) = nq at hq hr
    have hne : ((256 ^ m : Nat) : Int) ≠ 0 := by
      have : 0 < 256 ^ m := Nat.pow_pos (by decide)
      omega
    rw [show l ++ encB n (m + 1) = (l ++ [byteOf n m]) ++ encB n m from by simp [encB]]
    have hnb := hS.nb
    generalize hv5 : F 5 = v5 at hd hS hnb
    generalize ho2 : l ++ [byteOf n m] = o2 at hS' ⊢
    generalize hP : ((256 ^ m : Nat) : Int) = pw at hq hne G7
    have ih := ih (i + 1) o2 h'
    dsimp only [lp, loopsOf, Try.f26, Option.getD, List.append_eq, List.nil_append, List.cons_append, List.getElem?_cons_zero, List.getElem?_cons_succ] at G1 G7 G0 Ga G5 G6 ih ⊢
    rw [X_loop]
    simp only [reduceIte, reduceCtorEq, Nat.reduceAdd, Nat.reduceMul, Nat.reduceSub, Nat.reduceEqDiff, Nat.reduceLT, Nat.reduceLeDiff, Nat.reduceBEq, Int.reduceLT, Int.reduceLE, Int.reduceEq,
    Int.reduceNe, Int.reduceAdd, Int.reduceSub, Int.reduceMul, Int.reduceToNat, push_cast, pairsOk, locGet_set, p2_int, intBin, wrap_u8, zerosA, List.range, List.range.loop, Nat.zero_mod, getT, h0, h1, h6, hv5, hnb, e, hw1, G1, G7, G0, Ga, G5, G6, hq, hr, hne, hd, ne_eq, not_true, not_false_eq_true]
    refine ih _ _ (by omega) (by rw [← ho2]; simp; omega) ?_ ?_ ?_ ?_ ?_ <;> simp only [reduceIte, reduceCtorEq, Nat.reduceAdd, Nat.reduceMul, Nat.reduceSub, Nat.reduceEqDiff, Nat.reduceLT, Nat.reduceLeDiff, Nat.reduceBEq, Int.reduceLT, Int.reduceLE, Int.reduceEq,
    Int.reduceNe, Int.reduceAdd, Int.reduceSub, Int.reduceMul, Int.reduceToNat, push_cast, pairsOk, locGet_set, h0, h1, h6, hv5, hlw, ho, hS', G1, G7, G0, Ga, G5, G6]
theorem f26 (ok : CfgOk (cfg w0 t)) (n k : Nat) (hn : n ≤ 9223372036854775807) (hk : k ≤ 8) (hk0 : 0 < k) (h : H) : acallI (cfg w0 t) 26 [vI n, vI k] h = some (.ret (vS ⟨(encB n k).toArray⟩), h, none) := by
  rw [E26]
  obtain ⟨G, hG⟩ := skol (P := fun a : (Nat → AV) × Option Nat => lwOver a.2 h.length = true ∧ a.1 5 = .val (.slice none 0 0) ∧ a.1 0 = vI n ∧ a.1 1 = vI k ∧ a.1 6 = vI 0)
    (Q := fun a c => acodeI (cfg w0 t) 26 (.loop (lp Try.f26 0)) ⟨fl 33 a.1, [], h, a.2⟩ = some (.exit 0, ⟨fl 33 c.1, [], h ++ [⟨byteCells (encB n k), c.2.2⟩], c.2.1⟩) ∧ c.1 5 = .sl h.length c.2.2 0 (encB n k).length 1 ∧ lwOver c.2.1 h.length = true) (β := (Nat → AV) × Option Nat × Nat) (fun a ha => by
      obtain ⟨F', h', lw', q1, q2, q3⟩ := L26 (w0 := w0) (t := t) h n k hn hk k 0 [] h a.1 a.2 (by omega) (by simp) ha.1 (.inl ⟨rfl, ha.2.1, rfl⟩) ha.2.2.1 ha.2.2.2.1 ha.2.2.2.2
      rw [List.nil_append] at q2
      rcases q2 with ⟨e, _⟩ | ⟨g, e1, rfl⟩
      · have := congrArg List.length e
        rw [encB_length] at this
        simp at this
        omega
      · exact ⟨(F', lw', g), q1, e1, q3⟩)
  have G1 := fun F lw hc => (hG (F, lw) hc).1
  have G2 := fun F lw hc => (hG (F, lw) hc).2.1
  have G3 := fun F lw hc => (hG (F, lw) hc).2.2
  clear hG
  generalize encB n k = out at G1 G2 G3 ⊢
  dsimp only [lp, loopsOf, Try.f26, Option.getD, List.append_eq, List.nil_append, List.cons_append, List.getElem?_cons_zero, List.getElem?_cons_succ] at G1 G2 G3 ⊢
  simp only [reduceIte, reduceCtorEq, Nat.reduceAdd, Nat.reduceMul, Nat.reduceSub, Nat.reduceEqDiff, Nat.reduceLT, Nat.reduceLeDiff, Nat.reduceBEq, Int.reduceLT, Int.reduceLE, Int.reduceEq,
    Int.reduceNe, Int.reduceAdd, Int.reduceSub, Int.reduceMul, Int.reduceToNat, push_cast, pairsOk, locGet_set, p2_int, intBin, G1, G2, G3, top_get, byteCells_length, unb_take]
end Go.Proofs.Ytmglahnoemgieaa.Ax
namespace Go.Proofs.Ytmglahnoemgieaa.Ax
open Go Go.RowKit
set_option linter.unusedSimpArgs false
set_option linter.unusedVariables false
set_option maxHeartbeats 8000000
set_option maxRecDepth 4000
variable {w0 : World} {t : Option Gf}
/-- bytes as a text -/
def bs (l : List UInt8) : ByteArray := ⟨l.toArray⟩
theorem bs_eq (l : List UInt8) : (⟨l.toArray⟩ : ByteArray) = bs l := rfl
theorem bl_bs (l : List UInt8) : bl (bs l) = l := rfl
theorem bs_bl (s : ByteArray) : bs (bl s) = s := rfl
theorem bs_inj {a b : List UInt8} (h : bs a = bs b) : a = b := by rw [← bl_bs a, ← bl_bs b, h]
theorem bs_size (l : List UInt8) : (bs l).size = l.length := List.size_toArray
theorem bl_app (a b : ByteArray) : bl (a ++ b) = bl a ++ bl b := by
  unfold bl
  rw [ByteArray.data_append, Array.toList_append]
theorem bs_app (a b : List UInt8) : bs a ++ bs b = bs (a ++ b) := by
  rw [← bs_bl (bs a ++ bs b), bl_app, bl_bs, bl_bs]
theorem bs_app' (a : List UInt8) (s : ByteArray) : bs a ++ s = bs (a ++ bl s) := by
  rw [← bs_app, bs_bl]
theorem bs_nil : bs [] = ByteArray.empty := rfl
theorem f29 (ok : CfgOk (cfg w0 t)) (s : ByteArray) (hs : s.size ≤ 9223372036854775000) (h : H) : acallI (cfg w0 t) 29 [vS s] h = some (.ret (vS (bs (encS s))), h, none) := by
  rw [E29]
  have e1 := f26 ok s.size 1 (by omega) (by omega) (by omega) h
  rw [show ((1 : Nat) : Int) = 1 from rfl, bs_eq] at e1
  have hsz : (bs (encB s.size 1)).size + s.size ≤ 9223372036854775807 := by
    rw [bs_size, encB_length]; omega
  have he : bs (encS s) = bs (encB s.size 1) ++ s := (bs_app' _ _).symm
  rw [he]
  generalize bs (encB s.size 1) = o1 at e1 hsz
  dsimp only [Try.f29, Option.getD]
  simp only [reduceIte, reduceCtorEq, Nat.reduceAdd, Nat.reduceMul, Nat.reduceSub, Nat.reduceEqDiff, Nat.reduceLT, Nat.reduceLeDiff, Nat.reduceBEq, Int.reduceLT, Int.reduceLE, Int.reduceEq,
    Int.reduceNe, Int.reduceAdd, Int.reduceSub, Int.reduceMul, Int.reduceToNat, push_cast, pairsOk, locGet, locSet, nextGen, e1, len_str Try.underlying9, p2_str, strBin, hsz]
theorem f27 (ok : CfgOk (cfg w0 t)) (bk s : ByteArray) (a c : Nat) (ha : a ≤ 9223372036854775807) (hc : c ≤ 9223372036854775807) (hs : s.size ≤ 9223372036854775000) (h : H) : acallI (cfg w0 t) 27 [.agg [vS bk, vS s, vI a, vI c]] h = some (.ret (vS (bs (encP s a c))), h, none) := by
  rw [E27]
  have e1 := f29 ok s hs h
  have e2 := f26 ok a 1 (by omega) (by omega) (by omega) h
  have e3 := f26 ok c 2 (by omega) (by omega) (by omega) h
  rw [show ((1 : Nat) : Int) = 1 from rfl, bs_eq] at e2
  rw [show ((2 : Nat) : Int) = 2 from rfl, bs_eq] at e3
  have hs1 : (bs (encS s)).size + (bs (encB a 1)).size ≤ 9223372036854775807 := by
    rw [bs_size, bs_size, encB_length, encS_length]; omega
  have hs2 : (bs (encS s) ++ bs (encB a 1)).size + (bs (encB c 2)).size ≤ 9223372036854775807 := by
    rw [bs_app, bs_size, bs_size, encB_length, List.length_append, encB_length, encS_length]; omega
  have he : bs (encP s a c) = bs (encS s) ++ bs (encB a 1) ++ bs (encB c 2) := by
    rw [bs_app, bs_app, encP]
  rw [he]
  generalize bs (encS s) = o1 at e1 hs1 hs2
  generalize bs (encB a 1) = o2 at e2 hs1 hs2
  generalize bs (encB c 2) = o3 at e3 hs2
  dsimp only [Try.f27, Option.getD]
  simp only [reduceIte, reduceCtorEq, Nat.reduceAdd, Nat.reduceMul, Nat.reduceSub, Nat.reduceEqDiff, Nat.reduceLT, Nat.reduceLeDiff, Nat.reduceBEq, Int.reduceLT, Int.reduceLE, Int.reduceEq,
    Int.reduceNe, Int.reduceAdd, Int.reduceSub, Int.reduceMul, Int.reduceToNat, push_cast, pairsOk, locGet, locSet, nextGen, e1, e2, e3, p2_str, strBin, hs1, hs2]
end Go.Proofs.Ytmglahnoemgieaa.Ax
namespace Go.Proofs.Ytmglahnoemgieaa.Ax
open Go Go.RowKit
set_option linter.unusedSimpArgs false
set_option linter.unusedVariables false
set_option maxHeartbeats 8000000
set_option maxRecDepth 4000
variable {w0 : World} {t : Option Gf}
abbrev vQ (n : Nat) : AV := .val (.int .u64 n)
def pw : Nat → Nat
  | 0 => 0
  | m + 1 => 256 ^ m
theorem pw_step (m : Nat) (hm : m ≤ 8) : IntKind.u64.wrap (((256 ^ m : Nat) : Int).tdiv 256) = (pw m : Int) := by
  have key : ∀ m : Fin 9, IntKind.u64.wrap (((256 ^ m.1 : Nat) : Int).tdiv 256) = (pw m.1 : Int) := by decide
  exact key ⟨m, by omega⟩
theorem quo_byte64 (n k : Nat) (hn : n < 18446744073709551616) : IntKind.u64.wrap ((n : Int).tdiv ((256 ^ k : Nat) : Int)) = ((n / 2 ^ (8 * k) : Nat) : Int) := by
  have e : (256 : Nat) ^ k = 2 ^ (8 * k) := by rw [Nat.pow_mul]
  rw [e]
  have e2 : (n : Int).tdiv ((2 ^ (8 * k) : Nat) : Int) = ((n / 2 ^ (8 * k) : Nat) : Int) := by
    rw [Int.ofNat_tdiv]
  have h3 : n / 2 ^ (8 * k) ≤ n := Nat.div_le_self _ _
  rw [e2]
  generalize n / 2 ^ (8 * k) = q at h3
  rw [wrap_u64]
  omega
def R28 (h : H) (e : Nat) (out : List UInt8) (R : Option (Ex × S)) : Prop :=
  ∃ F' loc' g' lw', R = some (.exit e, ⟨fl 81 F', loc', h ++ [⟨byteCells out, g'⟩], lw'⟩) ∧ F' 5 = .sl h.length g' 0 out.length 1 ∧ lwOver lw' h.length = true
theorem L28a (h : H) (n : Nat) (hn : n < 18446744073709551616) : ∀ (m i : Nat) (l : List UInt8) (g : Nat) (F : Nat → AV) (loc : Loc) (lw : Option Nat), i + m = 8 → l.length ≤ 100 + i → lwOver lw h.length = true →
    F 5 = .sl h.length g 0 l.length 1 → F 6 = vQ n → F 7 = vQ (pw m) → F 8 = vI i →
    R28 h 1 (l ++ encB n m) (acodeI (cfg w0 t) 28 (.loop (lp Try.f28 0)) ⟨fl 81 F, loc, h ++ [⟨byteCells l, g⟩], lw⟩) := by
  dsimp only [lp, loopsOf, Try.f28, Option.getD, List.append_eq, List.nil_append, List.cons_append, List.getElem?_cons_zero, List.getElem?_cons_succ]
  intro m
  induction m with
  | zero =>
    intro i l g F loc lw hi hl hlw h5 h6 h7 h8
    have e : ¬ ((i : Int) < 8) := by omega
    rw [X_loop, encB, List.append_nil]
    simp only [reduceIte, reduceCtorEq, Nat.reduceAdd, Nat.reduceMul, Nat.reduceSub, Nat.reduceEqDiff, Nat.reduceLT, Nat.reduceLeDiff, Nat.reduceBEq, Int.reduceLT, Int.reduceLE, Int.reduceEq,
    Int.reduceNe, Int.reduceAdd, Int.reduceSub, Int.reduceMul, Int.reduceToNat, push_cast, pairsOk, locGet_set, p2_int, intBin, h5, h6, h7, h8, e]
    exact ⟨_, _, g, _, rfl, by simp only [reduceIte, reduceCtorEq, Nat.reduceAdd, Nat.reduceMul, Nat.reduceSub, Nat.reduceEqDiff, Nat.reduceLT, Nat.reduceLeDiff, Nat.reduceBEq, Int.reduceLT, Int.reduceLE, Int.reduceEq,
    Int.reduceNe, Int.reduceAdd, Int.reduceSub, Int.reduceMul, Int.reduceToNat, push_cast, pairsOk, locGet_set, h5], hlw⟩
  | succ m ih =>
    intro i l g F loc lw hi hl hlw h5 h6 h7 h8
    have e : (i : Int) < 8 := by omega
    have hw1 : IntKind.i64.wrap ((i : Int) + 1) = ((i + 1 : Nat) : Int) := by rw [wrap_i64] <;> omega
    have hq := quo_byte64 n m hn
    have hr := rem_byte n m
    generalize n / 2 ^ (8 * m) = nq at hq hr
    have hp := pw_step m (by omega)
    have hne : ((256 ^ m : Nat) : Int) ≠ 0 := by
      have : 0 < 256 ^ m := Nat.pow_pos (by decide)
      omega
    replace h7 : F 7 = .val (.int .u64 ((256 ^ m : Nat) : Int)) := h7
    obtain ⟨g', lw', hd, hlw'⟩ := app_top (w0 := w0) (t := t) (call := acallI (cfg w0 t)) (h := h) (l := l) (g := g) (xs := [byteOf n m]) (src := .lit [vU (byteOf n m)] 1) rfl (by simp; omega)
    rw [show l ++ encB n (m + 1) = (l ++ [byteOf n m]) ++ encB n m from by simp [encB]]
    generalize hl2 : l ++ [byteOf n m] = l2 at hd ⊢
    generalize hP : ((256 ^ m : Nat) : Int) = pv at hq hne hp h7
    rw [X_loop]
    simp only [reduceIte, reduceCtorEq, Nat.reduceAdd, Nat.reduceMul, Nat.reduceSub, Nat.reduceEqDiff, Nat.reduceLT, Nat.reduceLeDiff, Nat.reduceBEq, Int.reduceLT, Int.reduceLE, Int.reduceEq,
    Int.reduceNe, Int.reduceAdd, Int.reduceSub, Int.reduceMul, Int.reduceToNat, push_cast, pairsOk, locGet_set, p2_int, intBin, wrap_u8, zerosA, List.range, List.range.loop, Nat.zero_mod, getT, h5, h6, h7, h8, e, hq, hr, hp, hne, hd, hw1, ne_eq, not_true, not_false_eq_true]
    refine ih (i + 1) l2 g' _ _ _ (by omega) (by rw [← hl2, List.length_append]; simp; omega) ?_ ?_ ?_ ?_ ?_ <;> simp only [reduceIte, reduceCtorEq, Nat.reduceAdd, Nat.reduceMul, Nat.reduceSub, Nat.reduceEqDiff, Nat.reduceLT, Nat.reduceLeDiff, Nat.reduceBEq, Int.reduceLT, Int.reduceLE, Int.reduceEq,
    Int.reduceNe, Int.reduceAdd, Int.reduceSub, Int.reduceMul, Int.reduceToNat, push_cast, pairsOk, locGet_set, h5, h6, h8, hlw, hlw']
theorem L28b (h : H) (k n : Int) (s : ByteArray) (hs : s.size ≤ 255) (b : Bool) (f : Int) : ∀ (m i : Nat) (l : List UInt8) (g : Nat) (F : Nat → AV) (loc : Loc) (lw : Option Nat), i + m = s.size → l.length ≤ 100 + i → lwOver lw h.length = true →
    F 1 = .bx 1 1 0 → F 5 = .sl h.length g 0 l.length 1 → F 9 = vI i → locGet loc 1 = some (1, .cells (vV k n s b f)) →
    R28 h 3 (l ++ (bl s).drop i) (acodeI (cfg w0 t) 28 (.loop (lp Try.f28 1)) ⟨fl 81 F, loc, h ++ [⟨byteCells l, g⟩], lw⟩) := by
  dsimp only [lp, loopsOf, Try.f28, Option.getD, List.append_eq, List.nil_append, List.cons_append, List.getElem?_cons_zero, List.getElem?_cons_succ]
  intro m
  induction m with
  | zero =>
    intro i l g F loc lw hi hl hlw h1 h5 h9 hb
    have e : ¬ ((i : Int) < s.size) := by omega
    rw [X_loop, List.drop_eq_nil_of_le (by rw [bl_len]; omega), List.append_nil]
    simp only [reduceIte, reduceCtorEq, Nat.reduceAdd, Nat.reduceMul, Nat.reduceSub, Nat.reduceEqDiff, Nat.reduceLT, Nat.reduceLeDiff, Nat.reduceBEq, Int.reduceLT, Int.reduceLE, Int.reduceEq,
    Int.reduceNe, Int.reduceAdd, Int.reduceSub, Int.reduceMul, Int.reduceToNat, push_cast, pairsOk, locGet_set, p2_int, intBin, len_str Try.underlying9, h1, h5, h9, hb, e]
    exact ⟨_, _, g, _, rfl, by simp only [reduceIte, reduceCtorEq, Nat.reduceAdd, Nat.reduceMul, Nat.reduceSub, Nat.reduceEqDiff, Nat.reduceLT, Nat.reduceLeDiff, Nat.reduceBEq, Int.reduceLT, Int.reduceLE, Int.reduceEq,
    Int.reduceNe, Int.reduceAdd, Int.reduceSub, Int.reduceMul, Int.reduceToNat, push_cast, pairsOk, locGet_set, h5], hlw⟩
  | succ m ih =>
    intro i l g F loc lw hi hl hlw h1 h5 h9 hb
    have e : (i : Int) < s.size := by omega
    have hlt : i < (bl s).length := by rw [bl_len]; omega
    have hby : byteAt s (i : Int) = some (bl s)[i] := by rw [byteAt_nat, List.getElem?_eq_getElem hlt]
    have hdr := List.drop_eq_getElem_cons hlt
    generalize (bl s)[i] = x at hby hdr
    have hw1 : IntKind.i64.wrap ((i : Int) + 1) = ((i + 1 : Nat) : Int) := by rw [wrap_i64] <;> omega
    obtain ⟨g', lw', hd, hlw'⟩ := app_top (w0 := w0) (t := t) (call := acallI (cfg w0 t)) (h := h) (l := l) (g := g) (xs := [x]) (src := .lit [vU x] 1) rfl (by simp; omega)
    rw [hdr, show l ++ x :: (bl s).drop (i + 1) = (l ++ [x]) ++ (bl s).drop (i + 1) from by simp]
    generalize hl2 : l ++ [x] = l2 at hd ⊢
    rw [X_loop]
    simp only [reduceIte, reduceCtorEq, Nat.reduceAdd, Nat.reduceMul, Nat.reduceSub, Nat.reduceEqDiff, Nat.reduceLT, Nat.reduceLeDiff, Nat.reduceBEq, Int.reduceLT, Int.reduceLE, Int.reduceEq,
    Int.reduceNe, Int.reduceAdd, Int.reduceSub, Int.reduceMul, Int.reduceToNat, push_cast, pairsOk, locGet_set, p2_int, intBin, len_str Try.underlying9, p2_index, hby, zerosA, List.range, List.range.loop, Nat.zero_mod, getT, h1, h5, h9, hb, e, hd, hw1]
    refine ih (i + 1) l2 g' _ _ _ (by omega) (by rw [← hl2, List.length_append]; simp; omega) ?_ ?_ ?_ ?_ ?_ <;> simp only [reduceIte, reduceCtorEq, Nat.reduceAdd, Nat.reduceMul, Nat.reduceSub, Nat.reduceEqDiff, Nat.reduceLT, Nat.reduceLeDiff, Nat.reduceBEq, Int.reduceLT, Int.reduceLE, Int.reduceEq,
    Int.reduceNe, Int.reduceAdd, Int.reduceSub, Int.reduceMul, Int.reduceToNat, push_cast, pairsOk, locGet_set, h1, h5, h9, hlw, hlw', hb]
theorem f28 (ok : CfgOk (cfg w0 t)) (k n : Int) (s : ByteArray) (b : Bool) (f : Int) (h : H) : acallI (cfg w0 t) 28 [.agg (vV k n s b f)] h =
    some (.ret (.tup (if vGood k n s b f then [vS (bs (encV (k, n, s, b, f))), vI 0] else [vS .empty, vI 4])), h, none) := by
  rw [E28]
  have k37 := f37 (w0 := w0) (t := t) k n s b f h
  cases hg : vGood k n s b f
  · rw [hg] at k37
    dsimp only [Try.f28, Option.getD]
    simp only [reduceIte, reduceCtorEq, Nat.reduceAdd, Nat.reduceMul, Nat.reduceSub, Nat.reduceEqDiff, Nat.reduceLT, Nat.reduceLeDiff, Nat.reduceBEq, Int.reduceLT, Int.reduceLE, Int.reduceEq,
    Int.reduceNe, Int.reduceAdd, Int.reduceSub, Int.reduceMul, Int.reduceToNat, push_cast, pairsOk, locGet, locSet, nextGen, k37]
  rw [hg] at k37
  by_cases k1 : k = 1
  · subst k1
    obtain ⟨G, hG⟩ := skol (P := fun a : (Nat → AV) × Loc × Option Nat => lwOver a.2.2 h.length = true ∧ a.1 5 = .sl h.length 0 0 1 1 ∧ a.1 6 = vQ (u64 n) ∧ a.1 7 = .val (.int .u64 72057594037927936) ∧ a.1 8 = vI 0)
      (Q := fun a c => acodeI (cfg w0 t) 28 (.loop (lp Try.f28 0)) ⟨fl 81 a.1, a.2.1, h ++ [⟨[.val (.int .u8 (u8 1).toNat)], 0⟩], a.2.2⟩ = some (.exit 1, ⟨fl 81 c.1, c.2.1, h ++ [⟨byteCells ([u8 1] ++ encB (u64 n) 8), c.2.2.1⟩], c.2.2.2⟩) ∧ c.1 5 = .sl h.length c.2.2.1 0 ([u8 1] ++ encB (u64 n) 8).length 1 ∧ lwOver c.2.2.2 h.length = true) (β := (Nat → AV) × Loc × Nat × Option Nat) (fun a ha => by
        obtain ⟨F', loc', h', lw', q1, q2, q3⟩ := L28a (w0 := w0) (t := t) h (u64 n) (u64_lt n) 8 0 [u8 1] 0 a.1 a.2.1 a.2.2 (by omega) (by simp) ha.1 ha.2.1 ha.2.2.1 ha.2.2.2.1 ha.2.2.2.2
        exact ⟨(F', loc', h', lw'), q1, q2, q3⟩)
    have G1 := fun F loc lw hc => (hG (F, loc, lw) hc).1
    have G2 := fun F loc lw hc => (hG (F, loc, lw) hc).2.1
    have G3 := fun F loc lw hc => (hG (F, loc, lw) hc).2.2
    clear hG
    generalize hout : [u8 1] ++ encB (u64 n) 8 = out at G1 G2
    dsimp only [lp, loopsOf, Try.f28, Option.getD, List.append_eq, List.nil_append, List.cons_append, List.getElem?_cons_zero, List.getElem?_cons_succ] at G1 G2 G3 ⊢
    simp only [reduceIte, reduceCtorEq, Nat.reduceAdd, Nat.reduceMul, Nat.reduceSub, Nat.reduceEqDiff, Nat.reduceLT, Nat.reduceLeDiff, Nat.reduceBEq, Int.reduceLT, Int.reduceLE, Int.reduceEq,
    Int.reduceNe, Int.reduceAdd, Int.reduceSub, Int.reduceMul, Int.reduceToNat, push_cast, pairsOk, locGet, locSet, nextGen, k37, p2_int, intBin, wrap_u8, u8_eq, wrap_u64, u64_eq, zerosA, List.range, List.range.loop, Nat.zero_mod, getT, top_get, byteCells_length, unb_take, G1, G2, G3, encV]
    rw [← hout]
    rfl
  by_cases k2 : k = 2
  · subst k2
    have hsz : s.size ≤ 255 := by
      simp only [vGood] at hg
      simp at hg
      exact hg.1.1.2
    obtain ⟨g1, lw1, hd1, ho1⟩ := app_top (w0 := w0) (t := t) (call := acallI (cfg w0 t)) (h := h) (l := [u8 2]) (g := 0) (xs := [u8 s.size]) (src := .lit [vU (u8 s.size)] 1) rfl (by simp)
    generalize ho : [u8 2] ++ [u8 s.size] = o1 at hd1
    simp only [byteCells, List.map_cons, List.map_nil, List.length_cons, List.length_nil, Nat.zero_add] at hd1
    rw [show List.map vU o1 = byteCells o1 from rfl] at hd1
    obtain ⟨G, hG⟩ := skol (P := fun a : (Nat → AV) × Loc × Option Nat => lwOver a.2.2 h.length = true ∧ a.1 1 = .bx 1 1 0 ∧ a.1 5 = .sl h.length g1 0 o1.length 1 ∧ a.1 9 = vI 0 ∧ locGet a.2.1 1 = some (1, .cells (vV 2 n s b f)))
      (Q := fun a c => acodeI (cfg w0 t) 28 (.loop (lp Try.f28 1)) ⟨fl 81 a.1, a.2.1, h ++ [⟨byteCells o1, g1⟩], a.2.2⟩ = some (.exit 3, ⟨fl 81 c.1, c.2.1, h ++ [⟨byteCells (o1 ++ bl s), c.2.2.1⟩], c.2.2.2⟩) ∧ c.1 5 = .sl h.length c.2.2.1 0 (o1 ++ bl s).length 1 ∧ lwOver c.2.2.2 h.length = true) (β := (Nat → AV) × Loc × Nat × Option Nat) (fun a ha => by
        obtain ⟨F', loc', h', lw', q1, q2, q3⟩ := L28b (w0 := w0) (t := t) h 2 n s hsz b f s.size 0 o1 g1 a.1 a.2.1 a.2.2 (by omega) (by rw [← ho]; simp) ha.1 ha.2.1 ha.2.2.1 ha.2.2.2.1 ha.2.2.2.2
        exact ⟨(F', loc', h', lw'), q1, q2, q3⟩)
    have G1 := fun F loc lw hc => (hG (F, loc, lw) hc).1
    have G2 := fun F loc lw hc => (hG (F, loc, lw) hc).2.1
    have G3 := fun F loc lw hc => (hG (F, loc, lw) hc).2.2
    clear hG
    generalize hout : o1 ++ bl s = out at G1 G2
    dsimp only [lp, loopsOf, Try.f28, Option.getD, List.append_eq, List.nil_append, List.cons_append, List.getElem?_cons_zero, List.getElem?_cons_succ] at G1 G2 G3 ⊢
    simp only [reduceIte, reduceCtorEq, Nat.reduceAdd, Nat.reduceMul, Nat.reduceSub, Nat.reduceEqDiff, Nat.reduceLT, Nat.reduceLeDiff, Nat.reduceBEq, Int.reduceLT, Int.reduceLE, Int.reduceEq,
    Int.reduceNe, Int.reduceAdd, Int.reduceSub, Int.reduceMul, Int.reduceToNat, push_cast, pairsOk, locGet, locSet, nextGen, k37, p2_int, intBin, wrap_u8, u8_eq, zerosA, List.range, List.range.loop, Nat.zero_mod, getT, len_str Try.underlying9, hd1, ho1, G1, G2, G3, top_get, byteCells_length, unb_take, encV]
    rw [← hout, ← ho]
    rfl
  by_cases k3 : k = 3
  · subst k3
    obtain ⟨g1, lw1, hd1, ho1⟩ := app_top (w0 := w0) (t := t) (call := acallI (cfg w0 t)) (h := h) (l := [u8 3]) (g := 0) (xs := [u8 (if b then 1 else 0)]) (src := .lit [vU (u8 (if b then 1 else 0))] 1) rfl (by simp)
    generalize hout : [u8 3] ++ [u8 (if b then 1 else 0)] = out at hd1
    simp only [byteCells, List.map_cons, List.map_nil, List.length_cons, List.length_nil, Nat.zero_add] at hd1
    rw [show List.map vU out = byteCells out from rfl] at hd1
    dsimp only [Try.f28, Option.getD]
    have hu0 : ((u8 0).toNat : Int) = 0 := rfl
    have hu1 : ((u8 1).toNat : Int) = 1 := rfl
    cases b <;> simp only [Bool.false_eq_true, reduceIte, vU, hu0, hu1] at hd1 <;>
    simp only [reduceIte, reduceCtorEq, Nat.reduceAdd, Nat.reduceMul, Nat.reduceSub, Nat.reduceEqDiff, Nat.reduceLT, Nat.reduceLeDiff, Nat.reduceBEq, Int.reduceLT, Int.reduceLE, Int.reduceEq,
    Int.reduceNe, Int.reduceAdd, Int.reduceSub, Int.reduceMul, Int.reduceToNat, push_cast, pairsOk, locGet, locSet, nextGen, k37, p2_int, intBin, wrap_u8, u8_eq, zerosA, List.range, List.range.loop, Nat.zero_mod, getT, hd1, ho1, top_get, byteCells_length, unb_take, encV] <;>
    rw [← hout] <;>
    rfl
  by_cases k4 : k = 4
  · subst k4
    obtain ⟨g1, lw1, hd1, ho1⟩ := app_top (w0 := w0) (t := t) (call := acallI (cfg w0 t)) (h := h) (l := [u8 4]) (g := 0) (xs := [u8 f]) (src := .lit [vU (u8 f)] 1) rfl (by simp)
    generalize hout : [u8 4] ++ [u8 f] = out at hd1
    simp only [byteCells, List.map_cons, List.map_nil, List.length_cons, List.length_nil, Nat.zero_add] at hd1
    rw [show List.map vU out = byteCells out from rfl] at hd1
    dsimp only [Try.f28, Option.getD]
    simp only [reduceIte, reduceCtorEq, Nat.reduceAdd, Nat.reduceMul, Nat.reduceSub, Nat.reduceEqDiff, Nat.reduceLT, Nat.reduceLeDiff, Nat.reduceBEq, Int.reduceLT, Int.reduceLE, Int.reduceEq,
    Int.reduceNe, Int.reduceAdd, Int.reduceSub, Int.reduceMul, Int.reduceToNat, push_cast, pairsOk, locGet, locSet, nextGen, k37, p2_int, intBin, wrap_u8, u8_eq, zerosA, List.range, List.range.loop, Nat.zero_mod, getT, hd1, ho1, top_get, byteCells_length, unb_take, encV]
    rw [← hout]
    rfl
  · dsimp only [Try.f28, Option.getD]
    simp only [reduceIte, reduceCtorEq, Nat.reduceAdd, Nat.reduceMul, Nat.reduceSub, Nat.reduceEqDiff, Nat.reduceLT, Nat.reduceLeDiff, Nat.reduceBEq, Int.reduceLT, Int.reduceLE, Int.reduceEq,
    Int.reduceNe, Int.reduceAdd, Int.reduceSub, Int.reduceMul, Int.reduceToNat, push_cast, pairsOk, locGet, locSet, nextGen, k37, hg, p2_int, intBin, wrap_u8, u8_eq, k1, k2, k3, k4, zerosA, List.range, List.range.loop, Nat.zero_mod, getT, top_get, encV, UInt8.ofNat_toNat]
    rfl
end Go.Proofs.Ytmglahnoemgieaa.Ax
namespace Go.Proofs.Ytmglahnoemgieaa.Ax
open Go Go.RowKit
set_option linter.unusedSimpArgs false
set_option linter.unusedVariables false
set_option maxHeartbeats 8000000
set_option maxRecDepth 4000
variable {w0 : World} {t : Option Gf}
theorem f11 (ok : CfgOk (cfg w0 t)) (ack : Bool) (inc seq : Int) (body : ByteArray) (hbd : body.size ≤ 9223372036854775000) (h : H) : acallI (cfg w0 t) 11 [.agg [vB ack, vI inc, vI seq, vS body]] h =
    some (.ret (.tup (if pkGood ack inc seq body then [vS (pkEnc ack inc seq body), vI 0] else [vS .empty, vI 4])), h, none) := by
  rw [E11]
  unfold pkGood
  by_cases a1 : inc < 0
  · have b1 : ¬ (0 ≤ inc) := by omega
    dsimp only [Try.f11, Option.getD]
    simp only [reduceIte, reduceCtorEq, Nat.reduceAdd, Nat.reduceMul, Nat.reduceSub, Nat.reduceEqDiff, Nat.reduceLT, Nat.reduceLeDiff, Nat.reduceBEq, Int.reduceLT, Int.reduceLE, Int.reduceEq,
    Int.reduceNe, Int.reduceAdd, Int.reduceSub, Int.reduceMul, Int.reduceToNat, push_cast, pairsOk, locGet, locSet, nextGen, p2_int, intBin, a1, b1]
  have b1 : 0 ≤ inc := by omega
  by_cases a2 : 9007199254740992 < inc
  · have b2 : ¬ (inc ≤ 9007199254740992) := by omega
    dsimp only [Try.f11, Option.getD]
    simp only [reduceIte, reduceCtorEq, Nat.reduceAdd, Nat.reduceMul, Nat.reduceSub, Nat.reduceEqDiff, Nat.reduceLT, Nat.reduceLeDiff, Nat.reduceBEq, Int.reduceLT, Int.reduceLE, Int.reduceEq,
    Int.reduceNe, Int.reduceAdd, Int.reduceSub, Int.reduceMul, Int.reduceToNat, push_cast, pairsOk, locGet, locSet, nextGen, p2_int, intBin, a1, b1, a2, b2]
  have b2 : inc ≤ 9007199254740992 := by omega
  by_cases a3 : seq < 0
  · have b3 : ¬ (0 ≤ seq) := by omega
    dsimp only [Try.f11, Option.getD]
    simp only [reduceIte, reduceCtorEq, Nat.reduceAdd, Nat.reduceMul, Nat.reduceSub, Nat.reduceEqDiff, Nat.reduceLT, Nat.reduceLeDiff, Nat.reduceBEq, Int.reduceLT, Int.reduceLE, Int.reduceEq,
    Int.reduceNe, Int.reduceAdd, Int.reduceSub, Int.reduceMul, Int.reduceToNat, push_cast, pairsOk, locGet, locSet, nextGen, p2_int, intBin, a1, b1, a2, b2, a3, b3]
  have b3 : 0 ≤ seq := by omega
  by_cases a4 : 9007199254740992 < seq
  · have b4 : ¬ (seq ≤ 9007199254740992) := by omega
    dsimp only [Try.f11, Option.getD]
    simp only [reduceIte, reduceCtorEq, Nat.reduceAdd, Nat.reduceMul, Nat.reduceSub, Nat.reduceEqDiff, Nat.reduceLT, Nat.reduceLeDiff, Nat.reduceBEq, Int.reduceLT, Int.reduceLE, Int.reduceEq,
    Int.reduceNe, Int.reduceAdd, Int.reduceSub, Int.reduceMul, Int.reduceToNat, push_cast, pairsOk, locGet, locSet, nextGen, p2_int, intBin, a1, b1, a2, b2, a3, b3, a4, b4]
  have b4 : seq ≤ 9007199254740992 := by omega
  have e1 := f26 ok inc.toNat 8 (by omega) (by omega) (by omega) h
  have e2 := f26 ok seq.toNat 8 (by omega) (by omega) (by omega) h
  rw [show ((8 : Nat) : Int) = 8 from rfl, bs_eq] at e1 e2
  rw [Int.toNat_of_nonneg b1] at e1
  rw [Int.toNat_of_nonneg b3] at e2
  have henc : pkEnc ack inc seq body = bs [if ack then 1 else 0] ++ bs (encB inc.toNat 8) ++ bs (encB seq.toNat 8) ++ body := by
    unfold pkEnc
    rw [bs_app, bs_app]
    cases ack <;> rfl
  rw [henc]
  have hs0 : ∀ x, (bs [x] : ByteArray).size = 1 := fun _ => rfl
  have hs1 : (bs (encB inc.toNat 8)).size = 8 := by rw [bs_size, encB_length]
  have hs2 : (bs (encB seq.toNat 8)).size = 8 := by rw [bs_size, encB_length]
  generalize bs (encB inc.toNat 8) = o1 at e1 hs1
  generalize bs (encB seq.toNat 8) = o2 at e2 hs2
  have q1 : ∀ x, (bs [x]).size + o1.size ≤ 9223372036854775807 := fun x => by rw [hs0, hs1]; omega
  have q2 : ∀ x, (bs [x] ++ o1).size + o2.size ≤ 9223372036854775807 := fun x => by rw [ByteArray.size_append, hs0, hs1, hs2]; omega
  have q3 : ∀ x, (bs [x] ++ o1 ++ o2).size + body.size ≤ 9223372036854775807 := fun x => by rw [ByteArray.size_append, ByteArray.size_append, hs0, hs1, hs2]; omega
  have l0 : (⟨#[0]⟩ : ByteArray) = bs [0] := rfl
  have l1 : (⟨#[1]⟩ : ByteArray) = bs [1] := rfl
  dsimp only [Try.f11, Option.getD]
  cases ack
  · simp only [reduceIte, reduceCtorEq, Nat.reduceAdd, Nat.reduceMul, Nat.reduceSub, Nat.reduceEqDiff, Nat.reduceLT, Nat.reduceLeDiff, Nat.reduceBEq, Int.reduceLT, Int.reduceLE, Int.reduceEq,
    Int.reduceNe, Int.reduceAdd, Int.reduceSub, Int.reduceMul, Int.reduceToNat, push_cast, pairsOk, locGet, locSet, nextGen, p2_int, intBin, p2_str, strBin, a1, b1, a2, b2, a3, b3, a4, b4, e1, e2, l0, l1, q1, q2, q3]
  · by_cases hb : body = .empty
    · simp only [reduceIte, reduceCtorEq, Nat.reduceAdd, Nat.reduceMul, Nat.reduceSub, Nat.reduceEqDiff, Nat.reduceLT, Nat.reduceLeDiff, Nat.reduceBEq, Int.reduceLT, Int.reduceLE, Int.reduceEq,
    Int.reduceNe, Int.reduceAdd, Int.reduceSub, Int.reduceMul, Int.reduceToNat, push_cast, pairsOk, locGet, locSet, nextGen, p2_int, intBin, p2_str, strBin, a1, b1, a2, b2, a3, b3, a4, b4, e1, e2, l0, l1, q1, q2, q3, hb]
      have q4 : ∀ x, (bs [x] ++ o1 ++ o2).size + ByteArray.empty.size ≤ 9223372036854775807 := fun x => by
        have := q3 x
        rwa [hb] at this
      simp only [reduceIte, reduceCtorEq, Nat.reduceAdd, Nat.reduceMul, Nat.reduceSub, Nat.reduceEqDiff, Nat.reduceLT, Nat.reduceLeDiff, Nat.reduceBEq, Int.reduceLT, Int.reduceLE, Int.reduceEq,
    Int.reduceNe, Int.reduceAdd, Int.reduceSub, Int.reduceMul, Int.reduceToNat, push_cast, pairsOk, locGet, locSet, nextGen, p2_int, intBin, p2_str, strBin, q4]
    · simp only [reduceIte, reduceCtorEq, Nat.reduceAdd, Nat.reduceMul, Nat.reduceSub, Nat.reduceEqDiff, Nat.reduceLT, Nat.reduceLeDiff, Nat.reduceBEq, Int.reduceLT, Int.reduceLE, Int.reduceEq,
    Int.reduceNe, Int.reduceAdd, Int.reduceSub, Int.reduceMul, Int.reduceToNat, push_cast, pairsOk, locGet, locSet, nextGen, p2_int, intBin, p2_str, strBin, a1, b1, a2, b2, a3, b3, a4, b4, e1, e2, l0, l1, q1, q2, q3, hb]
end Go.Proofs.Ytmglahnoemgieaa.Ax

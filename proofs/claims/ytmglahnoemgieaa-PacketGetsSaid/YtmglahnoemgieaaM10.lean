/- What single functions of the program come to: the reader's edges, whole. (And what follows from it, text by text.) -/
import Derived.Test.YtmglahnoemgieaaM9
namespace Go.Proofs.Ytmglahnoemgieaa.Ax
open Go Go.RowKit
set_option linter.unusedSimpArgs false
set_option linter.unusedVariables false
set_option maxHeartbeats 8000000
set_option maxRecDepth 4000
variable {w0 : World} {t : Option Gf}
/-- what a call of a reader comes to that makes memory -/
def RdOutH {α : Type} (h : H) (b : Nat) (s : ByteArray) (v : Option (α × Nat)) (K : α → AV → H → Prop) (r : Option (Out × H × Option Nat)) : Prop := match v with
  | some (x, c) => ∃ av h', r = some (.ret av, rdH h' b s c, some b) ∧ K x av h'
  | none => ∃ h' lw, r = some (.pan brk, h', lw) ∧ lwOver lw b = true
/-- how a panic leaves -/
theorem leave_pan {h0 h : H} {b : Nat} {fr : List AV} {loc : Loc} {lw : Option Nat} (hl : lwOver lw b = true) : ∃ h' lw', leave h0 (.pan brk) ⟨fr, loc, h, lw⟩ = some (.pan brk, h', lw') ∧ lwOver lw' b = true := by
  unfold leave
  rw [if_pos (show noBx (outV (.pan brk)) = true from rfl)]
  split
  · exact ⟨_, _, rfl, rfl⟩
  · refine ⟨_, _, rfl, ?_⟩
    split
    · rfl
    · exact hl
theorem pan_out {c : Cfg} {rs : List ResultVar} {h0 : H} {b : Nat} {body : Option (Ex × S)} (k : ∃ st, body = some (.pan brk, st) ∧ lwOver st.lw b = true) : ∃ h' lw', endR c rs h0 body = some (.pan brk, h', lw') ∧ lwOver lw' b = true := by
  obtain ⟨⟨fr, loc, h, lw⟩, rfl, k2⟩ := k
  rw [er_pan]
  exact leave_pan k2
def KE (h : H) (e : Ed) (av : AV) (h' : H) : Prop := ∃ rv, av = .agg [vS e.sheet, vI e.col, vI e.row, rv] ∧ SlA h rv (plsC e.reads) e.reads.length 4 h'
theorem f61 (h : H) (b : Nat) (s : ByteArray) (a : Nat) (hb : b < h.length) (ha : a ≤ s.size) (hs : s.size ≤ 9223372036854775000) : RdOutH h b s (rdE s a) (KE h) (acallI (cfg w0 t) 61 [.ptr b 0 0] (rdH h b s a)) := by
  rw [E61]
  have e1 := f59 (w0 := w0) (t := t) h b s a hb ha hs
  unfold rdE
  have hnl : ¬ (h.length ≤ b) := by omega
  cases hP : rdP s a with
  | none =>
    rw [hP] at e1
    obtain ⟨c, lw, e1, hlw⟩ := e1
    simp only [Option.bind_none, RdOutH]
    refine pan_out ?_
    dsimp only [Try.f61, Option.getD]
    simp only [reduceIte, reduceCtorEq, Nat.reduceAdd, Nat.reduceMul, Nat.reduceSub, Nat.reduceEqDiff, Nat.reduceLT, Nat.reduceLeDiff, Nat.reduceBEq, Int.reduceLT, Int.reduceLE, Int.reduceEq,
    Int.reduceNe, Int.reduceAdd, Int.reduceSub, Int.reduceMul, Int.reduceToNat, push_cast, pairsOk, locGet, locSet, nextGen, e1, rdH_len]
    exact ⟨_, rfl, hlw⟩
  | some p =>
    obtain ⟨q, c⟩ := p
    rw [hP] at e1
    replace e1 : acallI (cfg w0 t) 59 [.ptr b 0 0] (rdH h b s a) = some (.ret (.tup [vS q.1, .agg [vI q.2.1, vI q.2.2]]), rdH h b s c, some b) := e1
    have hle := rdP_le hP
    have e2 := f45_2 (w0 := w0) (t := t) h b s c hb hle.1 hs
    simp only [Option.bind_some]
    unfold rdN
    by_cases hc : c + 2 ≤ s.size
    · rw [if_pos hc] at e2
      simp only [if_pos hc, Option.bind_some]
      have hn := nAt2 s c hc
      generalize nAt s c 2 = n at e2 hn ⊢
      generalize c + 2 = d at e2 hc ⊢
      have hL := L61 (w0 := w0) (t := t) h b s hb hs n hn (vS q.1) (vI q.2.1) (vI q.2.2) n 0 d [] (.val (.slice none 0 0)) h
      cases hls : rdLs s n d with
      | none =>
        rw [hls] at hL
        obtain ⟨G, hG⟩ := skol (P := fun a' : (Nat → AV) × Loc => locGet a'.2 3 = some (1, .cells [vS q.1, vI q.2.1, vI q.2.2, .val (.slice none 0 0)]) ∧ a'.1 0 = .ptr b 0 0 ∧ a'.1 3 = .bx 3 1 0 ∧ a'.1 13 = vI n ∧ a'.1 14 = vI 0)
          (Q := fun a' c' => acodeI (cfg w0 t) 61 (.loop (lp Try.f61 0)) ⟨fl 34 a'.1, a'.2, rdH h b s d, some b⟩ = some (.pan brk, ⟨c'.1, c'.2.1, c'.2.2.1, c'.2.2.2⟩) ∧ lwOver c'.2.2.2 b = true) (β := List AV × Loc × H × Option Nat) (fun a' ha' => by
            obtain ⟨st, q1, q2⟩ := hL a'.1 a'.2 (by omega) rfl hc (.inl ⟨rfl, rfl, rfl, rfl⟩) ha'.1 ha'.2.1 ha'.2.2.1 ha'.2.2.2.1 ha'.2.2.2.2
            exact ⟨(st.fr, st.loc, st.h, st.lw), q1, q2⟩)
        have G1 := fun F loc hc => (hG (F, loc) hc).1
        have G2 := fun F loc hc => (hG (F, loc) hc).2
        clear hG hL
        simp only [Option.bind_none, RdOutH]
        refine pan_out ?_
        dsimp only [lp, loopsOf, Try.f61, Option.getD, List.append_eq, List.nil_append, List.cons_append, List.getElem?_cons_zero, List.getElem?_cons_succ] at G1 ⊢
        simp only [reduceIte, reduceCtorEq, Nat.reduceAdd, Nat.reduceMul, Nat.reduceSub, Nat.reduceEqDiff, Nat.reduceLT, Nat.reduceLeDiff, Nat.reduceBEq, Int.reduceLT, Int.reduceLE, Int.reduceEq,
    Int.reduceNe, Int.reduceAdd, Int.reduceSub, Int.reduceMul, Int.reduceToNat, push_cast, pairsOk, locGet, locSet, nextGen, e1, e2, lw_same, p2_int, intBin, G1]
        refine ⟨_, rfl, ?_⟩
        exact G2 _ _ (by simp only [reduceIte, reduceCtorEq, Nat.reduceAdd, Nat.reduceMul, Nat.reduceSub, Nat.reduceEqDiff, Nat.reduceLT, Nat.reduceLeDiff, Nat.reduceBEq, Int.reduceLT, Int.reduceLE, Int.reduceEq,
    Int.reduceNe, Int.reduceAdd, Int.reduceSub, Int.reduceMul, Int.reduceToNat, push_cast, pairsOk, locGet, locSet, nextGen])
      | some r =>
        obtain ⟨l, e⟩ := r
        rw [hls] at hL
        obtain ⟨G, hG⟩ := skol (P := fun a' : (Nat → AV) × Loc => locGet a'.2 3 = some (1, .cells [vS q.1, vI q.2.1, vI q.2.2, .val (.slice none 0 0)]) ∧ a'.1 0 = .ptr b 0 0 ∧ a'.1 3 = .bx 3 1 0 ∧ a'.1 13 = vI n ∧ a'.1 14 = vI 0)
          (Q := fun a' c' => acodeI (cfg w0 t) 61 (.loop (lp Try.f61 0)) ⟨fl 34 a'.1, a'.2, rdH h b s d, some b⟩ = some (.exit 0, ⟨fl 34 c'.1, c'.2.1, rdH c'.2.2.2 b s e, some b⟩) ∧ locGet c'.2.1 3 = some (1, .cells [vS q.1, vI q.2.1, vI q.2.2, c'.2.2.1]) ∧ locGet c'.2.1 2 = locGet a'.2 2 ∧ c'.1 2 = a'.1 2 ∧ c'.1 3 = a'.1 3 ∧ noBx c'.2.2.1 = true ∧ oneA c'.2.2.1 = true ∧ SlA h c'.2.2.1 (plsC l) l.length 4 c'.2.2.2) (β := (Nat → AV) × Loc × AV × H) (fun a' ha' => by
            obtain ⟨F', loc', rv, h', q1, q2, q3, q4, q5, q6⟩ := hL a'.1 a'.2 (by omega) rfl hc (.inl ⟨rfl, rfl, rfl, rfl⟩) ha'.1 ha'.2.1 ha'.2.2.1 ha'.2.2.2.1 ha'.2.2.2.2
            rw [List.nil_append] at q2
            exact ⟨(F', loc', rv, h'), q1, q3, q4, q5, q6, q2.nb.1, q2.nb.2, q2⟩)
        have G1 := fun F loc hc => (hG (F, loc) hc).1
        have G3 := fun F loc hc => (hG (F, loc) hc).2.1
        have G4 := fun F loc hc => (hG (F, loc) hc).2.2.1
        have G5 := fun F loc hc => (hG (F, loc) hc).2.2.2.1
        have G6 := fun F loc hc => (hG (F, loc) hc).2.2.2.2.1
        have G7 := fun F loc hc => (hG (F, loc) hc).2.2.2.2.2.1
        have G8 := fun F loc hc => (hG (F, loc) hc).2.2.2.2.2.2.1
        have G9 := fun F loc hc => (hG (F, loc) hc).2.2.2.2.2.2.2
        clear hG hL
        simp only [Option.bind_some, RdOutH, KE]
        dsimp only [lp, loopsOf, Try.f61, Option.getD, List.append_eq, List.nil_append, List.cons_append, List.getElem?_cons_zero, List.getElem?_cons_succ] at G1 ⊢
        simp only [reduceIte, reduceCtorEq, Nat.reduceAdd, Nat.reduceMul, Nat.reduceSub, Nat.reduceEqDiff, Nat.reduceLT, Nat.reduceLeDiff, Nat.reduceBEq, Int.reduceLT, Int.reduceLE, Int.reduceEq,
    Int.reduceNe, Int.reduceAdd, Int.reduceSub, Int.reduceMul, Int.reduceToNat, push_cast, pairsOk, locGet, locSet, nextGen, e1, e2, lw_same, p2_int, intBin, G1, G3, G4, G5, G6, G7, G8, locGet_set, rdH_len, hnl]
        exact ⟨_, _, rfl, _, rfl, G9 _ _ (by simp only [reduceIte, reduceCtorEq, Nat.reduceAdd, Nat.reduceMul, Nat.reduceSub, Nat.reduceEqDiff, Nat.reduceLT, Nat.reduceLeDiff, Nat.reduceBEq, Int.reduceLT, Int.reduceLE, Int.reduceEq,
    Int.reduceNe, Int.reduceAdd, Int.reduceSub, Int.reduceMul, Int.reduceToNat, push_cast, pairsOk, locGet, locSet, nextGen])⟩
    · rw [if_neg hc] at e2
      simp only [if_neg hc, Option.bind_none, RdOutH]
      dsimp only [Try.f61, Option.getD]
      refine pan_out ?_
      simp only [reduceIte, reduceCtorEq, Nat.reduceAdd, Nat.reduceMul, Nat.reduceSub, Nat.reduceEqDiff, Nat.reduceLT, Nat.reduceLeDiff, Nat.reduceBEq, Int.reduceLT, Int.reduceLE, Int.reduceEq,
    Int.reduceNe, Int.reduceAdd, Int.reduceSub, Int.reduceMul, Int.reduceToNat, push_cast, pairsOk, locGet, locSet, nextGen, e1, e2, lw_same]
      exact ⟨_, rfl, by simp [lwOver]⟩
end Go.Proofs.Ytmglahnoemgieaa.Ax
namespace Go.Proofs.Ytmglahnoemgieaa.Ax
open Go Go.RowKit
set_option linter.unusedSimpArgs false
set_option linter.unusedVariables false
set_option maxHeartbeats 8000000
set_option maxRecDepth 4000
variable {w0 : World} {t : Option Gf}
/-- how many bytes stand behind a kind's byte -/
def longS (k : UInt8) (l : List UInt8) : Int × Bool :=
  if k.toNat = 0 then (0, true) else if k.toNat = 1 then (8, true)
  else if k.toNat = 2 then (match l with | [] => (0, false) | c :: _ => (1 + c.toNat, true))
  else if k.toNat = 3 then (1, true) else if k.toNat = 4 then (1, true) else (0, false)
theorem by0 {x : ByteArray} {k : UInt8} {l : List UInt8} (hx : bl x = k :: l) : byteAt x 0 = some k := by
  have := byteAt_nat x 0
  rw [hx] at this
  simpa using this
theorem by1 {x : ByteArray} {k c : UInt8} {l : List UInt8} (hx : bl x = k :: c :: l) : byteAt x 1 = some c := by
  have := byteAt_nat x 1
  rw [hx] at this
  simpa using this
theorem sz_eq {x : ByteArray} {l : List UInt8} (hx : bl x = l) : x.size = l.length := by rw [← hx, bl_len]
theorem wb {k : UInt8} : IntKind.i64.wrap (k.toNat : Int) = (k.toNat : Int) := by
  have := k.toNat_lt
  rw [wrap_i64] <;> omega
theorem wb1 {k : UInt8} {n : Int} (h1 : 0 ≤ n) (h2 : n ≤ 100) : IntKind.i64.wrap (n + (k.toNat : Int)) = n + (k.toNat : Int) := by
  have := k.toNat_lt
  rw [wrap_i64] <;> omega
theorem f71 (x : ByteArray) (k : UInt8) (l : List UInt8) (hx : bl x = k :: l) (h : H) : acallI (cfg w0 t) 71 [vS x] h = some (.ret (.tup [vI (longS k l).1, vB (longS k l).2]), h, none) := by
  rw [E71]
  have h0 := by0 hx
  dsimp only [Try.f71, Option.getD]
  unfold longS
  by_cases k0 : k.toNat = 0
  · have c0 : (k.toNat : Int) = 0 := by omega
    simp only [reduceIte, reduceCtorEq, Nat.reduceAdd, Nat.reduceMul, Nat.reduceSub, Nat.reduceEqDiff, Nat.reduceLT, Nat.reduceLeDiff, Nat.reduceBEq, Int.reduceLT, Int.reduceLE, Int.reduceEq,
    Int.reduceNe, Int.reduceAdd, Int.reduceSub, Int.reduceMul, Int.reduceToNat, push_cast, pairsOk, locGet, locSet, nextGen, p2_int, intBin, p2_index, h0, c0, k0]
  by_cases k1 : k.toNat = 1
  · have c0 : (k.toNat : Int) = 1 := by omega
    simp only [reduceIte, reduceCtorEq, Nat.reduceAdd, Nat.reduceMul, Nat.reduceSub, Nat.reduceEqDiff, Nat.reduceLT, Nat.reduceLeDiff, Nat.reduceBEq, Int.reduceLT, Int.reduceLE, Int.reduceEq,
    Int.reduceNe, Int.reduceAdd, Int.reduceSub, Int.reduceMul, Int.reduceToNat, push_cast, pairsOk, locGet, locSet, nextGen, p2_int, intBin, p2_index, h0, c0, k1]
  by_cases k2 : k.toNat = 2
  · have c0 : (k.toNat : Int) = 2 := by omega
    cases l with
    | nil =>
      have hs := sz_eq hx
      simp only [reduceIte, reduceCtorEq, Nat.reduceAdd, Nat.reduceMul, Nat.reduceSub, Nat.reduceEqDiff, Nat.reduceLT, Nat.reduceLeDiff, Nat.reduceBEq, Int.reduceLT, Int.reduceLE, Int.reduceEq,
    Int.reduceNe, Int.reduceAdd, Int.reduceSub, Int.reduceMul, Int.reduceToNat, push_cast, pairsOk, locGet, locSet, nextGen, p2_int, intBin, p2_index, len_str Try.underlying9, h0, c0, k2, hs]
    | cons c l =>
      have hs : ¬ ((x.size : Int) < 2) := by rw [sz_eq hx]; simp; omega
      have h1 := by1 hx
      simp only [reduceIte, reduceCtorEq, Nat.reduceAdd, Nat.reduceMul, Nat.reduceSub, Nat.reduceEqDiff, Nat.reduceLT, Nat.reduceLeDiff, Nat.reduceBEq, Int.reduceLT, Int.reduceLE, Int.reduceEq,
    Int.reduceNe, Int.reduceAdd, Int.reduceSub, Int.reduceMul, Int.reduceToNat, push_cast, pairsOk, locGet, locSet, nextGen, p2_int, intBin, p2_index, len_str Try.underlying9, h0, h1, c0, k2, hs, wb, wb1]
  by_cases k3 : k.toNat = 3
  · have c0 : (k.toNat : Int) = 3 := by omega
    simp only [reduceIte, reduceCtorEq, Nat.reduceAdd, Nat.reduceMul, Nat.reduceSub, Nat.reduceEqDiff, Nat.reduceLT, Nat.reduceLeDiff, Nat.reduceBEq, Int.reduceLT, Int.reduceLE, Int.reduceEq,
    Int.reduceNe, Int.reduceAdd, Int.reduceSub, Int.reduceMul, Int.reduceToNat, push_cast, pairsOk, locGet, locSet, nextGen, p2_int, intBin, p2_index, h0, c0, k3]
  by_cases k4 : k.toNat = 4
  · have c0 : (k.toNat : Int) = 4 := by omega
    simp only [reduceIte, reduceCtorEq, Nat.reduceAdd, Nat.reduceMul, Nat.reduceSub, Nat.reduceEqDiff, Nat.reduceLT, Nat.reduceLeDiff, Nat.reduceBEq, Int.reduceLT, Int.reduceLE, Int.reduceEq,
    Int.reduceNe, Int.reduceAdd, Int.reduceSub, Int.reduceMul, Int.reduceToNat, push_cast, pairsOk, locGet, locSet, nextGen, p2_int, intBin, p2_index, h0, c0, k4]
  · have c0 : ¬ (k.toNat : Int) = 0 := by omega
    have c1 : ¬ (k.toNat : Int) = 1 := by omega
    have c2 : ¬ (k.toNat : Int) = 2 := by omega
    have c3 : ¬ (k.toNat : Int) = 3 := by omega
    have c4 : ¬ (k.toNat : Int) = 4 := by omega
    simp only [reduceIte, reduceCtorEq, Nat.reduceAdd, Nat.reduceMul, Nat.reduceSub, Nat.reduceEqDiff, Nat.reduceLT, Nat.reduceLeDiff, Nat.reduceBEq, Int.reduceLT, Int.reduceLE, Int.reduceEq,
    Int.reduceNe, Int.reduceAdd, Int.reduceSub, Int.reduceMul, Int.reduceToNat, push_cast, pairsOk, locGet, locSet, nextGen, p2_int, intBin, p2_index, h0, wb, c0, c1, c2, c3, c4, k0, k1, k2, k3, k4]
/-- the value that bytes tell -/
def toldS (k : UInt8) (l : List UInt8) : Val :=
  (k.toNat, if k.toNat = 1 then sI (beN l) else 0, if k.toNat = 2 then bs (l.drop 1) else .empty, if k.toNat = 3 then (match l with | [] => false | c :: _ => decide ((c.toNat : Int) = 1)) else false, if k.toNat = 4 then (match l with | [] => 0 | c :: _ => (c.toNat : Int)) else 0)
def R72 (h : H) (lw : Option Nat) (loc : Loc) (n : Nat) (F : Nat → AV) (R : Option (Ex × S)) : Prop :=
  ∃ F', R = some (.exit 1, ⟨fl 50 F', loc, h, lw⟩) ∧ F' 4 = vQ n ∧ F' 2 = F 2 ∧ F' 3 = F 3
theorem R72.step {h : H} {lw : Option Nat} {loc : Loc} {n : Nat} {F F0 : Nat → AV} {R : Option (Ex × S)} (k : R72 h lw loc n F R) (h2 : F 2 = F0 2) (h3 : F 3 = F0 3) : R72 h lw loc n F0 R := by
  obtain ⟨F', k1, k2, k3, k4⟩ := k
  exact ⟨F', k1, k2, k3.trans h2, k4.trans h3⟩
theorem L72 (h : H) (lw : Option Nat) (loc : Loc) (L : List UInt8) (hL : L.length ≤ 8) : ∀ (m i : Nat) (F : Nat → AV), i + m = L.length →
    F 4 = vQ (beN (L.take i)) → F 17 = .lit (byteCells L) L.length → F 18 = vI L.length → F 19 = vI i →
    R72 h lw loc (beN L) F (acodeI (cfg w0 t) 72 (.loop (lp Try.f72 0)) ⟨fl 50 F, loc, h, lw⟩) := by
  dsimp only [lp, loopsOf, Try.f72, Option.getD, List.append_eq, List.nil_append, List.cons_append, List.getElem?_cons_zero, List.getElem?_cons_succ]
  intro m
  induction m with
  | zero =>
    intro i F hi h5 h11 h12 h13
    have e : ¬ ((i : Int) < L.length) := by omega
    rw [List.take_of_length_le (by omega)] at h5
    rw [X_loop]
    simp only [reduceIte, reduceCtorEq, Nat.reduceAdd, Nat.reduceMul, Nat.reduceSub, Nat.reduceEqDiff, Nat.reduceLT, Nat.reduceLeDiff, Nat.reduceBEq, Int.reduceLT, Int.reduceLE, Int.reduceEq,
    Int.reduceNe, Int.reduceAdd, Int.reduceSub, Int.reduceMul, Int.reduceToNat, push_cast, pairsOk, locGet_set, p2_int, intBin, h5, h11, h12, h13, e]
    exact ⟨_, rfl, by simp only [reduceIte, reduceCtorEq, Nat.reduceAdd, Nat.reduceMul, Nat.reduceSub, Nat.reduceEqDiff, Nat.reduceLT, Nat.reduceLeDiff, Nat.reduceBEq, Int.reduceLT, Int.reduceLE, Int.reduceEq,
    Int.reduceNe, Int.reduceAdd, Int.reduceSub, Int.reduceMul, Int.reduceToNat, push_cast, pairsOk, locGet_set, h5], by simp only [reduceIte, reduceCtorEq, Nat.reduceAdd, Nat.reduceMul, Nat.reduceSub, Nat.reduceEqDiff, Nat.reduceLT, Nat.reduceLeDiff, Nat.reduceBEq, Int.reduceLT, Int.reduceLE, Int.reduceEq,
    Int.reduceNe, Int.reduceAdd, Int.reduceSub, Int.reduceMul, Int.reduceToNat, push_cast, pairsOk, locGet_set], by simp only [reduceIte, reduceCtorEq, Nat.reduceAdd, Nat.reduceMul, Nat.reduceSub, Nat.reduceEqDiff, Nat.reduceLT, Nat.reduceLeDiff, Nat.reduceBEq, Int.reduceLT, Int.reduceLE, Int.reduceEq,
    Int.reduceNe, Int.reduceAdd, Int.reduceSub, Int.reduceMul, Int.reduceToNat, push_cast, pairsOk, locGet_set]⟩
  | succ m ih =>
    intro i F hi h5 h11 h12 h13
    have e : (i : Int) < L.length := by omega
    have hlt : i < L.length := by omega
    have hn : (0 : Int) ≤ i := by omega
    have hdr : List.drop i (byteCells L) = vU L[i] :: List.drop (i + 1) (byteCells L) := by
      have := List.drop_eq_getElem_cons (l := byteCells L) (i := i) (by rw [byteCells_length]; omega)
      rw [this]
      simp [byteCells]
    have htk : beN (L.take (i + 1)) = beN (L.take i) * 256 + L[i].toNat := by
      rw [List.take_succ_eq_append_getElem hlt, beN_snoc]
    have hb := L[i].toNat_lt
    have hlt2 : beN (L.take i) < 72057594037927936 := by
      refine Nat.lt_of_lt_of_le (beN_lt _) ?_
      rw [List.length_take]
      exact Nat.le_trans (Nat.pow_le_pow_right (by decide) (show min i L.length ≤ 7 by omega)) (by decide)
    have hor := or_byte (beN (L.take i)) L[i].toNat hlt2 hb
    have hw1 : IntKind.i64.wrap ((i : Int) + 1) = ((i + 1 : Nat) : Int) := by rw [wrap_i64] <;> omega
    have hwb : IntKind.u64.wrap (L[i].toNat : Int) = (L[i].toNat : Int) := by rw [wrap_u64]; omega
    rw [← htk] at hor
    have hlen1 : 1 ≤ (vU L[i] :: List.drop (i + 1) (byteCells L)).length := by simp
    generalize L[i] = x at hdr hor hwb hlen1
    generalize hN : beN (L.take i) = N at hor h5
    rw [X_loop]
    simp only [Int.cast_ofNat_Int, Int.reduceToNat] at hor
    simp only [reduceIte, reduceCtorEq, Nat.reduceAdd, Nat.reduceMul, Nat.reduceSub, Nat.reduceEqDiff, Nat.reduceLT, Nat.reduceLeDiff, Nat.reduceBEq, Int.reduceLT, Int.reduceLE, Int.reduceEq,
    Int.reduceNe, Int.reduceAdd, Int.reduceSub, Int.reduceMul, Int.reduceToNat, push_cast, pairsOk, locGet_set, p2_int, intBin, idx_lit elemSize_62, h5, h11, h12, h13, hn, e, Nat.mul_one, hdr, hlen1, hwb, hor, hw1]
    refine R72.step (ih (i + 1) _ (by omega) ?_ ?_ ?_ ?_) ?_ ?_ <;> simp only [reduceIte, reduceCtorEq, Nat.reduceAdd, Nat.reduceMul, Nat.reduceSub, Nat.reduceEqDiff, Nat.reduceLT, Nat.reduceLeDiff, Nat.reduceBEq, Int.reduceLT, Int.reduceLE, Int.reduceEq,
    Int.reduceNe, Int.reduceAdd, Int.reduceSub, Int.reduceMul, Int.reduceToNat, push_cast, pairsOk, locGet_set, h11, h12]
theorem cv_72 (x : ByteArray) : convA (cfg w0 t) 72 (some 17) 9 62 (some .string) (some (.slice 5)) (.val (.string x)) = some (.done (.lit (bytesA x) x.size)) := conv_bytes_lit (c := cfg w0 t) Try.underlying5 rfl
theorem bl_from (x : ByteArray) (i : Nat) : bl (x.extract i x.size) = (bl x).drop i := by
  unfold bl
  rw [ByteArray.data_extract, Array.toList_extract, List.extract_eq_take_drop]
  rw [List.take_of_length_le]
  rw [List.length_drop]
  show x.data.toList.length - i ≤ x.size - i
  rw [Array.length_toList]
  exact Nat.le_refl _
theorem f72 (x : ByteArray) (k : UInt8) (l : List UInt8) (hx : bl x = k :: l) (h1 : k.toNat = 1 → l.length = 8) (h2 : k.toNat = 2 ∨ k.toNat = 3 ∨ k.toNat = 4 → l ≠ []) (h : H) :
    acallI (cfg w0 t) 72 [vS x] h = some (.ret (.agg (vV (toldS k l).1 (toldS k l).2.1 (toldS k l).2.2.1 (toldS k l).2.2.2.1 (toldS k l).2.2.2.2)), h, none) := by
  rw [E72]
  have b0 := by0 hx
  have hsz := sz_eq hx
  unfold toldS
  by_cases k1 : k.toNat = 1
  · have c0 : (k.toNat : Int) = 1 := by omega
    have hl := h1 k1
    have hxl : bl (x.extract 1 x.size) = l := by rw [bl_from, hx]; rfl
    have hes : (x.extract 1 x.size).size = 8 := by rw [← bl_len, hxl, hl]
    have hba : bytesA (x.extract 1 x.size) = byteCells l := by rw [bytesA_eq, hxl]
    have hone : (1 : Int) ≤ x.size := by rw [hsz]; simp; omega
    obtain ⟨G, hG⟩ := skol (P := fun a' : (Nat → AV) × Loc => a'.1 4 = .val (.int .u64 0) ∧ a'.1 17 = .lit (byteCells l) 8 ∧ a'.1 18 = vI 8 ∧ a'.1 19 = vI 0)
      (Q := fun a' c => acodeI (cfg w0 t) 72 (.loop (lp Try.f72 0)) ⟨fl 50 a'.1, a'.2, h, none⟩ = some (.exit 1, ⟨fl 50 c, a'.2, h, none⟩) ∧ c 4 = vQ (beN l) ∧ c 2 = a'.1 2 ∧ c 3 = a'.1 3) (β := (Nat → AV)) (fun a' ha' => by
        obtain ⟨F', q1, q2⟩ := L72 (w0 := w0) (t := t) h none a'.2 l (by omega) 8 0 a'.1 (by omega) ha'.1 (by rw [hl]; exact ha'.2.1) (by rw [hl]; exact ha'.2.2.1) ha'.2.2.2
        exact ⟨F', q1, q2⟩)
    have G1 := fun F loc hc => (hG (F, loc) hc).1
    have G2 := fun F loc hc => (hG (F, loc) hc).2.1
    have G3 := fun F loc hc => (hG (F, loc) hc).2.2.1
    have G4 := fun F loc hc => (hG (F, loc) hc).2.2.2
    clear hG
    have hsI : IntKind.i64.wrap (beN l : Int) = sI (beN l) := rfl
    generalize beN l = N at hsI G2 ⊢
    generalize byteCells l = cells at hba G1 G2 G3 G4
    have hsl : p2 Try.prog (.val (.string x)) (.val (.int .i64 1)) (fun a b => Instr.sliceAt 9 a (some b) none none) = some (.done (vS (x.extract 1 x.size))) := sl_str_l Try.underlying9 (by decide) hone
    generalize x.extract 1 x.size = y at hes hba hsl
    dsimp only [lp, loopsOf, Try.f72, Option.getD, List.append_eq, List.nil_append, List.cons_append, List.getElem?_cons_zero, List.getElem?_cons_succ] at G1 G2 G3 G4 ⊢
    simp only [reduceIte, reduceCtorEq, Nat.reduceAdd, Nat.reduceMul, Nat.reduceSub, Nat.reduceEqDiff, Nat.reduceLT, Nat.reduceLeDiff, Nat.reduceBEq, Int.reduceLT, Int.reduceLE, Int.reduceEq,
    Int.reduceNe, Int.reduceAdd, Int.reduceSub, Int.reduceMul, Int.reduceToNat, push_cast, pairsOk, locGet, locSet, nextGen, p2_int, intBin, p2_index, b0, c0, k1, hsl, cv_72, hes, hba, len_lit Try.underlying62, G1, G2, G3, G4, hsI]
  dsimp only [Try.f72, Option.getD]
  by_cases k2 : k.toNat = 2
  · have c0 : (k.toNat : Int) = 2 := by omega
    cases l with
    | nil => exact absurd rfl (h2 (.inl k2))
    | cons c l =>
      have htwo : (2 : Int) ≤ x.size := by rw [hsz]; simp; omega
      have hsl : p2 Try.prog (.val (.string x)) (.val (.int .i64 2)) (fun a b => Instr.sliceAt 9 a (some b) none none) = some (.done (vS (x.extract 2 x.size))) := sl_str_l Try.underlying9 (by decide) htwo
      have hex : x.extract 2 x.size = bs l := by rw [← bs_bl (x.extract 2 x.size), bl_from, hx]; rfl
      rw [hex] at hsl
      simp only [reduceIte, reduceCtorEq, Nat.reduceAdd, Nat.reduceMul, Nat.reduceSub, Nat.reduceEqDiff, Nat.reduceLT, Nat.reduceLeDiff, Nat.reduceBEq, Int.reduceLT, Int.reduceLE, Int.reduceEq,
    Int.reduceNe, Int.reduceAdd, Int.reduceSub, Int.reduceMul, Int.reduceToNat, push_cast, pairsOk, locGet, locSet, nextGen, p2_int, intBin, p2_index, b0, c0, k2, hsl]
  by_cases k3 : k.toNat = 3
  · have c0 : (k.toNat : Int) = 3 := by omega
    cases l with
    | nil => exact absurd rfl (h2 (.inr (.inl k3)))
    | cons c l =>
      have b1 := by1 hx
      simp only [reduceIte, reduceCtorEq, Nat.reduceAdd, Nat.reduceMul, Nat.reduceSub, Nat.reduceEqDiff, Nat.reduceLT, Nat.reduceLeDiff, Nat.reduceBEq, Int.reduceLT, Int.reduceLE, Int.reduceEq,
    Int.reduceNe, Int.reduceAdd, Int.reduceSub, Int.reduceMul, Int.reduceToNat, push_cast, pairsOk, locGet, locSet, nextGen, p2_int, intBin, p2_index, b0, b1, c0, k3]
  by_cases k4 : k.toNat = 4
  · have c0 : (k.toNat : Int) = 4 := by omega
    cases l with
    | nil => exact absurd rfl (h2 (.inr (.inr k4)))
    | cons c l =>
      have b1 := by1 hx
      simp only [reduceIte, reduceCtorEq, Nat.reduceAdd, Nat.reduceMul, Nat.reduceSub, Nat.reduceEqDiff, Nat.reduceLT, Nat.reduceLeDiff, Nat.reduceBEq, Int.reduceLT, Int.reduceLE, Int.reduceEq,
    Int.reduceNe, Int.reduceAdd, Int.reduceSub, Int.reduceMul, Int.reduceToNat, push_cast, pairsOk, locGet, locSet, nextGen, p2_int, intBin, p2_index, b0, b1, c0, k4, wb]
  · have c1 : ¬ (k.toNat : Int) = 1 := by omega
    have c2 : ¬ (k.toNat : Int) = 2 := by omega
    have c3 : ¬ (k.toNat : Int) = 3 := by omega
    have c4 : ¬ (k.toNat : Int) = 4 := by omega
    simp only [reduceIte, reduceCtorEq, Nat.reduceAdd, Nat.reduceMul, Nat.reduceSub, Nat.reduceEqDiff, Nat.reduceLT, Nat.reduceLeDiff, Nat.reduceBEq, Int.reduceLT, Int.reduceLE, Int.reduceEq,
    Int.reduceNe, Int.reduceAdd, Int.reduceSub, Int.reduceMul, Int.reduceToNat, push_cast, pairsOk, locGet, locSet, nextGen, p2_int, intBin, p2_index, b0, wb, c1, c2, c3, c4, k1, k2, k3, k4]
end Go.Proofs.Ytmglahnoemgieaa.Ax
namespace Go.Proofs.Ytmglahnoemgieaa.Ax
open Go Go.RowKit
set_option linter.unusedSimpArgs false
set_option linter.unusedVariables false
set_option maxHeartbeats 8000000
set_option maxRecDepth 4000
variable {w0 : World} {t : Option Gf}
abbrev vOf (v : Val) : AV := .agg (vV v.1 v.2.1 v.2.2.1 v.2.2.2.1 v.2.2.2.2)
theorem longS_nn (k : UInt8) (l : List UInt8) : 0 ≤ (longS k l).1 ∧ (longS k l).1 ≤ 256 := by
  unfold longS
  split
  · decide
  split
  · decide
  split
  · split
    · decide
    · rename_i c _
      have := c.toNat_lt
      simp only
      omega
  split
  · decide
  split <;> decide
/-- the value at a place, as the program tells it -/
def rdV0 (s : ByteArray) (a : Nat) : Option (Val × Nat) := match (bl s).drop a with
  | [] => none
  | k :: l => if (longS k l).2 = true then
      (if l.length < (longS k l).1.toNat then none
       else if valOk (toldS k (l.take (longS k l).1.toNat)) = true ∧ encV (toldS k (l.take (longS k l).1.toNat)) = k :: l.take (longS k l).1.toNat then some (toldS k (l.take (longS k l).1.toNat), a + 1 + (longS k l).1.toNat) else none)
      else none
theorem ext_h (x : ByteArray) (n : Nat) : bl (x.extract 0 n) = (bl x).take n := by
  unfold bl
  rw [ByteArray.data_extract, Array.toList_extract, List.extract_eq_take_drop]
  simp
def vRes : Option (Val × Nat) → List AV
  | some (v, c) => [vOf v, vI c, vI 0]
  | none => [vOf (0, 0, .empty, false, 0), vI 0, vI 4]
theorem f68 (ok : CfgOk (cfg w0 t)) (s : ByteArray) (a : Nat) (ha : a ≤ s.size) (hs : s.size ≤ 9223372036854775000) (h : H) : acallI (cfg w0 t) 68 [vS s, vI a] h =
    some (.ret (.tup (vRes (rdV0 s a))), h, none) := by
  rw [E68]
  have c1 : ¬ ((a : Int) < 0) := by omega
  have c2 : ¬ ((s.size : Int) < a) := by omega
  have hsl : p2 Try.prog (.val (.string s)) (.val (.int .i64 a)) (fun x y => Instr.sliceAt 9 x (some y) none none) = some (.done (vS (s.extract a s.size))) := sl_str_l (k := .i64) (n := (a : Int)) Try.underlying9 (by omega) (by omega)
  have hbx : bl (s.extract a s.size) = (bl s).drop a := bl_from s a
  have hxs : (s.extract a s.size).size = s.size - a := by rw [ext_size]; omega
  generalize s.extract a s.size = x at hsl hbx hxs ⊢
  cases hL : bl x with
  | nil =>
    have hxe : x = .empty := by rw [← bs_bl x, hL]; rfl
    subst hxe
    have hr : rdV0 s a = none := by unfold rdV0; rw [← hbx, hL]
    rw [hr, vRes]
    dsimp only [Try.f68, Option.getD]
    simp only [reduceIte, reduceCtorEq, Nat.reduceAdd, Nat.reduceMul, Nat.reduceSub, Nat.reduceEqDiff, Nat.reduceLT, Nat.reduceLeDiff, Nat.reduceBEq, Int.reduceLT, Int.reduceLE, Int.reduceEq,
    Int.reduceNe, Int.reduceAdd, Int.reduceSub, Int.reduceMul, Int.reduceToNat, push_cast, pairsOk, locGet, locSet, nextGen, p2_int, intBin, p2_str, strBin, len_str Try.underlying9, c1, c2, hsl]
  | cons k l =>
    have hxe : ¬ (x = ByteArray.empty) := by
      rintro rfl
      cases hL
    have hsz : x.size = l.length + 1 := by rw [← bl_len, hL]; rfl
    have e1 := f71 (w0 := w0) (t := t) x k l hL h
    have hnn := longS_nn k l
    have hlw : IntKind.i64.wrap (1 + (longS k l).1) = 1 + (longS k l).1 := by rw [wrap_i64] <;> omega
    cases hok : (longS k l).2
    · rw [hok] at e1
      have hr : rdV0 s a = none := by unfold rdV0; rw [← hbx, hL]; simp [hok]
      rw [hr, vRes]
      dsimp only [Try.f68, Option.getD]
      simp only [reduceIte, reduceCtorEq, Nat.reduceAdd, Nat.reduceMul, Nat.reduceSub, Nat.reduceEqDiff, Nat.reduceLT, Nat.reduceLeDiff, Nat.reduceBEq, Int.reduceLT, Int.reduceLE, Int.reduceEq,
    Int.reduceNe, Int.reduceAdd, Int.reduceSub, Int.reduceMul, Int.reduceToNat, push_cast, pairsOk, locGet, locSet, nextGen, p2_int, intBin, p2_str, strBin, len_str Try.underlying9, c1, c2, hsl, hxe, e1]
    rw [hok] at e1
    have hi := Int.toNat_of_nonneg hnn.1
    generalize hn : (longS k l).1.toNat = n at hi
    rw [← hi] at e1 hlw hnn
    by_cases hlt : l.length < n
    · have c3 : (x.size : Int) ≤ n := by omega
      have hr : rdV0 s a = none := by unfold rdV0; rw [← hbx, hL]; simp only [hok, hn, if_pos hlt, reduceIte]
      rw [hr, vRes]
      dsimp only [Try.f68, Option.getD]
      simp only [reduceIte, reduceCtorEq, Nat.reduceAdd, Nat.reduceMul, Nat.reduceSub, Nat.reduceEqDiff, Nat.reduceLT, Nat.reduceLeDiff, Nat.reduceBEq, Int.reduceLT, Int.reduceLE, Int.reduceEq,
    Int.reduceNe, Int.reduceAdd, Int.reduceSub, Int.reduceMul, Int.reduceToNat, push_cast, pairsOk, locGet, locSet, nextGen, p2_int, intBin, p2_str, strBin, len_str Try.underlying9, c1, c2, hsl, hxe, e1, c3]
    have c3 : ¬ ((x.size : Int) ≤ n) := by omega
    have hs2 : p2 Try.prog (.val (.string x)) (.val (.int .i64 (1 + (n : Int)))) (fun x y => Instr.sliceAt 9 x none (some y) none) = some (.done (vS (x.extract 0 (1 + n)))) := by
      have := sl_str_h (P := Try.prog) (t := 9) (s := x) (k := .i64) (n := 1 + (n : Int)) Try.underlying9 (by omega) (by omega)
      rw [this, show (1 + (n : Int)).toNat = 1 + n from by omega]
    have hy : bl (x.extract 0 (1 + n)) = k :: l.take n := by rw [ext_h, hL, Nat.add_comm, List.take_succ_cons]
    generalize x.extract 0 (1 + n) = y at hs2 hy
    have hfact : (k.toNat = 1 → (l.take n).length = 8) ∧ (k.toNat = 2 ∨ k.toNat = 3 ∨ k.toNat = 4 → l.take n ≠ []) := by
      have hnL : (l.take n).length = n := by rw [List.length_take]; omega
      constructor
      · intro k1
        have : (longS k l).1 = 8 := by unfold longS; simp [k1]
        rw [hnL, ← hn, this]
        rfl
      · intro kk e0
        have h0 : n = 0 := by rw [← hnL, e0]; rfl
        have : 1 ≤ (longS k l).1 := by
          unfold longS at hok ⊢
          rcases kk with kk | kk | kk <;> simp [kk] at hok ⊢
          cases l with
          | nil => simp at hok
          | cons c _ => simp; omega
        omega
    have e2 := f72 (w0 := w0) (t := t) y k (l.take n) hy hfact.1 hfact.2 h
    generalize hv : toldS k (l.take n) = v at e2
    have e3 := f24 ok v.1 v.2.1 v.2.2.1 v.2.2.2.1 v.2.2.2.2 h
    rw [show vGood v.1 v.2.1 v.2.2.1 v.2.2.2.1 v.2.2.2.2 = valOk v from rfl, show (v.1, v.2.1, v.2.2.1, v.2.2.2.1, v.2.2.2.2) = v from rfl] at e3
    have hw2 : IntKind.i64.wrap ((a : Int) + 1) = (a : Int) + 1 := by rw [wrap_i64] <;> omega
    have hw3 : IntKind.i64.wrap ((a : Int) + 1 + (n : Int)) = ((a + 1 + n : Nat) : Int) := by rw [wrap_i64] <;> omega
    have hlt' : ¬ l.length < n := hlt
    have hr0 : rdV0 s a = if valOk v = true ∧ encV v = k :: l.take n then some (v, a + 1 + n) else none := by unfold rdV0; rw [← hbx, hL]; simp only [hok, hn, if_neg hlt, reduceIte, hv]
    rw [hr0]
    cases hg : valOk v
    · rw [hg] at e3
      rw [if_neg (by simp), vRes]
      dsimp only [Try.f68, Option.getD]
      simp only [reduceIte, reduceCtorEq, Nat.reduceAdd, Nat.reduceMul, Nat.reduceSub, Nat.reduceEqDiff, Nat.reduceLT, Nat.reduceLeDiff, Nat.reduceBEq, Int.reduceLT, Int.reduceLE, Int.reduceEq,
    Int.reduceNe, Int.reduceAdd, Int.reduceSub, Int.reduceMul, Int.reduceToNat, push_cast, pairsOk, locGet, locSet, nextGen, p2_int, intBin, p2_str, strBin, len_str Try.underlying9, c1, c2, hsl, hxe, e1, c3, hlw, hs2, e2, e3]
    rw [hg] at e3
    by_cases he : encV v = k :: l.take n
    · have hye : bs (encV v) = y := by rw [he, ← hy, bs_bl]
      rw [if_pos rfl, bs_eq, hye] at e3
      rw [if_pos ⟨rfl, he⟩, vRes]
      dsimp only [Try.f68, Option.getD]
      simp only [reduceIte, reduceCtorEq, Nat.reduceAdd, Nat.reduceMul, Nat.reduceSub, Nat.reduceEqDiff, Nat.reduceLT, Nat.reduceLeDiff, Nat.reduceBEq, Int.reduceLT, Int.reduceLE, Int.reduceEq,
    Int.reduceNe, Int.reduceAdd, Int.reduceSub, Int.reduceMul, Int.reduceToNat, push_cast, pairsOk, locGet, locSet, nextGen, p2_int, intBin, p2_str, strBin, len_str Try.underlying9, c1, c2, hsl, hxe, e1, c3, hlw, hs2, e2, e3, hw2, hw3]
    · have hye : ¬ (bs (encV v) = y) := by
        intro q
        apply he
        rw [← hy, ← q, bl_bs]
      rw [if_pos rfl, bs_eq] at e3
      generalize bs (encV v) = z at e3 hye
      rw [if_neg (fun q => he q.2), vRes]
      dsimp only [Try.f68, Option.getD]
      simp only [reduceIte, reduceCtorEq, Nat.reduceAdd, Nat.reduceMul, Nat.reduceSub, Nat.reduceEqDiff, Nat.reduceLT, Nat.reduceLeDiff, Nat.reduceBEq, Int.reduceLT, Int.reduceLE, Int.reduceEq,
    Int.reduceNe, Int.reduceAdd, Int.reduceSub, Int.reduceMul, Int.reduceToNat, push_cast, pairsOk, locGet, locSet, nextGen, p2_int, intBin, p2_str, strBin, len_str Try.underlying9, c1, c2, hsl, hxe, e1, c3, hlw, hs2, e2, e3, hye]
end Go.Proofs.Ytmglahnoemgieaa.Ax
namespace Go.Proofs.Ytmglahnoemgieaa.Ax
open Go Go.RowKit
set_option linter.unusedSimpArgs false
set_option linter.unusedVariables false
set_option maxHeartbeats 8000000
set_option maxRecDepth 4000
variable {w0 : World} {t : Option Gf}
theorem f60 (ok : CfgOk (cfg w0 t)) (h : H) (b : Nat) (s : ByteArray) (a : Nat) (hb : b < h.length) (ha : a ≤ s.size) (hs : s.size ≤ 9223372036854775000) : RdOut h b s ((rdV0 s a).map fun p => (vOf p.1, p.2)) (acallI (cfg w0 t) 60 [.ptr b 0 0] (rdH h b s a)) := by
  rw [E60]
  have e1 := f68 (w0 := w0) (t := t) ok s a ha hs (rdH h b s a)
  have hg := rdH_get (s := s) (a := a) hb
  have hnl : ¬ (h.length ≤ b) := by omega
  cases hV : rdV0 s a with
  | none =>
    rw [hV, vRes] at e1
    simp only [Option.map_none, RdOut]
    refine ⟨a, none, ?_, rfl⟩
    dsimp only [Try.f60, Option.getD]
    simp only [reduceIte, reduceCtorEq, Nat.reduceAdd, Nat.reduceMul, Nat.reduceSub, Nat.reduceEqDiff, Nat.reduceLT, Nat.reduceLeDiff, Nat.reduceBEq, Int.reduceLT, Int.reduceLE, Int.reduceEq,
    Int.reduceNe, Int.reduceAdd, Int.reduceSub, Int.reduceMul, Int.reduceToNat, push_cast, pairsOk, locGet, locSet, nextGen, p2_int, intBin, hg, e1, rdH_len, a_pan, pan_ifc]
  | some p =>
    obtain ⟨v, c⟩ := p
    rw [hV, vRes] at e1
    simp only [Option.map_some, RdOut]
    dsimp only [Try.f60, Option.getD]
    simp only [reduceIte, reduceCtorEq, Nat.reduceAdd, Nat.reduceMul, Nat.reduceSub, Nat.reduceEqDiff, Nat.reduceLT, Nat.reduceLeDiff, Nat.reduceBEq, Int.reduceLT, Int.reduceLE, Int.reduceEq,
    Int.reduceNe, Int.reduceAdd, Int.reduceSub, Int.reduceMul, Int.reduceToNat, push_cast, pairsOk, locGet, locSet, nextGen, p2_int, intBin, hg, e1, rdH_len, rdH_set, hnl]
end Go.Proofs.Ytmglahnoemgieaa.Ax
namespace Go.Proofs.Ytmglahnoemgieaa.Ax
open Go Go.RowKit
set_option linter.unusedSimpArgs false
set_option linter.unusedVariables false
set_option maxHeartbeats 8000000
set_option maxRecDepth 4000
variable {w0 : World} {t : Option Gf}
/-- edges in a slice of our own, all above a mark, none of them in the slice's own block -/
def EdsI (lo : Nat) (h : H) (l : List Ed) (v : AV) : Prop := (l = [] ∧ v = .val (.slice none 0 0)) ∨ ∃ bE g cells, v = .sl bE g 0 l.length 4 ∧ lo ≤ bE ∧ h[bE]? = some ⟨cells, g⟩ ∧ cells.length = l.length * 4 ∧
  ∀ i e, l[i]? = some e → ∃ rv, (cells.drop (i * 4)).take 4 = [vS e.sheet, vI e.col, vI e.row, rv] ∧ SlR h rv (plsC e.reads) e.reads.length 4 ∧ ∀ b g o n es, rv = .sl b g o n es → lo ≤ b ∧ b ≠ bE
theorem EdsI.edsV {lo : Nat} {h : H} {l : List Ed} {v : AV} (k : EdsI lo h l v) : EdsV h l v := by
  rcases k with ⟨h1, h2⟩ | ⟨bE, g, cells, h1, h2, h3, h4, h5⟩
  · exact .inr ⟨h1, h2⟩
  · refine .inl ⟨bE, g, ⟨cells, g⟩, h1, h3, rfl, h4, fun i e hi => ?_⟩
    obtain ⟨rv, q1, q2, _⟩ := h5 i e hi
    exact ⟨rv, q1, q2⟩
theorem SlR.move {lo : Nat} {h h' : H} {v : AV} {cells : List AV} {n es : Nat} (k : SlR h v cells n es) (hlo : ∀ b g o n es, v = .sl b g o n es → lo ≤ b) (hk : ∀ j, lo ≤ j → j < h.length → h'[j]? = h[j]?) : SlR h' v cells n es := by
  rcases k with ⟨b, g, k, rfl, h1, h2, h3⟩ | ⟨h1, h2⟩
  · exact .inl ⟨b, g, k, rfl, (hk b (hlo _ _ _ _ _ rfl) (List.getElem?_eq_some_iff.1 h1).1).trans h1, h2, h3⟩
  · exact .inr ⟨h1, h2⟩
theorem EdsI.move {lo : Nat} {h h' : H} {l : List Ed} {v : AV} (k : EdsI lo h l v) (hk : ∀ j, lo ≤ j → j < h.length → h'[j]? = h[j]?) : EdsI lo h' l v := by
  rcases k with ⟨h1, h2⟩ | ⟨bE, g, cells, h1, h2, h3, h4, h5⟩
  · exact .inl ⟨h1, h2⟩
  · refine .inr ⟨bE, g, cells, h1, h2, (hk bE h2 (List.getElem?_eq_some_iff.1 h3).1).trans h3, h4, fun i e hi => ?_⟩
    obtain ⟨rv, q1, q2, q3⟩ := h5 i e hi
    exact ⟨rv, q1, q2.move (fun b g o n es e => (q3 b g o n es e).1) hk, q3⟩
theorem EdsI.nb {lo : Nat} {h : H} {l : List Ed} {v : AV} (k : EdsI lo h l v) : noBx v = true ∧ oneA v = true := by
  rcases k with ⟨_, rfl⟩ | ⟨_, _, _, rfl, _⟩ <;> exact ⟨rfl, rfl⟩
theorem cells_at {cells xs : List AV} {n i : Nat} (hc : cells.length = n * 4) (hi : i < n) : ((cells ++ xs).drop (i * 4)).take 4 = (cells.drop (i * 4)).take 4 := by
  rw [List.drop_append_of_le_length (by omega), List.take_append_of_le_length (by rw [List.length_drop]; omega)]
/-- an edge more -/
theorem app_ed {call : CallF} {lo : Nat} {h : H} {l : List Ed} {v : AV} (k : EdsI lo h l v) (e : Ed) (rv : AV) (hS : SlR h rv (plsC e.reads) e.reads.length 4) (hnew : ∀ b g o n es, rv = .sl b g o n es → lo ≤ b ∧ ∀ bE g' n', v = .sl bE g' 0 n' 4 → b ≠ bE) (hlo : lo ≤ h.length) (hn : l.length < 100000) :
    ∃ v' h' lw, doHeap (cfg w0 t) call h (.app 85 v (.lit [vS e.sheet, vI e.col, vI e.row, rv] 1)) = some (.val v' h' lw) ∧ EdsI lo h' (l ++ [e]) v' ∧ lwOver lw lo = true ∧ (∀ j, j < lo → h'[j]? = h[j]?) ∧ h.length ≤ h'.length ∧ noBx v' = true ∧ oneA v' = true := by
  have hone : oneA rv = true := by rcases hS with ⟨_, _, _, rfl, _⟩ | ⟨_, rfl⟩ <;> rfl
  have ho : [vS e.sheet, vI e.col, vI e.row, rv].all oneA = true := by rcases hS with ⟨_, _, _, rfl, _⟩ | ⟨_, rfl⟩ <;> rfl
  have hs : ∀ hh, ((srcCells hh 4 (.lit [vS e.sheet, vI e.col, vI e.row, rv] 1)).orElse fun _ => srcForeign w0 4 (.lit [vS e.sheet, vI e.col, vI e.row, rv] 1)) = some ([vS e.sheet, vI e.col, vI e.row, rv], 1) := by
    intro hh
    simp [srcCells]
  have h1 : ¬ (1 = 0) := by decide
  rcases k with ⟨rfl, rfl⟩ | ⟨bE, g, cells, rfl, h2, h3, h4, h5⟩
  · refine ⟨.sl h.length 0 0 1 4, h ++ [⟨[vS e.sheet, vI e.col, vI e.row, rv], 0⟩], none, ?_, .inr ⟨h.length, 0, _, rfl, hlo, top_get, rfl, ?_⟩, rfl, fun j hj => List.getElem?_append_left (by omega), by simp, rfl, rfl⟩
    · simp only [doHeap, cfg_P, cfg_w0, sizeT_85, hs, ho, room_mono room85 (show 1 ≤ 1000000 by omega), h1]
      rfl
    · intro i e' hi
      cases i with
      | zero =>
        simp at hi
        subst hi
        refine ⟨rv, by simp, hS.move (lo := 0) (fun _ _ _ _ _ _ => Nat.zero_le _) (fun j _ hj => List.getElem?_append_left hj), fun b g o n es q => ⟨(hnew b g o n es q).1, ?_⟩⟩
        subst q
        rcases hS with ⟨b', g', k', q, hb', _⟩ | ⟨_, q⟩
        · cases q
          have := (List.getElem?_eq_some_iff.1 hb').1
          omega
        · cases q
      | succ i => simp at hi
  · have hb := (List.getElem?_eq_some_iff.1 h3).1
    have hroom := room_mono room85 (show l.length + 1 ≤ 1000000 by omega)
    have e1 : List.take (l.length * 4) cells = cells := by rw [← h4, List.take_length]
    have e2 : ¬ ((l.length + 1) * 4 ≤ cells.length) := by omega
    have e3 : l.length * 4 ≤ cells.length := by omega
    have hset : ∀ (x : Blk) j, j ≠ bE → (h.set bE x)[j]? = h[j]? := fun x j hj => List.getElem?_set_ne (by omega)
    refine ⟨.sl bE (g + 1) 0 (l.length + 1) 4, h.set bE ⟨cells ++ [vS e.sheet, vI e.col, vI e.row, rv], g + 1⟩, some bE, ?_, .inr ⟨bE, g + 1, cells ++ [vS e.sheet, vI e.col, vI e.row, rv], by simp, h2, by simp [hb], by simp [h4]; omega, ?_⟩, by simp [lwOver]; omega, fun j hj => hset _ j (by omega), by simp, rfl, rfl⟩
    · simp only [doHeap, cfg_P, cfg_w0, sizeT_85, hs, ho, h3, hroom, h1, Nat.zero_add, e1, e2, e3]
      simp
    · intro i e' hi
      by_cases hl : i < l.length
      · rw [List.getElem?_append_left hl] at hi
        obtain ⟨rv', q1, q2, q3⟩ := h5 i e' hi
        refine ⟨rv', by rw [cells_at h4 hl]; exact q1, ?_, q3⟩
        rcases q2 with ⟨b', g', k', rfl, r1, r2, r3⟩ | ⟨r1, r2⟩
        · exact .inl ⟨b', g', k', rfl, (hset _ b' (q3 _ _ _ _ _ rfl).2).trans r1, r2, r3⟩
        · exact .inr ⟨r1, r2⟩
      · have hil : i = l.length := by
          have := (List.getElem?_eq_some_iff.1 hi).1
          simp at this
          omega
        subst hil
        simp at hi
        subst hi
        have hd : ((cells ++ [vS e.sheet, vI e.col, vI e.row, rv]).drop (l.length * 4)).take 4 = [vS e.sheet, vI e.col, vI e.row, rv] := by
          rw [← h4, List.drop_left]
          rfl
        refine ⟨rv, hd, ?_, fun b g' o n es q => ⟨(hnew b g' o n es q).1, (hnew b g' o n es q).2 bE g l.length rfl⟩⟩
        rcases hS with ⟨b', g', k', rfl, r1, r2, r3⟩ | ⟨r1, r2⟩
        · exact .inl ⟨b', g', k', rfl, (hset _ b' ((hnew _ _ _ _ _ rfl).2 bE g l.length rfl)).trans r1, r2, r3⟩
        · exact .inr ⟨r1, r2⟩
end Go.Proofs.Ytmglahnoemgieaa.Ax
namespace Go.Proofs.Ytmglahnoemgieaa.Ax
open Go Go.RowKit
set_option linter.unusedSimpArgs false
set_option linter.unusedVariables false
set_option maxHeartbeats 8000000
set_option maxRecDepth 4000
variable {w0 : World} {t : Option Gf}
def rdEs (s : ByteArray) : Nat → Nat → Option (List Ed × Nat)
  | 0, a => some ([], a)
  | n + 1, a => (rdE s a).bind fun (p, c) => (rdEs s n c).bind fun (l, d) => some (p :: l, d)
theorem rdLs_le {s : ByteArray} : ∀ {n a : Nat} {l : List Pl} {c : Nat}, a ≤ s.size → rdLs s n a = some (l, c) → c ≤ s.size ∧ a ≤ c ∧ l.length = n ∧ ∀ p ∈ l, p.book.size ≤ 255 ∧ p.sheet.size ≤ 255
  | 0, a, l, c, ha, h => by cases h; exact ⟨ha, Nat.le_refl _, rfl, fun p hp => by cases hp⟩
  | n + 1, a, l, c, ha, h => by
    unfold rdLs at h
    cases h1 : rdL s a with
    | none => rw [h1] at h; cases h
    | some p =>
      obtain ⟨p, c1⟩ := p
      rw [h1, Option.bind_some] at h
      simp only at h
      obtain ⟨bk, c0, q, r1, r2, r3⟩ := rdL_some h1
      have s1 := rdT_le r1
      have s2 := rdP_le r2
      cases h2 : rdLs s n c1 with
      | none => rw [h2] at h; cases h
      | some r =>
        obtain ⟨l2, c2⟩ := r
        rw [h2, Option.bind_some] at h
        cases h
        have ih := rdLs_le s2.1 h2
        refine ⟨ih.1, by omega, by simp [ih.2.2.1], fun p' hp => ?_⟩
        rcases List.mem_cons.1 hp with rfl | hp
        · rw [r3]; exact ⟨s1.2.2.1, s2.2.2⟩
        · exact ih.2.2.2 p' hp
theorem rdE_le {s : ByteArray} {a : Nat} {e : Ed} {c : Nat} (h : rdE s a = some (e, c)) : c ≤ s.size ∧ a < c ∧ e.sheet.size ≤ 255 ∧ e.reads.length < 65536 ∧ ∀ p ∈ e.reads, p.book.size ≤ 255 ∧ p.sheet.size ≤ 255 := by
  unfold rdE at h
  cases h1 : rdP s a with
  | none => rw [h1] at h; cases h
  | some p =>
    obtain ⟨q, c1⟩ := p
    rw [h1, Option.bind_some] at h
    simp only at h
    have s1 := rdP_le h1
    cases h2 : rdN s c1 2 with
    | none => rw [h2] at h; cases h
    | some r =>
      obtain ⟨n, c2⟩ := r
      rw [h2, Option.bind_some] at h
      simp only at h
      have s2 := rdN_some h2
      have hn := nAt2 s c1 s2.1
      cases h3 : rdLs s n c2 with
      | none => rw [h3] at h; cases h
      | some u =>
        obtain ⟨l, c3⟩ := u
        rw [h3, Option.bind_some] at h
        cases h
        have s3 := rdLs_le (by omega) h3
        refine ⟨s3.1, by omega, s1.2.2, ?_, s3.2.2.2⟩
        rw [s3.2.2.1]
        omega
theorem rdEs_le {s : ByteArray} : ∀ {n a : Nat} {l : List Ed} {c : Nat}, a ≤ s.size → rdEs s n a = some (l, c) → c ≤ s.size ∧ a ≤ c ∧ l.length = n ∧ ∀ e ∈ l, edSmall e
  | 0, a, l, c, ha, h => by cases h; exact ⟨ha, Nat.le_refl _, rfl, fun p hp => by cases hp⟩
  | n + 1, a, l, c, ha, h => by
    unfold rdEs at h
    cases h1 : rdE s a with
    | none => rw [h1] at h; cases h
    | some p =>
      obtain ⟨p, c1⟩ := p
      rw [h1, Option.bind_some] at h
      simp only at h
      have s1 := rdE_le h1
      cases h2 : rdEs s n c1 with
      | none => rw [h2] at h; cases h
      | some r =>
        obtain ⟨l2, c2⟩ := r
        rw [h2, Option.bind_some] at h
        cases h
        have ih := rdEs_le s1.1 h2
        refine ⟨ih.1, by omega, by simp [ih.2.2.1], fun p' hp => ?_⟩
        rcases List.mem_cons.1 hp with rfl | hp
        · refine ⟨fun q hq => ?_, by omega, by omega⟩
          have := s1.2.2.2.2 q hq
          exact ⟨by omega, by omega⟩
        · exact ih.2.2.2 p' hp
theorem rdH_other {h : H} {b : Nat} {s : ByteArray} {a j : Nat} (hj : j ≠ b) : (rdH h b s a)[j]? = h[j]? := by
  unfold rdH
  exact List.getElem?_set_ne (by omega)
theorem rdH_self {h : H} {b : Nat} {s : ByteArray} {a : Nat} (hg : h[b]? = some ⟨[vS s, vI a], 0⟩) : rdH h b s a = h := by
  unfold rdH
  obtain ⟨hb, e⟩ := List.getElem?_eq_some_iff.1 hg
  rw [← e, List.set_getElem_self]
def R40 (lo b : Nat) (s : ByteArray) (acc : List Ed) (cs : AV → List AV) (loc0 : Loc) (F : Nat → AV) (v : Option (List Ed × Nat)) (R : Option (Ex × S)) : Prop := match v with
  | some (l, c) => ∃ F' loc' xs h', R = some (.exit 1, ⟨fl 72 F', loc', rdH h' b s c, some b⟩) ∧ b < h'.length ∧ EdsI lo (rdH h' b s c) (acc ++ l) xs ∧ locGet loc' 3 = some (1, .cells (cs xs)) ∧ locGet loc' 2 = locGet loc0 2 ∧ F' 0 = F 0 ∧ F' 2 = F 2 ∧ F' 3 = F 3
  | none => ∃ st, R = some (.pan brk, st) ∧ lwOver st.lw b = true
theorem R40.step {lo b : Nat} {s : ByteArray} {acc : List Ed} {p : Ed} {cs : AV → List AV} {loc0 loc : Loc} {F0 F : Nat → AV} {v : Option (List Ed × Nat)} {R : Option (Ex × S)} (k : R40 lo b s (acc ++ [p]) cs loc F v R) (h1 : locGet loc 2 = locGet loc0 2) (h0 : F 0 = F0 0) (h2 : F 2 = F0 2) (h3 : F 3 = F0 3) :
    R40 lo b s acc cs loc0 F0 (v.bind fun q => some (p :: q.1, q.2)) R := by
  cases v with
  | none => exact k
  | some q =>
    obtain ⟨F', loc', rv, h', k1, k2, k3, k4, k5, k6, k7, k8⟩ := k
    rw [List.append_assoc, List.singleton_append] at k3
    exact ⟨F', loc', rv, h', k1, k2, k3, k4, k5.trans h1, k6.trans h0, k7.trans h2, k8.trans h3⟩
theorem L40 (lo b : Nat) (hb : b < lo) (s : ByteArray) (hs : s.size ≤ 9223372036854775000) (n : Nat) (hn6 : n < 65536) (c0 c1 c2 c3 c4 c5 c6 c7 c8 c9 c10 : AV) : ∀ (m i a : Nat) (acc : List Ed) (xs : AV) (h1 : H) (F : Nat → AV) (loc : Loc), i + m = n → acc.length = i → a ≤ s.size → lo ≤ h1.length →
    EdsI lo (rdH h1 b s a) acc xs → locGet loc 3 = some (1, .cells [c0, c1, c2, c3, c4, c5, c6, c7, c8, c9, c10, xs]) → F 0 = .ptr b 0 0 → F 3 = .bx 3 1 0 → F 43 = vI n → F 44 = vI i →
    R40 lo b s acc (fun xs => [c0, c1, c2, c3, c4, c5, c6, c7, c8, c9, c10, xs]) loc F (rdEs s m a) (acodeI (cfg w0 t) 40 (.loop (lp Try.f40 0)) ⟨fl 72 F, loc, rdH h1 b s a, some b⟩) := by
  dsimp only [lp, loopsOf, Try.f40, Option.getD, List.append_eq, List.nil_append, List.cons_append, List.getElem?_cons_zero, List.getElem?_cons_succ]
  intro m
  induction m with
  | zero =>
    intro i a acc xs h1 F loc hi hacc ha hlo hI hl h0 h3 h43 h44
    have e : ¬ ((i : Int) < n) := by omega
    rw [X_loop]
    simp only [reduceIte, reduceCtorEq, Nat.reduceAdd, Nat.reduceMul, Nat.reduceSub, Nat.reduceEqDiff, Nat.reduceLT, Nat.reduceLeDiff, Nat.reduceBEq, Int.reduceLT, Int.reduceLE, Int.reduceEq,
    Int.reduceNe, Int.reduceAdd, Int.reduceSub, Int.reduceMul, Int.reduceToNat, push_cast, pairsOk, locGet_set, p2_int, intBin, h0, h3, h43, h44, e, R40, rdEs]
    exact ⟨_, _, xs, h1, rfl, by omega, hI, hl, rfl, by simp only [reduceIte, reduceCtorEq, Nat.reduceAdd, Nat.reduceMul, Nat.reduceSub, Nat.reduceEqDiff, Nat.reduceLT, Nat.reduceLeDiff, Nat.reduceBEq, Int.reduceLT, Int.reduceLE, Int.reduceEq,
    Int.reduceNe, Int.reduceAdd, Int.reduceSub, Int.reduceMul, Int.reduceToNat, push_cast, pairsOk, locGet_set, h0], by simp only [reduceIte, reduceCtorEq, Nat.reduceAdd, Nat.reduceMul, Nat.reduceSub, Nat.reduceEqDiff, Nat.reduceLT, Nat.reduceLeDiff, Nat.reduceBEq, Int.reduceLT, Int.reduceLE, Int.reduceEq,
    Int.reduceNe, Int.reduceAdd, Int.reduceSub, Int.reduceMul, Int.reduceToNat, push_cast, pairsOk, locGet_set], by simp only [reduceIte, reduceCtorEq, Nat.reduceAdd, Nat.reduceMul, Nat.reduceSub, Nat.reduceEqDiff, Nat.reduceLT, Nat.reduceLeDiff, Nat.reduceBEq, Int.reduceLT, Int.reduceLE, Int.reduceEq,
    Int.reduceNe, Int.reduceAdd, Int.reduceSub, Int.reduceMul, Int.reduceToNat, push_cast, pairsOk, locGet_set, h3]⟩
  | succ m ih =>
    intro i a acc xs h1 F loc hi hacc ha hlo hI hl h0 h3 h43 h44
    have e : (i : Int) < n := by omega
    have hw : IntKind.i64.wrap ((i : Int) + 1) = ((i + 1 : Nat) : Int) := by rw [wrap_i64] <;> omega
    have e1 := f61 (w0 := w0) (t := t) h1 b s a (by omega) ha hs
    have hnb := hI.nb
    unfold rdEs
    cases hE : rdE s a with
    | none =>
      rw [hE] at e1
      obtain ⟨hh, lw1, e1, hlw1⟩ := e1
      rw [X_loop]
      simp only [reduceIte, reduceCtorEq, Nat.reduceAdd, Nat.reduceMul, Nat.reduceSub, Nat.reduceEqDiff, Nat.reduceLT, Nat.reduceLeDiff, Nat.reduceBEq, Int.reduceLT, Int.reduceLE, Int.reduceEq,
    Int.reduceNe, Int.reduceAdd, Int.reduceSub, Int.reduceMul, Int.reduceToNat, push_cast, pairsOk, locGet_set, p2_int, intBin, h0, h3, h43, h44, e, hl, hnb.1, hnb.2, e1, R40, Option.bind_none]
      exact ⟨_, rfl, by simp only [lwOver_min, lwo_some, hlw1, Nat.le_refl, decide_true, Bool.and_self]⟩
    | some p =>
      obtain ⟨p, c⟩ := p
      rw [hE] at e1
      obtain ⟨av, h', e1, rv, rfl, hS⟩ := e1
      have hle := rdE_le hE
      obtain ⟨ex, hex⟩ := hS.le
      have hmove : ∀ j, lo ≤ j → j < (rdH h1 b s a).length → (rdH h' b s c)[j]? = (rdH h1 b s a)[j]? := by
        intro j hj hj2
        rw [rdH_len] at hj2
        rw [rdH_other (by omega), rdH_other (by omega), hex, List.getElem?_append_left hj2]
      have hI' := hI.move hmove
      have hlen' : h1.length ≤ h'.length := by rw [hex]; simp
      have hblk : ∀ b2 g o n2 es, rv = .sl b2 g o n2 es → b2 = h1.length := by
        intro b2 g o n2 es q
        rcases hS with ⟨_, _, q2, _⟩ | ⟨_, q2, _⟩
        · rw [q2] at q; cases q
        · rw [q2] at q; cases q; rfl
      have hS2 : SlR (rdH h' b s c) rv (plsC p.reads) p.reads.length 4 := hS.slR.move (lo := lo) (fun b2 g o n2 es q => by rw [hblk b2 g o n2 es q]; exact hlo) (fun j hj _ => rdH_other (by omega))
      have hnew : ∀ b2 g o n2 es, rv = .sl b2 g o n2 es → lo ≤ b2 ∧ ∀ bE g' n', xs = .sl bE g' 0 n' 4 → b2 ≠ bE := by
        intro b2 g o n2 es q
        rw [hblk b2 g o n2 es q]
        refine ⟨hlo, fun bE g' n' q2 => ?_⟩
        rcases hI with ⟨_, q3⟩ | ⟨bE', g2, cells, q3, _, q4, _⟩
        · rw [q3] at q2; cases q2
        · rw [q3] at q2
          cases q2
          have := (List.getElem?_eq_some_iff.1 q4).1
          rw [rdH_len] at this
          omega
      obtain ⟨xs2, hh2, lw2, hd, hI2, hlw2, hkeep, hlen2, hnb2⟩ := app_ed (w0 := w0) (t := t) (call := acallI (cfg w0 t)) hI' p rv hS2 hnew (by rw [rdH_len]; omega) (by omega)
      rw [rdH_len] at hlen2
      have hself : rdH hh2 b s c = hh2 := rdH_self ((hkeep b hb).trans (rdH_get (by omega)))
      rw [← hself] at hI2
      replace hd : doHeap (cfg w0 t) (acallI (cfg w0 t)) (rdH h' b s c) (.app 85 xs (.lit [vS p.sheet, vI p.col, vI p.row, rv] 1)) = some (.val xs2 (rdH hh2 b s c) lw2) := by rw [hself]; exact hd
      have hlw4 : lwOver lw2 b = true := by
        cases lw2 with
        | none => rfl
        | some x => simp [lwOver] at hlw2 ⊢; omega
      have hlw5 := lw_minb hlw4
      have hnb3 : noBx rv = true ∧ oneA rv = true := hS.nb
      simp only [Option.bind_some]
      have ih := ih (i + 1) c (acc ++ [p]) xs2 hh2
      rw [X_loop]
      simp only [reduceIte, reduceCtorEq, Nat.reduceAdd, Nat.reduceMul, Nat.reduceSub, Nat.reduceEqDiff, Nat.reduceLT, Nat.reduceLeDiff, Nat.reduceBEq, Int.reduceLT, Int.reduceLE, Int.reduceEq,
    Int.reduceNe, Int.reduceAdd, Int.reduceSub, Int.reduceMul, Int.reduceToNat, push_cast, pairsOk, locGet_set, p2_int, intBin, zerosA, List.range, List.range.loop, Nat.zero_mod, getT, h0, h3, h43, h44, e, hl, hnb.1, hnb.2, hnb3.1, hnb3.2, e1, hd, hnb2.1, hnb2.2, c_one hnb2.2, hw, lw_same, hlw5]
      refine R40.step (ih _ _ (by omega) (by simp; omega) hle.1 (by omega) hI2 ?_ ?_ ?_ ?_ ?_) ?_ ?_ ?_ ?_ <;> simp only [reduceIte, reduceCtorEq, Nat.reduceAdd, Nat.reduceMul, Nat.reduceSub, Nat.reduceEqDiff, Nat.reduceLT, Nat.reduceLeDiff, Nat.reduceBEq, Int.reduceLT, Int.reduceLE, Int.reduceEq,
    Int.reduceNe, Int.reduceAdd, Int.reduceSub, Int.reduceMul, Int.reduceToNat, push_cast, pairsOk, locGet_set, h0, h3, h43, h44, hl, hnb2.1, hnb2.2]
end Go.Proofs.Ytmglahnoemgieaa.Ax
namespace Go.Proofs.Ytmglahnoemgieaa.Ax
open Go Go.RowKit
set_option linter.unusedSimpArgs false
set_option linter.unusedVariables false
set_option maxHeartbeats 8000000
set_option maxRecDepth 4000
variable {w0 : World} {t : Option Gf}
abbrev zV : Val := (0, 0, .empty, false, 0)
/-- the message that bytes begin with; c8: how a long number is taken -/
def rdM (c8 : Nat → Int) (s : ByteArray) : Option (Msg × Nat) := (rdN s 0 1).bind fun (k, a) => (rdN s a 8).bind fun (tk, b) =>
  if k = 0 ∨ k = 1 then (rdP s b).bind fun (q, c) => some (⟨k, c8 tk, q.1, q.2.1, q.2.2, 0, zV, []⟩, c)
  else if k = 2 then (rdP s b).bind fun (q, c) => (rdN s c 8).bind fun (v, d) => (rdV0 s d).bind fun (x, e) => some (⟨k, c8 tk, q.1, q.2.1, q.2.2, c8 v, x, []⟩, e)
  else if k = 3 then (rdN s b 8).bind fun (v, c) => (rdN s c 2).bind fun (n, d) => (rdEs s n d).bind fun (l, e) => some (⟨k, c8 tk, .empty, 0, 0, c8 v, zV, l⟩, e)
  else some (⟨k, c8 tk, .empty, 0, 0, 0, zV, []⟩, b)
/-- the message that bytes are -/
def getM (s : ByteArray) : Option Msg := (rdM sI s).bind fun (m, c) => if c = s.size ∧ msgGood m = true then some m else none
theorem f45_8 (h : H) (b : Nat) (s : ByteArray) (a : Nat) (hb : b < h.length) (ha : a ≤ s.size) (hs : s.size ≤ 9223372036854775000) :
    acallI (cfg w0 t) 45 [.ptr b 0 0, vI 8] (rdH h b s a) = if a + 8 ≤ s.size then some (.ret (vI (sI (nAt s a 8))), rdH h b s (a + 8), some b) else some (.pan brk, rdH h b s a, none) := by
  have := f45 (w0 := w0) (t := t) h b s a 8 hb ha hs (by omega)
  rw [show ((8 : Nat) : Int) = 8 from rfl] at this
  rw [this]
theorem rdV0_le {s : ByteArray} {a : Nat} {v : Val} {c : Nat} (h : rdV0 s a = some (v, c)) : c ≤ s.size ∧ v.2.2.1.size ≤ 1000 := by
  unfold rdV0 at h
  split at h
  · cases h
  · rename_i k l hd
    have hl : (bl s).length - a = l.length + 1 := by rw [← List.length_drop, hd]; rfl
    rw [bl_len] at hl
    split at h
    · split at h
      · cases h
      · rename_i hlt
        split at h
        · rename_i hg
          cases h
          refine ⟨by omega, ?_⟩
          have := hg.1
          generalize toldS k _ = v at this
          unfold valOk vGood at this
          split at this
          · simp at this; simp [this]
          split at this
          · simp at this; simp [this]
          split at this
          · simp at this; omega
          split at this
          · simp at this; simp [this]
          split at this
          · simp at this; simp [this]
          · cases this
        · cases h
    · cases h
def MOut (lo : Nat) (s : ByteArray) (b : Nat) (v : Option Msg) (r : Option (Out × H × Option Nat)) : Prop := match v with
  | some m => ∃ xs h', r = some (.ret (.agg (vM m.kind m.ticket m.sheet m.col m.row m.ver m.v xs)), h', some b) ∧ EdsI lo h' m.edges xs
  | none => ∃ h' lw, r = some (.pan brk, h', lw) ∧ lwOver lw b = true
theorem f40 (ok : CfgOk (cfg w0 t)) (h : H) (b : Nat) (s : ByteArray) (hb : b < h.length) (hs : s.size ≤ 9223372036854775000) : MOut h.length s b (getM s) (acallI (cfg w0 t) 40 [.ptr b 0 0] (rdH h b s 0)) := by
  rw [E40]
  have hnl : ¬ (h.length ≤ b) := by omega
  have e0 := f45_1 (w0 := w0) (t := t) h b s 0 hb (Nat.zero_le _) hs
  unfold getM rdM rdN
  by_cases q0 : 0 + 1 ≤ s.size
  rotate_left
  · rw [if_neg q0] at e0
    simp only [if_neg q0, Option.bind_none, MOut]
    refine pan_out ?_
    dsimp only [Try.f40, Option.getD]
    simp only [reduceIte, reduceCtorEq, Nat.reduceAdd, Nat.reduceMul, Nat.reduceSub, Nat.reduceEqDiff, Nat.reduceLT, Nat.reduceLeDiff, Nat.reduceBEq, Int.reduceLT, Int.reduceLE, Int.reduceEq,
    Int.reduceNe, Int.reduceAdd, Int.reduceSub, Int.reduceMul, Int.reduceToNat, push_cast, pairsOk, locGet, locSet, nextGen, e0]
    exact ⟨_, rfl, rfl⟩
  rw [if_pos q0] at e0
  have e1 := f45_8 (w0 := w0) (t := t) h b s (0 + 1) hb q0 hs
  simp only [if_pos q0, Option.bind_some]
  generalize hk : nAt s 0 1 = k at e0 ⊢
  by_cases q1 : 0 + 1 + 8 ≤ s.size
  rotate_left
  · rw [if_neg q1] at e1
    simp only [if_neg q1, Option.bind_none, MOut]
    refine pan_out ?_
    dsimp only [Try.f40, Option.getD]
    generalize 0 + 1 = a1 at e0 e1
    simp only [reduceIte, reduceCtorEq, Nat.reduceAdd, Nat.reduceMul, Nat.reduceSub, Nat.reduceEqDiff, Nat.reduceLT, Nat.reduceLeDiff, Nat.reduceBEq, Int.reduceLT, Int.reduceLE, Int.reduceEq,
    Int.reduceNe, Int.reduceAdd, Int.reduceSub, Int.reduceMul, Int.reduceToNat, push_cast, pairsOk, locGet, locSet, nextGen, e0, e1]
    exact ⟨_, rfl, by simp [lwOver]⟩
  rw [if_pos q1] at e1
  simp only [if_pos q1, Option.bind_some]
  generalize hc9 : 0 + 1 + 8 = a9 at e1 q1 ⊢
  generalize 0 + 1 = a1 at e0 e1 ⊢
  generalize nAt s a1 8 = tk at e1 ⊢
  have f13' := fun (m : Msg) (hsm : msgSmall m) (hm : m.edges = []) (h' : H) => f13 (w0 := w0) (t := t) m hsm (.val (.slice none 0 0)) h' (.inr ⟨hm, rfl⟩)
  have hg9 := fun c : Nat => rdH_get (h := h) (b := b) (s := s) (a := c) hb
  by_cases k01 : k = 0 ∨ k = 1
  · simp only [if_pos k01]
    have e2 := f59 (w0 := w0) (t := t) h b s a9 hb q1 hs
    cases hP : rdP s a9 with
    | none =>
      rw [hP] at e2
      obtain ⟨c, lw, e2, hlw⟩ := e2
      simp only [Option.bind_none, MOut]
      refine pan_out ?_
      dsimp only [Try.f40, Option.getD]
      rcases k01 with rfl | rfl <;>
      simp only [reduceIte, reduceCtorEq, Nat.reduceAdd, Nat.reduceMul, Nat.reduceSub, Nat.reduceEqDiff, Nat.reduceLT, Nat.reduceLeDiff, Nat.reduceBEq, Int.reduceLT, Int.reduceLE, Int.reduceEq,
    Int.reduceNe, Int.reduceAdd, Int.reduceSub, Int.reduceMul, Int.reduceToNat, push_cast, pairsOk, locGet, locSet, nextGen, e0, e1, e2, lw_same, p2_int, intBin] <;>
      exact ⟨_, rfl, by simp only [lwOver_min, lwo_some, hlw, Nat.le_refl, decide_true, Bool.and_self]⟩
    | some p =>
      obtain ⟨q, c⟩ := p
      rw [hP] at e2
      replace e2 : acallI (cfg w0 t) 59 [.ptr b 0 0] (rdH h b s a9) = some (.ret (.tup [vS q.1, .agg [vI q.2.1, vI q.2.2]]), rdH h b s c, some b) := e2
      have hle := rdP_le hP
      have e3 := f13' ⟨k, sI tk, q.1, q.2.1, q.2.2, 0, zV, []⟩ ⟨by simp only; omega, fun e he => (by cases he), by simp⟩ rfl (rdH h b s c)
      simp only [Option.bind_some]
      generalize hm : (⟨k, sI tk, q.1, q.2.1, q.2.2, 0, zV, []⟩ : Msg) = m at e3 ⊢
      by_cases hcs : c = s.size
      · have hlt : ¬ ((c : Int) < s.size) := by omega
        cases hgood : msgGood m
        · rw [hgood] at e3
          rw [if_neg (by simp)]
          subst hm
          simp only [MOut]
          refine pan_out ?_
          dsimp only [Try.f40, Option.getD]
          rcases k01 with rfl | rfl <;>
          simp only [Int.cast_ofNat_Int] at e0 e3 <;>
          simp only [reduceIte, reduceCtorEq, Nat.reduceAdd, Nat.reduceMul, Nat.reduceSub, Nat.reduceEqDiff, Nat.reduceLT, Nat.reduceLeDiff, Nat.reduceBEq, Int.reduceLT, Int.reduceLE, Int.reduceEq,
    Int.reduceNe, Int.reduceAdd, Int.reduceSub, Int.reduceMul, Int.reduceToNat, push_cast, pairsOk, locGet, locSet, nextGen, e0, e1, e2, e3, lw_same, len_str Try.underlying9, p2_int, intBin, hg9, hlt, a_pan, pan_ifc] <;>
          exact ⟨_, rfl, by simp [lwOver]⟩
        · rw [hgood] at e3
          rw [if_pos ⟨hcs, rfl⟩]
          subst hm
          simp only [MOut]
          refine ⟨.val (.slice none 0 0), rdH h b s c, ?_, .inl ⟨rfl, rfl⟩⟩
          dsimp only [Try.f40, Option.getD]
          rcases k01 with rfl | rfl <;>
          simp only [Int.cast_ofNat_Int] at e0 e3 ⊢ <;>
          simp only [reduceIte, reduceCtorEq, Nat.reduceAdd, Nat.reduceMul, Nat.reduceSub, Nat.reduceEqDiff, Nat.reduceLT, Nat.reduceLeDiff, Nat.reduceBEq, Int.reduceLT, Int.reduceLE, Int.reduceEq,
    Int.reduceNe, Int.reduceAdd, Int.reduceSub, Int.reduceMul, Int.reduceToNat, push_cast, pairsOk, locGet, locSet, nextGen, e0, e1, e2, e3, lw_same, len_str Try.underlying9, p2_int, intBin, hg9, hlt, a_pan, pan_ifc, rdH_len, hnl]
      · have hlt : ((c : Int) < s.size) := by omega
        rw [if_neg (fun q => hcs q.1)]
        simp only [MOut]
        refine pan_out ?_
        dsimp only [Try.f40, Option.getD]
        rcases k01 with rfl | rfl <;>
        simp only [reduceIte, reduceCtorEq, Nat.reduceAdd, Nat.reduceMul, Nat.reduceSub, Nat.reduceEqDiff, Nat.reduceLT, Nat.reduceLeDiff, Nat.reduceBEq, Int.reduceLT, Int.reduceLE, Int.reduceEq,
    Int.reduceNe, Int.reduceAdd, Int.reduceSub, Int.reduceMul, Int.reduceToNat, push_cast, pairsOk, locGet, locSet, nextGen, e0, e1, e2, lw_same, len_str Try.underlying9, p2_int, intBin, hg9, hlt, a_pan, pan_ifc] <;>
        exact ⟨_, rfl, by simp [lwOver]⟩
  simp only [if_neg k01]
  have k0 : ¬ ((k : Int) = 0) := by omega
  have k1 : ¬ ((k : Int) = 1) := by omega
  by_cases k2 : k = 2
  · simp only [if_pos k2]
    subst k2
    have e2 := f59 (w0 := w0) (t := t) h b s a9 hb q1 hs
    cases hP : rdP s a9 with
    | none =>
      rw [hP] at e2
      obtain ⟨c, lw, e2, hlw⟩ := e2
      simp only [Option.bind_none, MOut]
      refine pan_out ?_
      dsimp only [Try.f40, Option.getD]
      simp only [reduceIte, reduceCtorEq, Nat.reduceAdd, Nat.reduceMul, Nat.reduceSub, Nat.reduceEqDiff, Nat.reduceLT, Nat.reduceLeDiff, Nat.reduceBEq, Int.reduceLT, Int.reduceLE, Int.reduceEq,
    Int.reduceNe, Int.reduceAdd, Int.reduceSub, Int.reduceMul, Int.reduceToNat, push_cast, pairsOk, locGet, locSet, nextGen, e0, e1, e2, lw_same, p2_int, intBin]
      exact ⟨_, rfl, by simp only [lwOver_min, lwo_some, hlw, Nat.le_refl, decide_true, Bool.and_self]⟩
    | some p =>
      obtain ⟨q, c⟩ := p
      rw [hP] at e2
      replace e2 : acallI (cfg w0 t) 59 [.ptr b 0 0] (rdH h b s a9) = some (.ret (.tup [vS q.1, .agg [vI q.2.1, vI q.2.2]]), rdH h b s c, some b) := e2
      have hle := rdP_le hP
      have e3 := f45_8 (w0 := w0) (t := t) h b s c hb hle.1 hs
      simp only [Option.bind_some]
      by_cases qc : c + 8 ≤ s.size
      rotate_left
      · rw [if_neg qc] at e3
        simp only [if_neg qc, Option.bind_none, MOut]
        refine pan_out ?_
        dsimp only [Try.f40, Option.getD]
        simp only [reduceIte, reduceCtorEq, Nat.reduceAdd, Nat.reduceMul, Nat.reduceSub, Nat.reduceEqDiff, Nat.reduceLT, Nat.reduceLeDiff, Nat.reduceBEq, Int.reduceLT, Int.reduceLE, Int.reduceEq,
    Int.reduceNe, Int.reduceAdd, Int.reduceSub, Int.reduceMul, Int.reduceToNat, push_cast, pairsOk, locGet, locSet, nextGen, e0, e1, e2, e3, lw_same, p2_int, intBin]
        exact ⟨_, rfl, by simp [lwOver]⟩
      rw [if_pos qc] at e3
      have e4 := f60 (w0 := w0) (t := t) ok h b s (c + 8) hb qc hs
      simp only [if_pos qc, Option.bind_some]
      generalize c + 8 = d at e3 e4 qc ⊢
      generalize nAt s c 8 = ve at e3 ⊢
      cases hV : rdV0 s d with
      | none =>
        rw [hV] at e4
        obtain ⟨c4, lw4, e4, hlw4⟩ := e4
        simp only [Option.bind_none, MOut]
        refine pan_out ?_
        dsimp only [Try.f40, Option.getD]
        simp only [reduceIte, reduceCtorEq, Nat.reduceAdd, Nat.reduceMul, Nat.reduceSub, Nat.reduceEqDiff, Nat.reduceLT, Nat.reduceLeDiff, Nat.reduceBEq, Int.reduceLT, Int.reduceLE, Int.reduceEq,
    Int.reduceNe, Int.reduceAdd, Int.reduceSub, Int.reduceMul, Int.reduceToNat, push_cast, pairsOk, locGet, locSet, nextGen, e0, e1, e2, e3, e4, lw_same, p2_int, intBin]
        exact ⟨_, rfl, by simp only [lwOver_min, lwo_some, hlw4, Nat.le_refl, decide_true, Bool.and_self]⟩
      | some pv =>
        obtain ⟨v, c5⟩ := pv
        rw [hV] at e4
        replace e4 : acallI (cfg w0 t) 60 [.ptr b 0 0] (rdH h b s d) = some (.ret (vOf v), rdH h b s c5, some b) := e4
        have hle5 := rdV0_le hV
        have e5 := f13' ⟨(2 : Nat), sI tk, q.1, q.2.1, q.2.2, sI ve, v, []⟩ ⟨by simp only; omega, fun e he => (by cases he), by simp⟩ rfl (rdH h b s c5)
        simp only [Option.bind_some]
        generalize hm : (⟨(2 : Nat), sI tk, q.1, q.2.1, q.2.2, sI ve, v, []⟩ : Msg) = m at e5 ⊢
        by_cases hcs : c5 = s.size
        · have hlt : ¬ ((c5 : Int) < s.size) := by omega
          cases hgood : msgGood m
          · rw [hgood] at e5
            rw [if_neg (by simp)]
            subst hm
            simp only [MOut]
            refine pan_out ?_
            dsimp only [Try.f40, Option.getD]
            simp only [Int.cast_ofNat_Int] at e0 e5
            simp only [reduceIte, reduceCtorEq, Nat.reduceAdd, Nat.reduceMul, Nat.reduceSub, Nat.reduceEqDiff, Nat.reduceLT, Nat.reduceLeDiff, Nat.reduceBEq, Int.reduceLT, Int.reduceLE, Int.reduceEq,
    Int.reduceNe, Int.reduceAdd, Int.reduceSub, Int.reduceMul, Int.reduceToNat, push_cast, pairsOk, locGet, locSet, nextGen, e0, e1, e2, e3, e4, e5, lw_same, len_str Try.underlying9, p2_int, intBin, hg9, hlt, a_pan, pan_ifc]
            exact ⟨_, rfl, by simp [lwOver]⟩
          · rw [hgood] at e5
            rw [if_pos ⟨hcs, rfl⟩]
            subst hm
            simp only [MOut]
            refine ⟨.val (.slice none 0 0), rdH h b s c5, ?_, .inl ⟨rfl, rfl⟩⟩
            dsimp only [Try.f40, Option.getD]
            simp only [Int.cast_ofNat_Int] at e0 e5 ⊢
            simp only [reduceIte, reduceCtorEq, Nat.reduceAdd, Nat.reduceMul, Nat.reduceSub, Nat.reduceEqDiff, Nat.reduceLT, Nat.reduceLeDiff, Nat.reduceBEq, Int.reduceLT, Int.reduceLE, Int.reduceEq,
    Int.reduceNe, Int.reduceAdd, Int.reduceSub, Int.reduceMul, Int.reduceToNat, push_cast, pairsOk, locGet, locSet, nextGen, e0, e1, e2, e3, e4, e5, lw_same, len_str Try.underlying9, p2_int, intBin, hg9, hlt, a_pan, pan_ifc, rdH_len, hnl]
        · have hlt : ((c5 : Int) < s.size) := by omega
          rw [if_neg (fun q => hcs q.1)]
          simp only [MOut]
          refine pan_out ?_
          dsimp only [Try.f40, Option.getD]
          simp only [reduceIte, reduceCtorEq, Nat.reduceAdd, Nat.reduceMul, Nat.reduceSub, Nat.reduceEqDiff, Nat.reduceLT, Nat.reduceLeDiff, Nat.reduceBEq, Int.reduceLT, Int.reduceLE, Int.reduceEq,
    Int.reduceNe, Int.reduceAdd, Int.reduceSub, Int.reduceMul, Int.reduceToNat, push_cast, pairsOk, locGet, locSet, nextGen, e0, e1, e2, e3, e4, lw_same, len_str Try.underlying9, p2_int, intBin, hg9, hlt, a_pan, pan_ifc]
          exact ⟨_, rfl, by simp [lwOver]⟩
  simp only [if_neg k2]
  have k2' : ¬ ((k : Int) = 2) := by omega
  by_cases k3 : k = 3
  · simp only [if_pos k3]
    subst k3
    have e2 := f45_8 (w0 := w0) (t := t) h b s a9 hb q1 hs
    by_cases qc : a9 + 8 ≤ s.size
    rotate_left
    · rw [if_neg qc] at e2
      simp only [if_neg qc, Option.bind_none, MOut]
      refine pan_out ?_
      dsimp only [Try.f40, Option.getD]
      simp only [reduceIte, reduceCtorEq, Nat.reduceAdd, Nat.reduceMul, Nat.reduceSub, Nat.reduceEqDiff, Nat.reduceLT, Nat.reduceLeDiff, Nat.reduceBEq, Int.reduceLT, Int.reduceLE, Int.reduceEq,
    Int.reduceNe, Int.reduceAdd, Int.reduceSub, Int.reduceMul, Int.reduceToNat, push_cast, pairsOk, locGet, locSet, nextGen, e0, e1, e2, lw_same, p2_int, intBin]
      exact ⟨_, rfl, by simp [lwOver]⟩
    rw [if_pos qc] at e2
    have e3 := f45_2 (w0 := w0) (t := t) h b s (a9 + 8) hb qc hs
    simp only [if_pos qc, Option.bind_some]
    generalize a9 + 8 = d at e2 e3 qc ⊢
    generalize nAt s a9 8 = ve at e2 ⊢
    by_cases qd : d + 2 ≤ s.size
    rotate_left
    · rw [if_neg qd] at e3
      simp only [if_neg qd, Option.bind_none, MOut]
      refine pan_out ?_
      dsimp only [Try.f40, Option.getD]
      simp only [reduceIte, reduceCtorEq, Nat.reduceAdd, Nat.reduceMul, Nat.reduceSub, Nat.reduceEqDiff, Nat.reduceLT, Nat.reduceLeDiff, Nat.reduceBEq, Int.reduceLT, Int.reduceLE, Int.reduceEq,
    Int.reduceNe, Int.reduceAdd, Int.reduceSub, Int.reduceMul, Int.reduceToNat, push_cast, pairsOk, locGet, locSet, nextGen, e0, e1, e2, e3, lw_same, p2_int, intBin]
      exact ⟨_, rfl, by simp [lwOver]⟩
    rw [if_pos qd] at e3
    have hn := nAt2 s d qd
    simp only [if_pos qd, Option.bind_some]
    generalize d + 2 = d2 at e3 qd ⊢
    generalize nAt s d 2 = n at e3 hn ⊢
    have hL := L40 (w0 := w0) (t := t) h.length b hb s hs n hn (vI 3) (vI (sI tk)) (vS .empty) (vI 0) (vI 0) (vI (sI ve)) (vI 0) (vI 0) (vS .empty) (vB false) (vI 0) n 0 d2 [] (.val (.slice none 0 0)) h
    cases hE : rdEs s n d2 with
    | none =>
      rw [hE] at hL
      obtain ⟨G, hG⟩ := skol (P := fun a' : (Nat → AV) × Loc => locGet a'.2 3 = some (1, .cells [vI 3, vI (sI tk), vS .empty, vI 0, vI 0, vI (sI ve), vI 0, vI 0, vS .empty, vB false, vI 0, .val (.slice none 0 0)]) ∧ a'.1 0 = .ptr b 0 0 ∧ a'.1 3 = .bx 3 1 0 ∧ a'.1 43 = vI n ∧ a'.1 44 = vI 0)
        (Q := fun a' c' => acodeI (cfg w0 t) 40 (.loop (lp Try.f40 0)) ⟨fl 72 a'.1, a'.2, rdH h b s d2, some b⟩ = some (.pan brk, ⟨c'.1, c'.2.1, c'.2.2.1, c'.2.2.2⟩) ∧ lwOver c'.2.2.2 b = true) (β := List AV × Loc × H × Option Nat) (fun a' ha' => by
          obtain ⟨st, q1, q2⟩ := hL a'.1 a'.2 (by omega) rfl qd (Nat.le_refl _) (.inl ⟨rfl, rfl⟩) ha'.1 ha'.2.1 ha'.2.2.1 ha'.2.2.2.1 ha'.2.2.2.2
          exact ⟨(st.fr, st.loc, st.h, st.lw), q1, q2⟩)
      have G1 := fun F loc hc => (hG (F, loc) hc).1
      have G2 := fun F loc hc => (hG (F, loc) hc).2
      clear hG hL
      simp only [Option.bind_none, MOut]
      refine pan_out ?_
      dsimp only [lp, loopsOf, Try.f40, Option.getD, List.append_eq, List.nil_append, List.cons_append, List.getElem?_cons_zero, List.getElem?_cons_succ] at G1 ⊢
      simp only [reduceIte, reduceCtorEq, Nat.reduceAdd, Nat.reduceMul, Nat.reduceSub, Nat.reduceEqDiff, Nat.reduceLT, Nat.reduceLeDiff, Nat.reduceBEq, Int.reduceLT, Int.reduceLE, Int.reduceEq,
    Int.reduceNe, Int.reduceAdd, Int.reduceSub, Int.reduceMul, Int.reduceToNat, push_cast, pairsOk, locGet, locSet, nextGen, e0, e1, e2, e3, lw_same, p2_int, intBin, G1]
      refine ⟨_, rfl, ?_⟩
      exact G2 _ _ (by simp only [reduceIte, reduceCtorEq, Nat.reduceAdd, Nat.reduceMul, Nat.reduceSub, Nat.reduceEqDiff, Nat.reduceLT, Nat.reduceLeDiff, Nat.reduceBEq, Int.reduceLT, Int.reduceLE, Int.reduceEq,
    Int.reduceNe, Int.reduceAdd, Int.reduceSub, Int.reduceMul, Int.reduceToNat, push_cast, pairsOk, locGet, locSet, nextGen])
    | some r =>
      obtain ⟨l, e⟩ := r
      rw [hE] at hL
      have hle := rdEs_le qd hE
      have hsm : msgSmall ⟨(3 : Nat), sI tk, .empty, 0, 0, sI ve, zV, l⟩ := ⟨by simp, hle.2.2.2, by simp only; omega⟩
      obtain ⟨G, hG⟩ := skol (P := fun a' : (Nat → AV) × Loc => locGet a'.2 3 = some (1, .cells [vI 3, vI (sI tk), vS .empty, vI 0, vI 0, vI (sI ve), vI 0, vI 0, vS .empty, vB false, vI 0, .val (.slice none 0 0)]) ∧ a'.1 0 = .ptr b 0 0 ∧ a'.1 3 = .bx 3 1 0 ∧ a'.1 43 = vI n ∧ a'.1 44 = vI 0)
        (Q := fun a' c' => acodeI (cfg w0 t) 40 (.loop (lp Try.f40 0)) ⟨fl 72 a'.1, a'.2, rdH h b s d2, some b⟩ = some (.exit 1, ⟨fl 72 c'.1, c'.2.1, rdH c'.2.2.2 b s e, some b⟩) ∧ locGet c'.2.1 3 = some (1, .cells [vI 3, vI (sI tk), vS .empty, vI 0, vI 0, vI (sI ve), vI 0, vI 0, vS .empty, vB false, vI 0, c'.2.2.1]) ∧ locGet c'.2.1 2 = locGet a'.2 2 ∧ c'.1 0 = a'.1 0 ∧ c'.1 2 = a'.1 2 ∧ c'.1 3 = a'.1 3 ∧ noBx c'.2.2.1 = true ∧ oneA c'.2.2.1 = true ∧ EdsI h.length (rdH c'.2.2.2 b s e) l c'.2.2.1 ∧
            acallI (cfg w0 t) 13 [.agg (vM 3 (sI tk) .empty 0 0 (sI ve) zV c'.2.2.1)] (rdH c'.2.2.2 b s e) = some (.ret (vB (msgGood ⟨(3 : Nat), sI tk, .empty, 0, 0, sI ve, zV, l⟩)), rdH c'.2.2.2 b s e, none) ∧ (rdH c'.2.2.2 b s e)[b]? = some ⟨[vS s, vI e], 0⟩) (β := (Nat → AV) × Loc × AV × H) (fun a' ha' => by
          obtain ⟨F', loc', xs, h', q1, q2, q3, q4, q5, q6, q7, q8⟩ := hL a'.1 a'.2 (by omega) rfl qd (Nat.le_refl _) (.inl ⟨rfl, rfl⟩) ha'.1 ha'.2.1 ha'.2.2.1 ha'.2.2.2.1 ha'.2.2.2.2
          rw [List.nil_append] at q3
          exact ⟨(F', loc', xs, h'), q1, q4, q5, q6, q7, q8, q3.nb.1, q3.nb.2, q3, f13 (w0 := w0) (t := t) _ hsm xs _ q3.edsV, rdH_get q2⟩)
      have G1 := fun F loc hc => (hG (F, loc) hc).1
      have G3 := fun F loc hc => (hG (F, loc) hc).2.1
      have G4 := fun F loc hc => (hG (F, loc) hc).2.2.1
      have G5 := fun F loc hc => (hG (F, loc) hc).2.2.2.1
      have G6 := fun F loc hc => (hG (F, loc) hc).2.2.2.2.1
      have G7 := fun F loc hc => (hG (F, loc) hc).2.2.2.2.2.1
      have G8 := fun F loc hc => (hG (F, loc) hc).2.2.2.2.2.2.1
      have G9 := fun F loc hc => (hG (F, loc) hc).2.2.2.2.2.2.2.1
      have Ga := fun F loc hc => (hG (F, loc) hc).2.2.2.2.2.2.2.2.1
      have Gb := fun F loc hc => (hG (F, loc) hc).2.2.2.2.2.2.2.2.2.1
      have Gc := fun F loc hc => (hG (F, loc) hc).2.2.2.2.2.2.2.2.2.2
      clear hG hL
      simp only [Option.bind_some]
      generalize hm : (⟨(3 : Nat), sI tk, .empty, 0, 0, sI ve, zV, l⟩ : Msg) = m at Gb ⊢
      have hel : m.edges = l := by rw [← hm]
      by_cases hcs : e = s.size
      · have hlt : ¬ ((e : Int) < s.size) := by omega
        cases hgood : msgGood m
        · rw [hgood] at Gb
          rw [if_neg (by simp)]
          simp only [MOut]
          refine pan_out ?_
          dsimp only [lp, loopsOf, Try.f40, Option.getD, List.append_eq, List.nil_append, List.cons_append, List.getElem?_cons_zero, List.getElem?_cons_succ] at G1 ⊢
          simp only [reduceIte, reduceCtorEq, Nat.reduceAdd, Nat.reduceMul, Nat.reduceSub, Nat.reduceEqDiff, Nat.reduceLT, Nat.reduceLeDiff, Nat.reduceBEq, Int.reduceLT, Int.reduceLE, Int.reduceEq,
    Int.reduceNe, Int.reduceAdd, Int.reduceSub, Int.reduceMul, Int.reduceToNat, push_cast, pairsOk, locGet, locSet, nextGen, e0, e1, e2, e3, lw_same, p2_int, intBin, G1, G3, G4, G5, G6, G7, G8, G9, Gb, Gc, hlt, len_str Try.underlying9, a_pan, pan_ifc, locGet_set, rdH_len, hnl]
          exact ⟨_, rfl, by simp [lwOver]⟩
        · rw [hgood] at Gb
          rw [if_pos ⟨hcs, rfl⟩]
          subst hm
          simp only [MOut]
          dsimp only [lp, loopsOf, Try.f40, Option.getD, List.append_eq, List.nil_append, List.cons_append, List.getElem?_cons_zero, List.getElem?_cons_succ] at G1 ⊢
          simp only [reduceIte, reduceCtorEq, Nat.reduceAdd, Nat.reduceMul, Nat.reduceSub, Nat.reduceEqDiff, Nat.reduceLT, Nat.reduceLeDiff, Nat.reduceBEq, Int.reduceLT, Int.reduceLE, Int.reduceEq,
    Int.reduceNe, Int.reduceAdd, Int.reduceSub, Int.reduceMul, Int.reduceToNat, push_cast, pairsOk, locGet, locSet, nextGen, e0, e1, e2, e3, lw_same, p2_int, intBin, G1, G3, G4, G5, G6, G7, G8, G9, Gb, Gc, hlt, len_str Try.underlying9, a_pan, pan_ifc, locGet_set, rdH_len, hnl]
          exact ⟨_, _, rfl, Ga _ _ (by simp only [reduceIte, reduceCtorEq, Nat.reduceAdd, Nat.reduceMul, Nat.reduceSub, Nat.reduceEqDiff, Nat.reduceLT, Nat.reduceLeDiff, Nat.reduceBEq, Int.reduceLT, Int.reduceLE, Int.reduceEq,
    Int.reduceNe, Int.reduceAdd, Int.reduceSub, Int.reduceMul, Int.reduceToNat, push_cast, pairsOk, locGet, locSet, nextGen])⟩
      · have hlt : ((e : Int) < s.size) := by omega
        rw [if_neg (fun q => hcs q.1)]
        simp only [MOut]
        refine pan_out ?_
        dsimp only [lp, loopsOf, Try.f40, Option.getD, List.append_eq, List.nil_append, List.cons_append, List.getElem?_cons_zero, List.getElem?_cons_succ] at G1 ⊢
        simp only [reduceIte, reduceCtorEq, Nat.reduceAdd, Nat.reduceMul, Nat.reduceSub, Nat.reduceEqDiff, Nat.reduceLT, Nat.reduceLeDiff, Nat.reduceBEq, Int.reduceLT, Int.reduceLE, Int.reduceEq,
    Int.reduceNe, Int.reduceAdd, Int.reduceSub, Int.reduceMul, Int.reduceToNat, push_cast, pairsOk, locGet, locSet, nextGen, e0, e1, e2, e3, lw_same, p2_int, intBin, G1, G3, G4, G5, G6, G7, G8, G9, Gc, hlt, len_str Try.underlying9, a_pan, pan_ifc, locGet_set, rdH_len, hnl]
        exact ⟨_, rfl, by simp [lwOver]⟩
  simp only [if_neg k3, Option.bind_some]
  have k3' : ¬ ((k : Int) = 3) := by omega
  have e3 := f13' ⟨k, sI tk, .empty, 0, 0, 0, zV, []⟩ ⟨by simp, fun e he => (by cases he), by simp⟩ rfl (rdH h b s a9)
  generalize hm : (⟨k, sI tk, .empty, 0, 0, 0, zV, []⟩ : Msg) = m at e3 ⊢
  by_cases hcs : a9 = s.size
  · have hlt : ¬ ((a9 : Int) < s.size) := by omega
    cases hgood : msgGood m
    · rw [hgood] at e3
      rw [if_neg (by simp)]
      subst hm
      simp only [MOut]
      refine pan_out ?_
      dsimp only [Try.f40, Option.getD]
      simp only [reduceIte, reduceCtorEq, Nat.reduceAdd, Nat.reduceMul, Nat.reduceSub, Nat.reduceEqDiff, Nat.reduceLT, Nat.reduceLeDiff, Nat.reduceBEq, Int.reduceLT, Int.reduceLE, Int.reduceEq,
    Int.reduceNe, Int.reduceAdd, Int.reduceSub, Int.reduceMul, Int.reduceToNat, push_cast, pairsOk, locGet, locSet, nextGen, e0, e1, e3, lw_same, len_str Try.underlying9, p2_int, intBin, hg9, hlt, a_pan, pan_ifc, k0, k1, k2', k3']
      exact ⟨_, rfl, by simp [lwOver]⟩
    · rw [hgood] at e3
      rw [if_pos ⟨hcs, rfl⟩]
      subst hm
      simp only [MOut]
      refine ⟨.val (.slice none 0 0), rdH h b s a9, ?_, .inl ⟨rfl, rfl⟩⟩
      dsimp only [Try.f40, Option.getD]
      simp only [reduceIte, reduceCtorEq, Nat.reduceAdd, Nat.reduceMul, Nat.reduceSub, Nat.reduceEqDiff, Nat.reduceLT, Nat.reduceLeDiff, Nat.reduceBEq, Int.reduceLT, Int.reduceLE, Int.reduceEq,
    Int.reduceNe, Int.reduceAdd, Int.reduceSub, Int.reduceMul, Int.reduceToNat, push_cast, pairsOk, locGet, locSet, nextGen, e0, e1, e3, lw_same, len_str Try.underlying9, p2_int, intBin, hg9, hlt, a_pan, pan_ifc, rdH_len, hnl, k0, k1, k2', k3']
  · have hlt : ((a9 : Int) < s.size) := by omega
    rw [if_neg (fun q => hcs q.1)]
    simp only [MOut]
    refine pan_out ?_
    dsimp only [Try.f40, Option.getD]
    simp only [reduceIte, reduceCtorEq, Nat.reduceAdd, Nat.reduceMul, Nat.reduceSub, Nat.reduceEqDiff, Nat.reduceLT, Nat.reduceLeDiff, Nat.reduceBEq, Int.reduceLT, Int.reduceLE, Int.reduceEq,
    Int.reduceNe, Int.reduceAdd, Int.reduceSub, Int.reduceMul, Int.reduceToNat, push_cast, pairsOk, locGet, locSet, nextGen, e0, e1, lw_same, len_str Try.underlying9, p2_int, intBin, hg9, hlt, a_pan, pan_ifc, k0, k1, k2', k3']
    exact ⟨_, rfl, by simp [lwOver]⟩
end Go.Proofs.Ytmglahnoemgieaa.Ax

/- What single functions of the program come to: the document's numbers and texts, read. (And what follows from it, text by text.) -/
import Derived.Test.YtmglahnoemgieaaM10
import Derived.Test.YtmglahnoemgieaaM6
namespace Go.Proofs.Ytmglahnoemgieaa.Ax
open Go Go.RowKit
set_option linter.unusedSimpArgs false
set_option linter.unusedVariables false
set_option maxHeartbeats 8000000
set_option maxRecDepth 4000
variable {w0 : World} {t : Option Gf}
/-- a long number as the document takes it -/
def refI (n : Nat) : Int := if n < 9223372036854775808 then (n : Int) else -1
def R41 (h : H) (a k N : Nat) (F : Nat → AV) (R : Option (Ex × S)) : Prop :=
  if N < 9223372036854775808 then ∃ F', R = some (.exit 0, ⟨fl 43 F', [], h, none⟩) ∧ F' 8 = vI N ∧ F' 1 = F 1 ∧ F' 2 = F 2
  else ∃ F', R = some (.ret, ⟨fl 43 F', [], h, none⟩) ∧ F' 6 = vI (-1) ∧ F' 7 = vI ((a + k : Nat) : Int)
theorem R41.step {h : H} {a k N : Nat} {F F0 : Nat → AV} {R : Option (Ex × S)} (q : R41 h a k N F R) (h1 : F 1 = F0 1) (h2 : F 2 = F0 2) : R41 h a k N F0 R := by
  unfold R41 at q ⊢
  split
  · rename_i hl
    rw [if_pos hl] at q
    obtain ⟨F', q1, q2, q3, q4⟩ := q
    exact ⟨F', q1, q2, q3.trans h1, q4.trans h2⟩
  · rename_i hl
    rw [if_neg hl] at q
    exact q
theorem ext_get (s : ByteArray) (a k i : Nat) (hak : a + k ≤ s.size) (hi : i < k) : (bl (s.extract a (a + k)))[i]? = (bl s)[a + i]? := by
  unfold bl
  rw [ByteArray.data_extract, Array.toList_extract, List.extract_eq_take_drop, List.getElem?_take_of_lt (by omega), List.getElem?_drop]
theorem L41 (h : H) (s : ByteArray) (a k : Nat) (hk : k ≤ 8) (hak : a + k ≤ s.size) (hs : s.size ≤ 9223372036854775000) : ∀ (m i : Nat) (F : Nat → AV), i + m = k → beN ((bl (s.extract a (a + k))).take i) < 9223372036854775808 →
    F 0 = vS s → F 1 = vI a → F 2 = vI k → F 8 = vI (beN ((bl (s.extract a (a + k))).take i)) → F 9 = vI i →
    R41 h a k (nAt s a k) F (acodeI (cfg w0 t) 41 (.loop (lp Try.f41 0)) ⟨fl 43 F, [], h, none⟩) := by
  dsimp only [lp, loopsOf, Try.f41, Option.getD, List.append_eq, List.nil_append, List.cons_append, List.getElem?_cons_zero, List.getElem?_cons_succ]
  have hL : (bl (s.extract a (a + k))).length = k := by rw [bl_len, ext_size]; omega
  have hNk : nAt s a k = beN (bl (s.extract a (a + k))) := rfl
  have hget := ext_get s a k
  rw [hNk]
  generalize bl (s.extract a (a + k)) = L at hL hget ⊢
  intro m
  induction m with
  | zero =>
    intro i F hi hN h0 h1 h2 h8 h9
    have e : ¬ ((i : Int) < k) := by omega
    rw [List.take_of_length_le (by omega)] at h8 hN
    rw [X_loop]
    simp only [reduceIte, reduceCtorEq, Nat.reduceAdd, Nat.reduceMul, Nat.reduceSub, Nat.reduceEqDiff, Nat.reduceLT, Nat.reduceLeDiff, Nat.reduceBEq, Int.reduceLT, Int.reduceLE, Int.reduceEq,
    Int.reduceNe, Int.reduceAdd, Int.reduceSub, Int.reduceMul, Int.reduceToNat, push_cast, pairsOk, locGet_set, p2_int, intBin, h0, h1, h2, h8, h9, e]
    unfold R41
    rw [if_pos hN]
    exact ⟨_, rfl, by simp only [reduceIte, reduceCtorEq, Nat.reduceAdd, Nat.reduceMul, Nat.reduceSub, Nat.reduceEqDiff, Nat.reduceLT, Nat.reduceLeDiff, Nat.reduceBEq, Int.reduceLT, Int.reduceLE, Int.reduceEq,
    Int.reduceNe, Int.reduceAdd, Int.reduceSub, Int.reduceMul, Int.reduceToNat, push_cast, pairsOk, locGet_set, h8], by simp only [reduceIte, reduceCtorEq, Nat.reduceAdd, Nat.reduceMul, Nat.reduceSub, Nat.reduceEqDiff, Nat.reduceLT, Nat.reduceLeDiff, Nat.reduceBEq, Int.reduceLT, Int.reduceLE, Int.reduceEq,
    Int.reduceNe, Int.reduceAdd, Int.reduceSub, Int.reduceMul, Int.reduceToNat, push_cast, pairsOk, locGet_set, h1], by simp only [reduceIte, reduceCtorEq, Nat.reduceAdd, Nat.reduceMul, Nat.reduceSub, Nat.reduceEqDiff, Nat.reduceLT, Nat.reduceLeDiff, Nat.reduceBEq, Int.reduceLT, Int.reduceLE, Int.reduceEq,
    Int.reduceNe, Int.reduceAdd, Int.reduceSub, Int.reduceMul, Int.reduceToNat, push_cast, pairsOk, locGet_set, h2]⟩
  | succ m ih =>
    intro i F hi hN h0 h1 h2 h8 h9
    have e : (i : Int) < k := by omega
    have hlt : i < L.length := by omega
    have htk : beN (L.take (i + 1)) = beN (L.take i) * 256 + L[i].toNat := by
      rw [List.take_succ_eq_append_getElem hlt, beN_snoc]
    have hb := L[i].toNat_lt
    have hbd : beN (L.take i) < 256 ^ i := by
      have := beN_lt (L.take i)
      rwa [List.length_take, Nat.min_eq_left (by omega)] at this
    by_cases ho : 36028797018963967 < beN (L.take i)
    · have ho' : (36028797018963967 : Int) < (beN (L.take i) : Int) := by omega
      have hi7 : i = 7 := by
        by_cases h7 : i ≤ 6
        · have : 256 ^ i ≤ 256 ^ 6 := Nat.pow_le_pow_right (by decide) h7
          have h6 : (256 : Nat) ^ 6 = 281474976710656 := by decide
          omega
        · omega
      have hall : L.take (i + 1) = L := List.take_of_length_le (by omega)
      rw [hall] at htk
      have hbig : ¬ (beN L < 9223372036854775808) := by omega
      have hw : IntKind.i64.wrap ((a : Int) + (k : Int)) = ((a + k : Nat) : Int) := by rw [wrap_i64] <;> omega
      unfold R41
      rw [if_neg hbig, X_loop]
      generalize beN (L.take i) = N at ho' h8
      simp only [reduceIte, reduceCtorEq, Nat.reduceAdd, Nat.reduceMul, Nat.reduceSub, Nat.reduceEqDiff, Nat.reduceLT, Nat.reduceLeDiff, Nat.reduceBEq, Int.reduceLT, Int.reduceLE, Int.reduceEq,
    Int.reduceNe, Int.reduceAdd, Int.reduceSub, Int.reduceMul, Int.reduceToNat, push_cast, pairsOk, locGet_set, p2_int, intBin, h0, h1, h2, h8, h9, e, ho', hw]
      exact ⟨_, rfl, by simp only [reduceIte, reduceCtorEq, Nat.reduceAdd, Nat.reduceMul, Nat.reduceSub, Nat.reduceEqDiff, Nat.reduceLT, Nat.reduceLeDiff, Nat.reduceBEq, Int.reduceLT, Int.reduceLE, Int.reduceEq,
    Int.reduceNe, Int.reduceAdd, Int.reduceSub, Int.reduceMul, Int.reduceToNat, push_cast, pairsOk, locGet_set], by simp only [reduceIte, reduceCtorEq, Nat.reduceAdd, Nat.reduceMul, Nat.reduceSub, Nat.reduceEqDiff, Nat.reduceLT, Nat.reduceLeDiff, Nat.reduceBEq, Int.reduceLT, Int.reduceLE, Int.reduceEq,
    Int.reduceNe, Int.reduceAdd, Int.reduceSub, Int.reduceMul, Int.reduceToNat, push_cast, pairsOk, locGet_set]⟩
    · have ho' : ¬ ((36028797018963967 : Int) < (beN (L.take i) : Int)) := by omega
      have hby : byteAt s ((a : Int) + (i : Int)) = some L[i] := by
        rw [← Int.natCast_add, byteAt_nat, ← hget i hak (by omega), List.getElem?_eq_getElem hlt]
      have hw0 : IntKind.i64.wrap ((a : Int) + (i : Int)) = (a : Int) + (i : Int) := by rw [wrap_i64] <;> omega
      have hw1 : IntKind.i64.wrap ((i : Int) + 1) = ((i + 1 : Nat) : Int) := by rw [wrap_i64] <;> omega
      have hw2 : IntKind.i64.wrap (256 * (beN (L.take i) : Int)) = 256 * (beN (L.take i) : Int) := by rw [wrap_i64] <;> omega
      have hw3 : IntKind.i64.wrap (256 * (beN (L.take i) : Int) + (L[i].toNat : Int)) = (beN (L.take (i + 1)) : Int) := by
        rw [htk, wrap_i64] <;> omega
      have hN2 : beN (L.take (i + 1)) < 9223372036854775808 := by omega
      have ih := ih (i + 1)
      generalize L[i] = x at hby hw3
      generalize beN (L.take i) = N at ho' h8 hw2 hw3
      generalize hN2e : beN (L.take (i + 1)) = N2 at hw3 hN2 ih
      rw [X_loop]
      simp only [reduceIte, reduceCtorEq, Nat.reduceAdd, Nat.reduceMul, Nat.reduceSub, Nat.reduceEqDiff, Nat.reduceLT, Nat.reduceLeDiff, Nat.reduceBEq, Int.reduceLT, Int.reduceLE, Int.reduceEq,
    Int.reduceNe, Int.reduceAdd, Int.reduceSub, Int.reduceMul, Int.reduceToNat, push_cast, pairsOk, locGet_set, p2_int, intBin, p2_index, h0, h1, h2, h8, h9, e, ho', hby, hw0, hw1, hw2, hw3, wb]
      refine R41.step (ih _ (by omega) hN2 ?_ ?_ ?_ ?_ ?_) ?_ ?_ <;> simp only [reduceIte, reduceCtorEq, Nat.reduceAdd, Nat.reduceMul, Nat.reduceSub, Nat.reduceEqDiff, Nat.reduceLT, Nat.reduceLeDiff, Nat.reduceBEq, Int.reduceLT, Int.reduceLE, Int.reduceEq,
    Int.reduceNe, Int.reduceAdd, Int.reduceSub, Int.reduceMul, Int.reduceToNat, push_cast, pairsOk, locGet_set, h0, h1, h2]
theorem f41 (s : ByteArray) (a k : Nat) (hk : k ≤ 8) (ha : a ≤ s.size) (hs : s.size ≤ 9223372036854775000) (h : H) : acallI (cfg w0 t) 41 [vS s, vI a, vI k] h =
    some (.ret (.tup (if a + k ≤ s.size then [vI (refI (nAt s a k)), vI ((a + k : Nat) : Int)] else [vI 0, vI (-1)])), h, none) := by
  rw [E41]
  have c1 : ¬ ((a : Int) < 0) := by omega
  have hw : IntKind.i64.wrap ((s.size : Int) - (a : Int)) = (s.size : Int) - a := by rw [wrap_i64] <;> omega
  by_cases hak : a + k ≤ s.size
  · rw [if_pos hak]
    have c2 : ¬ ((s.size : Int) - a < k) := by omega
    have hw2 : IntKind.i64.wrap ((a : Int) + (k : Int)) = ((a + k : Nat) : Int) := by rw [wrap_i64] <;> omega
    have hL := L41 (w0 := w0) (t := t) h s a k hk hak hs k 0
    unfold refI
    unfold R41 at hL
    by_cases hN : nAt s a k < 9223372036854775808
    · obtain ⟨G, hG⟩ := skol (P := fun F : (Nat → AV) => F 0 = vS s ∧ F 1 = vI a ∧ F 2 = vI k ∧ F 8 = vI 0 ∧ F 9 = vI 0)
        (Q := fun F F' => acodeI (cfg w0 t) 41 (.loop (lp Try.f41 0)) ⟨fl 43 F, [], h, none⟩ = some (.exit 0, ⟨fl 43 F', [], h, none⟩) ∧ F' 8 = vI (nAt s a k) ∧ F' 1 = F 1 ∧ F' 2 = F 2) (β := Nat → AV) (fun F hF => by
          have := hL F (by omega) (by simp [beN]) hF.1 hF.2.1 hF.2.2.1 hF.2.2.2.1 hF.2.2.2.2
          rwa [if_pos hN] at this)
      have G1 := fun F hc => (hG F hc).1
      have G2 := fun F hc => (hG F hc).2.1
      have G3 := fun F hc => (hG F hc).2.2.1
      have G4 := fun F hc => (hG F hc).2.2.2
      clear hG hL
      rw [if_pos hN]
      generalize nAt s a k = N at G2
      dsimp only [lp, loopsOf, Try.f41, Option.getD, List.append_eq, List.nil_append, List.cons_append, List.getElem?_cons_zero, List.getElem?_cons_succ] at G1 ⊢
      simp only [reduceIte, reduceCtorEq, Nat.reduceAdd, Nat.reduceMul, Nat.reduceSub, Nat.reduceEqDiff, Nat.reduceLT, Nat.reduceLeDiff, Nat.reduceBEq, Int.reduceLT, Int.reduceLE, Int.reduceEq,
    Int.reduceNe, Int.reduceAdd, Int.reduceSub, Int.reduceMul, Int.reduceToNat, push_cast, pairsOk, locGet_set, p2_int, intBin, len_str Try.underlying9, c1, c2, hw, hw2, G1, G2, G3, G4]
    · obtain ⟨G, hG⟩ := skol (P := fun F : (Nat → AV) => F 0 = vS s ∧ F 1 = vI a ∧ F 2 = vI k ∧ F 8 = vI 0 ∧ F 9 = vI 0)
        (Q := fun F F' => acodeI (cfg w0 t) 41 (.loop (lp Try.f41 0)) ⟨fl 43 F, [], h, none⟩ = some (.ret, ⟨fl 43 F', [], h, none⟩) ∧ F' 6 = vI (-1) ∧ F' 7 = vI ((a + k : Nat) : Int)) (β := Nat → AV) (fun F hF => by
          have := hL F (by omega) (by simp [beN]) hF.1 hF.2.1 hF.2.2.1 hF.2.2.2.1 hF.2.2.2.2
          rwa [if_neg hN] at this)
      have G1 := fun F hc => (hG F hc).1
      have G2 := fun F hc => (hG F hc).2.1
      have G3 := fun F hc => (hG F hc).2.2
      clear hG hL
      rw [if_neg hN]
      dsimp only [lp, loopsOf, Try.f41, Option.getD, List.append_eq, List.nil_append, List.cons_append, List.getElem?_cons_zero, List.getElem?_cons_succ] at G1 ⊢
      simp only [reduceIte, reduceCtorEq, Nat.reduceAdd, Nat.reduceMul, Nat.reduceSub, Nat.reduceEqDiff, Nat.reduceLT, Nat.reduceLeDiff, Nat.reduceBEq, Int.reduceLT, Int.reduceLE, Int.reduceEq,
    Int.reduceNe, Int.reduceAdd, Int.reduceSub, Int.reduceMul, Int.reduceToNat, push_cast, pairsOk, locGet_set, p2_int, intBin, len_str Try.underlying9, c1, c2, hw, G1, G2, G3]
  · rw [if_neg hak]
    have c2 : ((s.size : Int) - a < k) := by omega
    dsimp only [Try.f41, Option.getD]
    simp only [reduceIte, reduceCtorEq, Nat.reduceAdd, Nat.reduceMul, Nat.reduceSub, Nat.reduceEqDiff, Nat.reduceLT, Nat.reduceLeDiff, Nat.reduceBEq, Int.reduceLT, Int.reduceLE, Int.reduceEq,
    Int.reduceNe, Int.reduceAdd, Int.reduceSub, Int.reduceMul, Int.reduceToNat, push_cast, pairsOk, locGet_set, p2_int, intBin, len_str Try.underlying9, c1, c2, hw]
theorem f41_neg (s : ByteArray) (k : Int) (h : H) : acallI (cfg w0 t) 41 [vS s, vI (-1), vI k] h = some (.ret (.tup [vI 0, vI (-1)]), h, none) := by
  rw [E41]
  dsimp only [Try.f41, Option.getD]
  simp only [reduceIte, reduceCtorEq, Nat.reduceAdd, Nat.reduceMul, Nat.reduceSub, Nat.reduceEqDiff, Nat.reduceLT, Nat.reduceLeDiff, Nat.reduceBEq, Int.reduceLT, Int.reduceLE, Int.reduceEq,
    Int.reduceNe, Int.reduceAdd, Int.reduceSub, Int.reduceMul, Int.reduceToNat, push_cast, pairsOk, locGet_set, p2_int, intBin]
end Go.Proofs.Ytmglahnoemgieaa.Ax
namespace Go.Proofs.Ytmglahnoemgieaa.Ax
open Go Go.RowKit
set_option linter.unusedSimpArgs false
set_option linter.unusedVariables false
set_option linter.unusedSectionVars false
set_option maxHeartbeats 8000000
set_option maxRecDepth 4000
variable {w0 : World} {t : Option Gf}
theorem refI_small {n : Nat} (h : n < 9223372036854775808) : refI n = (n : Int) := by unfold refI; rw [if_pos h]
section
variable (s : ByteArray) (hs : s.size ≤ 9223372036854775000) (h : H)
include hs
theorem f41_1 (a : Nat) (ha : a ≤ s.size) : acallI (cfg w0 t) 41 [vS s, vI a, vI 1] h = some (.ret (.tup (if a + 1 ≤ s.size then [vI (nAt s a 1), vI ((a + 1 : Nat) : Int)] else [vI 0, vI (-1)])), h, none) := by
  have := f41 (w0 := w0) (t := t) s a 1 (by omega) ha hs h
  rw [show ((1 : Nat) : Int) = 1 from rfl] at this
  rw [this]
  by_cases hc : a + 1 ≤ s.size
  · rw [if_pos hc, if_pos hc, refI_small (by have := nAt1 s a hc; omega)]
  · rw [if_neg hc, if_neg hc]
theorem f41_2 (a : Nat) (ha : a ≤ s.size) : acallI (cfg w0 t) 41 [vS s, vI a, vI 2] h = some (.ret (.tup (if a + 2 ≤ s.size then [vI (nAt s a 2), vI ((a + 2 : Nat) : Int)] else [vI 0, vI (-1)])), h, none) := by
  have := f41 (w0 := w0) (t := t) s a 2 (by omega) ha hs h
  rw [show ((2 : Nat) : Int) = 2 from rfl] at this
  rw [this]
  by_cases hc : a + 2 ≤ s.size
  · rw [if_pos hc, if_pos hc, refI_small (by have := nAt2 s a hc; omega)]
  · rw [if_neg hc, if_neg hc]
theorem f41_8 (a : Nat) (ha : a ≤ s.size) : acallI (cfg w0 t) 41 [vS s, vI a, vI 8] h = some (.ret (.tup (if a + 8 ≤ s.size then [vI (refI (nAt s a 8)), vI ((a + 8 : Nat) : Int)] else [vI 0, vI (-1)])), h, none) := by
  have := f41 (w0 := w0) (t := t) s a 8 (by omega) ha hs h
  rw [show ((8 : Nat) : Int) = 8 from rfl] at this
  exact this
theorem f62 (a : Nat) (ha : a ≤ s.size) : acallI (cfg w0 t) 62 [vS s, vI a] h = some (.ret (.tup (match rdT s a with | some (x, c) => [vS x, vI c] | none => [vS .empty, vI (-1)])), h, none) := by
  rw [E62]
  have e1 := f41_1 (w0 := w0) (t := t) s hs h a ha
  unfold rdT rdN
  by_cases hc : a + 1 ≤ s.size
  · rw [if_pos hc] at e1
    have hn := nAt1 s a hc
    simp only [if_pos hc, Option.bind_some]
    generalize nAt s a 1 = n at e1 hn ⊢
    generalize hce : a + 1 = c at e1 hc ⊢
    have c1 : ¬ ((c : Int) < 0) := by omega
    have hw : IntKind.i64.wrap ((s.size : Int) - (c : Int)) = (s.size : Int) - c := by rw [wrap_i64] <;> omega
    by_cases hc2 : c + n ≤ s.size
    · have c2 : ¬ ((s.size : Int) - c < n) := by omega
      have hw2 : IntKind.i64.wrap ((c : Int) + (n : Int)) = ((c + n : Nat) : Int) := by rw [wrap_i64] <;> omega
      have h1 : (0 : Int) ≤ (c : Int) := by omega
      have h2 : (c : Int) ≤ (c : Int) + (n : Int) := by omega
      have h3 : (c : Int) + (n : Int) ≤ s.size := by omega
      have h4 : ((c : Int) + (n : Int)).toNat = c + n := by omega
      rw [if_pos hc2]
      dsimp only [Try.f62, Option.getD]
      simp only [reduceIte, reduceCtorEq, Nat.reduceAdd, Nat.reduceMul, Nat.reduceSub, Nat.reduceEqDiff, Nat.reduceLT, Nat.reduceLeDiff, Nat.reduceBEq, Int.reduceLT, Int.reduceLE, Int.reduceEq,
    Int.reduceNe, Int.reduceAdd, Int.reduceSub, Int.reduceMul, Int.reduceToNat, push_cast, pairsOk, locGet, locSet, nextGen, p2_int, intBin, len_str Try.underlying9, e1, c1, c2, hw, hw2, h4, sl_str_lh (P := Try.prog) Try.underlying9 h1 h2 h3]
    · have c2 : ((s.size : Int) - c < n) := by omega
      rw [if_neg hc2]
      dsimp only [Try.f62, Option.getD]
      simp only [reduceIte, reduceCtorEq, Nat.reduceAdd, Nat.reduceMul, Nat.reduceSub, Nat.reduceEqDiff, Nat.reduceLT, Nat.reduceLeDiff, Nat.reduceBEq, Int.reduceLT, Int.reduceLE, Int.reduceEq,
    Int.reduceNe, Int.reduceAdd, Int.reduceSub, Int.reduceMul, Int.reduceToNat, push_cast, pairsOk, locGet, locSet, nextGen, p2_int, intBin, len_str Try.underlying9, e1, c1, c2, hw]
  · rw [if_neg hc] at e1
    simp only [if_neg hc, Option.bind_none]
    dsimp only [Try.f62, Option.getD]
    simp only [reduceIte, reduceCtorEq, Nat.reduceAdd, Nat.reduceMul, Nat.reduceSub, Nat.reduceEqDiff, Nat.reduceLT, Nat.reduceLeDiff, Nat.reduceBEq, Int.reduceLT, Int.reduceLE, Int.reduceEq,
    Int.reduceNe, Int.reduceAdd, Int.reduceSub, Int.reduceMul, Int.reduceToNat, push_cast, pairsOk, locGet, locSet, nextGen, p2_int, intBin, len_str Try.underlying9, e1]
theorem f62_neg : acallI (cfg w0 t) 62 [vS s, vI (-1)] h = some (.ret (.tup [vS .empty, vI (-1)]), h, none) := by
  rw [E62]
  have e1 := f41_neg (w0 := w0) (t := t) s 1 h
  dsimp only [Try.f62, Option.getD]
  simp only [reduceIte, reduceCtorEq, Nat.reduceAdd, Nat.reduceMul, Nat.reduceSub, Nat.reduceEqDiff, Nat.reduceLT, Nat.reduceLeDiff, Nat.reduceBEq, Int.reduceLT, Int.reduceLE, Int.reduceEq,
    Int.reduceNe, Int.reduceAdd, Int.reduceSub, Int.reduceMul, Int.reduceToNat, push_cast, pairsOk, locGet, locSet, nextGen, p2_int, intBin, len_str Try.underlying9, e1]
theorem f42_neg : acallI (cfg w0 t) 42 [vS s, vI (-1)] h = some (.ret (.tup [.agg [vS .empty, vS .empty, vI 0, vI 0], vI (-1)]), h, none) := by
  rw [E42]
  have e1 := f41_neg (w0 := w0) (t := t) s 1 h
  have e2 := f41_neg (w0 := w0) (t := t) s 2 h
  have e3 := f62_neg (w0 := w0) (t := t) s hs h
  dsimp only [Try.f42, Option.getD]
  simp only [reduceIte, reduceCtorEq, Nat.reduceAdd, Nat.reduceMul, Nat.reduceSub, Nat.reduceEqDiff, Nat.reduceLT, Nat.reduceLeDiff, Nat.reduceBEq, Int.reduceLT, Int.reduceLE, Int.reduceEq,
    Int.reduceNe, Int.reduceAdd, Int.reduceSub, Int.reduceMul, Int.reduceToNat, push_cast, pairsOk, locGet, locSet, nextGen, e1, e2, e3]
/-- what reading a place comes to -/
def POut (s : ByteArray) (v : Option ((ByteArray × Nat × Nat) × Nat)) (h : H) (r : Option (Out × H × Option Nat)) : Prop := match v with
  | some (q, c) => r = some (.ret (.tup [.agg [vS .empty, vS q.1, vI q.2.1, vI q.2.2], vI c]), h, none)
  | none => ∃ x y z, r = some (.ret (.tup [.agg [vS .empty, vS x, vI y, vI z], vI (-1)]), h, none)
theorem f42 (a : Nat) (ha : a ≤ s.size) : POut s (rdP s a) h (acallI (cfg w0 t) 42 [vS s, vI a] h) := by
  rw [E42]
  have e1 := f62 (w0 := w0) (t := t) s hs h a ha
  have n1 := f41_neg (w0 := w0) (t := t) s 1 h
  have n2 := f41_neg (w0 := w0) (t := t) s 2 h
  unfold rdP
  cases hT : rdT s a with
  | none =>
    rw [hT] at e1
    simp only [Option.bind_none, POut]
    refine ⟨.empty, 0, 0, ?_⟩
    dsimp only [Try.f42, Option.getD]
    simp only [reduceIte, reduceCtorEq, Nat.reduceAdd, Nat.reduceMul, Nat.reduceSub, Nat.reduceEqDiff, Nat.reduceLT, Nat.reduceLeDiff, Nat.reduceBEq, Int.reduceLT, Int.reduceLE, Int.reduceEq,
    Int.reduceNe, Int.reduceAdd, Int.reduceSub, Int.reduceMul, Int.reduceToNat, push_cast, pairsOk, locGet, locSet, nextGen, e1, n1, n2]
  | some p =>
    obtain ⟨x, c⟩ := p
    rw [hT] at e1
    have hle := rdT_le hT
    have e2 := f41_1 (w0 := w0) (t := t) s hs h c hle.1
    simp only [Option.bind_some]
    unfold rdN
    by_cases hc : c + 1 ≤ s.size
    · rw [if_pos hc] at e2
      have e3 := f41_2 (w0 := w0) (t := t) s hs h (c + 1) hc
      simp only [if_pos hc, Option.bind_some]
      by_cases hc2 : c + 1 + 2 ≤ s.size
      · rw [if_pos hc2] at e3
        simp only [if_pos hc2, Option.bind_some, POut]
        generalize c + 1 + 2 = d at e3 ⊢
        generalize c + 1 = c1 at e2 e3 ⊢
        dsimp only [Try.f42, Option.getD]
        simp only [reduceIte, reduceCtorEq, Nat.reduceAdd, Nat.reduceMul, Nat.reduceSub, Nat.reduceEqDiff, Nat.reduceLT, Nat.reduceLeDiff, Nat.reduceBEq, Int.reduceLT, Int.reduceLE, Int.reduceEq,
    Int.reduceNe, Int.reduceAdd, Int.reduceSub, Int.reduceMul, Int.reduceToNat, push_cast, pairsOk, locGet, locSet, nextGen, e1, e2, e3]
      · rw [if_neg hc2] at e3
        simp only [if_neg hc2, Option.bind_none, POut]
        refine ⟨x, nAt s c 1, 0, ?_⟩
        generalize c + 1 = c1 at e2 e3 ⊢
        dsimp only [Try.f42, Option.getD]
        simp only [reduceIte, reduceCtorEq, Nat.reduceAdd, Nat.reduceMul, Nat.reduceSub, Nat.reduceEqDiff, Nat.reduceLT, Nat.reduceLeDiff, Nat.reduceBEq, Int.reduceLT, Int.reduceLE, Int.reduceEq,
    Int.reduceNe, Int.reduceAdd, Int.reduceSub, Int.reduceMul, Int.reduceToNat, push_cast, pairsOk, locGet, locSet, nextGen, e1, e2, e3]
    · rw [if_neg hc] at e2
      simp only [if_neg hc, Option.bind_none, POut]
      refine ⟨x, 0, 0, ?_⟩
      dsimp only [Try.f42, Option.getD]
      simp only [reduceIte, reduceCtorEq, Nat.reduceAdd, Nat.reduceMul, Nat.reduceSub, Nat.reduceEqDiff, Nat.reduceLT, Nat.reduceLeDiff, Nat.reduceBEq, Int.reduceLT, Int.reduceLE, Int.reduceEq,
    Int.reduceNe, Int.reduceAdd, Int.reduceSub, Int.reduceMul, Int.reduceToNat, push_cast, pairsOk, locGet, locSet, nextGen, e1, e2, n2]
end
end Go.Proofs.Ytmglahnoemgieaa.Ax
namespace Go.Proofs.Ytmglahnoemgieaa.Ax
open Go Go.RowKit
set_option linter.unusedSimpArgs false
set_option linter.unusedVariables false
set_option maxHeartbeats 8000000
set_option maxRecDepth 4000
variable {w0 : World} {t : Option Gf}
def R44j (H0 : H) (lo : Nat) (acc : List Pl) (g : Nat) (c0 c1 c2 c3 : AV) (F : Nat → AV) (l : List Pl) (c : Int) (R : Option (Ex × S)) : Prop :=
  ∃ F' loc' rv hh lw, R = some (.exit 2, ⟨fl 80 F', loc', hh, lw⟩) ∧ SlA H0 rv (plsC (acc ++ l)) (acc ++ l).length 4 hh ∧ locGet loc' 14 = some (g, .cells [c0, c1, c2, c3, rv]) ∧ F' 1 = vI c ∧ F' 0 = F 0 ∧ F' 2 = F 2 ∧ F' 8 = F 8 ∧ F' 9 = F 9 ∧ F' 14 = F 14 ∧ lwOver lw lo = true
def R44i (H0 : H) (lo : Nat) (acc : List Pl) (g : Nat) (c0 c1 c2 c3 : AV) (F : Nat → AV) (v : Option (List Pl × Nat)) (R : Option (Ex × S)) : Prop := match v with
  | some (l, c) => R44j H0 lo acc g c0 c1 c2 c3 F l c R
  | none => ∃ l, R44j H0 lo acc g c0 c1 c2 c3 F l (-1) R
theorem R44j.step {H0 : H} {lo : Nat} {acc : List Pl} {p : Pl} {g : Nat} {c0 c1 c2 c3 : AV} {F F0 : Nat → AV} {l : List Pl} {c : Int} {R : Option (Ex × S)} (k : R44j H0 lo (acc ++ [p]) g c0 c1 c2 c3 F l c R) (h0 : F 0 = F0 0) (h2 : F 2 = F0 2) (h8 : F 8 = F0 8) (h9 : F 9 = F0 9) (h14 : F 14 = F0 14) : R44j H0 lo acc g c0 c1 c2 c3 F0 (p :: l) c R := by
  obtain ⟨F', loc', rv, hh, lw, k1, k2, k3, k4, k5, k6, k7, k8, k9, k10⟩ := k
  rw [List.append_assoc, List.singleton_append] at k2
  exact ⟨F', loc', rv, hh, lw, k1, k2, k3, k4, k5.trans h0, k6.trans h2, k7.trans h8, k8.trans h9, k9.trans h14, k10⟩
theorem R44i.step {H0 : H} {lo : Nat} {acc : List Pl} {p : Pl} {g : Nat} {c0 c1 c2 c3 : AV} {F F0 : Nat → AV} {v : Option (List Pl × Nat)} {R : Option (Ex × S)} (k : R44i H0 lo (acc ++ [p]) g c0 c1 c2 c3 F v R) (h0 : F 0 = F0 0) (h2 : F 2 = F0 2) (h8 : F 8 = F0 8) (h9 : F 9 = F0 9) (h14 : F 14 = F0 14) : R44i H0 lo acc g c0 c1 c2 c3 F0 (v.bind fun q => some (p :: q.1, q.2)) R := by
  cases v with
  | none =>
    obtain ⟨l, k⟩ := k
    exact ⟨p :: l, R44j.step k h0 h2 h8 h9 h14⟩
  | some q => exact R44j.step (l := q.1) (c := q.2) k h0 h2 h8 h9 h14
theorem L44n (H0 : H) (lo : Nat) (acc : List Pl) (g : Nat) (c0 c1 c2 c3 rv : AV) (hh : H) (F : Nat → AV) (loc : Loc) (lw : Option Nat) (j k : Int) (hlw : lwOver lw lo = true)
    (hS : SlA H0 rv (plsC acc) acc.length 4 hh) (hl : locGet loc 14 = some (g, .cells [c0, c1, c2, c3, rv])) (h1 : F 1 = vI (-1)) (h12 : F 12 = vI k) (h15 : F 15 = vI j) :
    R44j H0 lo acc g c0 c1 c2 c3 F [] (-1) (acodeI (cfg w0 t) 44 (.loop (lp Try.f44 1)) ⟨fl 80 F, loc, hh, lw⟩) := by
  dsimp only [lp, loopsOf, Try.f44, Option.getD, List.append_eq, List.nil_append, List.cons_append, List.getElem?_cons_zero, List.getElem?_cons_succ]
  rw [X_loop]
  unfold R44j
  rw [List.append_nil]
  by_cases e : j < k <;>
  simp only [reduceIte, reduceCtorEq, Nat.reduceAdd, Nat.reduceMul, Nat.reduceSub, Nat.reduceEqDiff, Nat.reduceLT, Nat.reduceLeDiff, Nat.reduceBEq, Int.reduceLT, Int.reduceLE, Int.reduceEq,
    Int.reduceNe, Int.reduceAdd, Int.reduceSub, Int.reduceMul, Int.reduceToNat, push_cast, pairsOk, locGet_set, p2_int, intBin, h1, h12, h15, e] <;>
  exact ⟨_, _, rv, hh, _, rfl, hS, hl, by simp only [reduceIte, reduceCtorEq, Nat.reduceAdd, Nat.reduceMul, Nat.reduceSub, Nat.reduceEqDiff, Nat.reduceLT, Nat.reduceLeDiff, Nat.reduceBEq, Int.reduceLT, Int.reduceLE, Int.reduceEq,
    Int.reduceNe, Int.reduceAdd, Int.reduceSub, Int.reduceMul, Int.reduceToNat, push_cast, pairsOk, locGet_set, h1], by simp only [reduceIte, reduceCtorEq, Nat.reduceAdd, Nat.reduceMul, Nat.reduceSub, Nat.reduceEqDiff, Nat.reduceLT, Nat.reduceLeDiff, Nat.reduceBEq, Int.reduceLT, Int.reduceLE, Int.reduceEq,
    Int.reduceNe, Int.reduceAdd, Int.reduceSub, Int.reduceMul, Int.reduceToNat, push_cast, pairsOk, locGet_set], by simp only [reduceIte, reduceCtorEq, Nat.reduceAdd, Nat.reduceMul, Nat.reduceSub, Nat.reduceEqDiff, Nat.reduceLT, Nat.reduceLeDiff, Nat.reduceBEq, Int.reduceLT, Int.reduceLE, Int.reduceEq,
    Int.reduceNe, Int.reduceAdd, Int.reduceSub, Int.reduceMul, Int.reduceToNat, push_cast, pairsOk, locGet_set], by simp only [reduceIte, reduceCtorEq, Nat.reduceAdd, Nat.reduceMul, Nat.reduceSub, Nat.reduceEqDiff, Nat.reduceLT, Nat.reduceLeDiff, Nat.reduceBEq, Int.reduceLT, Int.reduceLE, Int.reduceEq,
    Int.reduceNe, Int.reduceAdd, Int.reduceSub, Int.reduceMul, Int.reduceToNat, push_cast, pairsOk, locGet_set], by simp only [reduceIte, reduceCtorEq, Nat.reduceAdd, Nat.reduceMul, Nat.reduceSub, Nat.reduceEqDiff, Nat.reduceLT, Nat.reduceLeDiff, Nat.reduceBEq, Int.reduceLT, Int.reduceLE, Int.reduceEq,
    Int.reduceNe, Int.reduceAdd, Int.reduceSub, Int.reduceMul, Int.reduceToNat, push_cast, pairsOk, locGet_set], by simp only [reduceIte, reduceCtorEq, Nat.reduceAdd, Nat.reduceMul, Nat.reduceSub, Nat.reduceEqDiff, Nat.reduceLT, Nat.reduceLeDiff, Nat.reduceBEq, Int.reduceLT, Int.reduceLE, Int.reduceEq,
    Int.reduceNe, Int.reduceAdd, Int.reduceSub, Int.reduceMul, Int.reduceToNat, push_cast, pairsOk, locGet_set], hlw⟩
theorem L44i (H0 : H) (lo : Nat) (hlo : lo ≤ H0.length) (s : ByteArray) (hs : s.size ≤ 9223372036854775000) (k : Nat) (hk : k < 65536) (g : Nat) (c0 c1 c2 c3 : AV) : ∀ (m j a : Nat) (acc : List Pl) (rv : AV) (hh : H) (F : Nat → AV) (loc : Loc) (lw : Option Nat), j + m = k → acc.length = j → a ≤ s.size → lwOver lw lo = true →
    SlA H0 rv (plsC acc) acc.length 4 hh → locGet loc 14 = some (g, .cells [c0, c1, c2, c3, rv]) → F 0 = vS s → F 1 = vI a → F 12 = vI k → F 14 = .bx 14 g 0 → F 15 = vI j →
    R44i H0 lo acc g c0 c1 c2 c3 F (rdLs s m a) (acodeI (cfg w0 t) 44 (.loop (lp Try.f44 1)) ⟨fl 80 F, loc, hh, lw⟩) := by
  have hneg := L44n (w0 := w0) (t := t) H0 lo
  dsimp only [lp, loopsOf, Try.f44, Option.getD, List.append_eq, List.nil_append, List.cons_append, List.getElem?_cons_zero, List.getElem?_cons_succ] at hneg ⊢
  intro m
  induction m with
  | zero =>
    intro j a acc rv hh F loc lw hj hacc ha hlw hS hl h0 h1 h12 h14 h15
    have e : ¬ ((j : Int) < k) := by omega
    rw [X_loop]
    simp only [rdLs, R44i]
    unfold R44j
    rw [List.append_nil]
    simp only [reduceIte, reduceCtorEq, Nat.reduceAdd, Nat.reduceMul, Nat.reduceSub, Nat.reduceEqDiff, Nat.reduceLT, Nat.reduceLeDiff, Nat.reduceBEq, Int.reduceLT, Int.reduceLE, Int.reduceEq,
    Int.reduceNe, Int.reduceAdd, Int.reduceSub, Int.reduceMul, Int.reduceToNat, push_cast, pairsOk, locGet_set, p2_int, intBin, h0, h1, h12, h14, h15, e]
    exact ⟨_, _, rv, hh, _, rfl, hS, hl, by simp only [reduceIte, reduceCtorEq, Nat.reduceAdd, Nat.reduceMul, Nat.reduceSub, Nat.reduceEqDiff, Nat.reduceLT, Nat.reduceLeDiff, Nat.reduceBEq, Int.reduceLT, Int.reduceLE, Int.reduceEq,
    Int.reduceNe, Int.reduceAdd, Int.reduceSub, Int.reduceMul, Int.reduceToNat, push_cast, pairsOk, locGet_set, h1], by simp only [reduceIte, reduceCtorEq, Nat.reduceAdd, Nat.reduceMul, Nat.reduceSub, Nat.reduceEqDiff, Nat.reduceLT, Nat.reduceLeDiff, Nat.reduceBEq, Int.reduceLT, Int.reduceLE, Int.reduceEq,
    Int.reduceNe, Int.reduceAdd, Int.reduceSub, Int.reduceMul, Int.reduceToNat, push_cast, pairsOk, locGet_set, h0], by simp only [reduceIte, reduceCtorEq, Nat.reduceAdd, Nat.reduceMul, Nat.reduceSub, Nat.reduceEqDiff, Nat.reduceLT, Nat.reduceLeDiff, Nat.reduceBEq, Int.reduceLT, Int.reduceLE, Int.reduceEq,
    Int.reduceNe, Int.reduceAdd, Int.reduceSub, Int.reduceMul, Int.reduceToNat, push_cast, pairsOk, locGet_set], by simp only [reduceIte, reduceCtorEq, Nat.reduceAdd, Nat.reduceMul, Nat.reduceSub, Nat.reduceEqDiff, Nat.reduceLT, Nat.reduceLeDiff, Nat.reduceBEq, Int.reduceLT, Int.reduceLE, Int.reduceEq,
    Int.reduceNe, Int.reduceAdd, Int.reduceSub, Int.reduceMul, Int.reduceToNat, push_cast, pairsOk, locGet_set], by simp only [reduceIte, reduceCtorEq, Nat.reduceAdd, Nat.reduceMul, Nat.reduceSub, Nat.reduceEqDiff, Nat.reduceLT, Nat.reduceLeDiff, Nat.reduceBEq, Int.reduceLT, Int.reduceLE, Int.reduceEq,
    Int.reduceNe, Int.reduceAdd, Int.reduceSub, Int.reduceMul, Int.reduceToNat, push_cast, pairsOk, locGet_set], by simp only [reduceIte, reduceCtorEq, Nat.reduceAdd, Nat.reduceMul, Nat.reduceSub, Nat.reduceEqDiff, Nat.reduceLT, Nat.reduceLeDiff, Nat.reduceBEq, Int.reduceLT, Int.reduceLE, Int.reduceEq,
    Int.reduceNe, Int.reduceAdd, Int.reduceSub, Int.reduceMul, Int.reduceToNat, push_cast, pairsOk, locGet_set, h14], hlw⟩
  | succ m ih =>
    intro j a acc rv hh F loc lw hj hacc ha hlw hS hl h0 h1 h12 h14 h15
    have e : (j : Int) < k := by omega
    have ha0 : (0 : Int) ≤ (a : Int) := by omega
    have hw : IntKind.i64.wrap ((j : Int) + 1) = ((j + 1 : Nat) : Int) := by rw [wrap_i64] <;> omega
    have hnb := hS.nb
    have hlc : (plsC acc).length = acc.length * 4 := plsC_length acc
    have happ := fun (bk x : ByteArray) (y z : Int) => app_slA (w0 := w0) (t := t) (call := acallI (cfg w0 t)) hS sizeT_40 room40 (by decide) hlc (xs := [vS bk, vS x, vI y, vI z]) rfl rfl (by omega)
    have hpls : ∀ (bk x : ByteArray) (y z : Int), plsC acc ++ [vS bk, vS x, vI y, vI z] = plsC (acc ++ [⟨bk, x, y, z⟩]) := by intro bk x y z; simp [plsC, plC]
    have hlen1 : ∀ p : Pl, acc.length + 1 = (acc ++ [p]).length := by intro p; simp
    have hov : ∀ {x : Option Nat}, lwOver x H0.length = true → lwOver x lo = true := by
      intro x hx
      cases x with
      | none => rfl
      | some x => simp [lwOver] at hx ⊢; omega
    have e1 := f62 (w0 := w0) (t := t) s hs hh a ha
    unfold rdLs rdL
    cases hT : rdT s a with
    | none =>
      rw [hT] at e1
      have e2 := f42_neg (w0 := w0) (t := t) s hs hh
      obtain ⟨rv2, hh2, lw3, hd, hS2, hlw3, hnb2⟩ := happ .empty .empty 0 0
      rw [hpls, hlen1 ⟨.empty, .empty, 0, 0⟩] at hS2
      simp only [Option.bind_none, R44i]
      rw [X_loop]
      refine ⟨[⟨.empty, .empty, 0, 0⟩], ?_⟩
      simp only [reduceIte, reduceCtorEq, Nat.reduceAdd, Nat.reduceMul, Nat.reduceSub, Nat.reduceEqDiff, Nat.reduceLT, Nat.reduceLeDiff, Nat.reduceBEq, Int.reduceLT, Int.reduceLE, Int.reduceEq,
    Int.reduceNe, Int.reduceAdd, Int.reduceSub, Int.reduceMul, Int.reduceToNat, push_cast, pairsOk, locGet_set, p2_int, intBin, zerosA, List.range, List.range.loop, Nat.zero_mod, getT, h0, h1, h12, h14, h15, e, ha0, hl, e1, e2, hd, hnb.1, hnb.2, hnb2.1, hnb2.2, c_one hnb2.2, hw]
      refine R44j.step (hneg (acc ++ [⟨.empty, .empty, 0, 0⟩]) g c0 c1 c2 c3 rv2 hh2 _ _ _ ((j + 1 : Nat) : Int) k ?_ hS2 ?_ ?_ ?_ ?_) ?_ ?_ ?_ ?_ ?_ <;> simp only [reduceIte, reduceCtorEq, Nat.reduceAdd, Nat.reduceMul, Nat.reduceSub, Nat.reduceEqDiff, Nat.reduceLT, Nat.reduceLeDiff, Nat.reduceBEq, Int.reduceLT, Int.reduceLE, Int.reduceEq,
    Int.reduceNe, Int.reduceAdd, Int.reduceSub, Int.reduceMul, Int.reduceToNat, push_cast, pairsOk, locGet_set, h0, h12, h14, hl, hlw, hov hlw3]
    | some p =>
      obtain ⟨bk, c⟩ := p
      rw [hT] at e1
      have hle := rdT_le hT
      have e2 := f42 (w0 := w0) (t := t) s hs hh c hle.1
      simp only [Option.bind_some]
      cases hP : rdP s c with
      | none =>
        rw [hP] at e2
        obtain ⟨x, y, z, e2⟩ := e2
        obtain ⟨rv2, hh2, lw3, hd, hS2, hlw3, hnb2⟩ := happ bk x y z
        rw [hpls, hlen1 ⟨bk, x, y, z⟩] at hS2
        simp only [Option.bind_none, R44i]
        rw [X_loop]
        refine ⟨[⟨bk, x, y, z⟩], ?_⟩
        simp only [reduceIte, reduceCtorEq, Nat.reduceAdd, Nat.reduceMul, Nat.reduceSub, Nat.reduceEqDiff, Nat.reduceLT, Nat.reduceLeDiff, Nat.reduceBEq, Int.reduceLT, Int.reduceLE, Int.reduceEq,
    Int.reduceNe, Int.reduceAdd, Int.reduceSub, Int.reduceMul, Int.reduceToNat, push_cast, pairsOk, locGet_set, p2_int, intBin, zerosA, List.range, List.range.loop, Nat.zero_mod, getT, h0, h1, h12, h14, h15, e, ha0, hl, e1, e2, hd, hnb.1, hnb.2, hnb2.1, hnb2.2, c_one hnb2.2, hw]
        refine R44j.step (hneg (acc ++ [⟨bk, x, y, z⟩]) g c0 c1 c2 c3 rv2 hh2 _ _ _ ((j + 1 : Nat) : Int) k ?_ hS2 ?_ ?_ ?_ ?_) ?_ ?_ ?_ ?_ ?_ <;> simp only [reduceIte, reduceCtorEq, Nat.reduceAdd, Nat.reduceMul, Nat.reduceSub, Nat.reduceEqDiff, Nat.reduceLT, Nat.reduceLeDiff, Nat.reduceBEq, Int.reduceLT, Int.reduceLE, Int.reduceEq,
    Int.reduceNe, Int.reduceAdd, Int.reduceSub, Int.reduceMul, Int.reduceToNat, push_cast, pairsOk, locGet_set, h0, h12, h14, hl, hlw, hov hlw3]
      | some p2 =>
        obtain ⟨q, d⟩ := p2
        rw [hP] at e2
        replace e2 : acallI (cfg w0 t) 42 [vS s, vI c] hh = some (.ret (.tup [.agg [vS .empty, vS q.1, vI q.2.1, vI q.2.2], vI d]), hh, none) := e2
        have hle2 := rdP_le hP
        obtain ⟨rv2, hh2, lw3, hd, hS2, hlw3, hnb2⟩ := happ bk q.1 q.2.1 q.2.2
        rw [hpls, hlen1 ⟨bk, q.1, q.2.1, q.2.2⟩] at hS2
        have ih := ih (j + 1) d (acc ++ [⟨bk, q.1, q.2.1, q.2.2⟩]) rv2 hh2
        simp only [Option.bind_some]
        rw [X_loop]
        simp only [reduceIte, reduceCtorEq, Nat.reduceAdd, Nat.reduceMul, Nat.reduceSub, Nat.reduceEqDiff, Nat.reduceLT, Nat.reduceLeDiff, Nat.reduceBEq, Int.reduceLT, Int.reduceLE, Int.reduceEq,
    Int.reduceNe, Int.reduceAdd, Int.reduceSub, Int.reduceMul, Int.reduceToNat, push_cast, pairsOk, locGet_set, p2_int, intBin, zerosA, List.range, List.range.loop, Nat.zero_mod, getT, h0, h1, h12, h14, h15, e, ha0, hl, e1, e2, hd, hnb.1, hnb.2, hnb2.1, hnb2.2, c_one hnb2.2, hw]
        refine R44i.step (ih _ _ _ (by omega) (by simp; omega) hle2.1 ?_ hS2 ?_ ?_ ?_ ?_ ?_ ?_) ?_ ?_ ?_ ?_ ?_ <;> simp only [reduceIte, reduceCtorEq, Nat.reduceAdd, Nat.reduceMul, Nat.reduceSub, Nat.reduceEqDiff, Nat.reduceLT, Nat.reduceLeDiff, Nat.reduceBEq, Int.reduceLT, Int.reduceLE, Int.reduceEq,
    Int.reduceNe, Int.reduceAdd, Int.reduceSub, Int.reduceMul, Int.reduceToNat, push_cast, pairsOk, locGet_set, h0, h12, h14, hl, hlw, hov hlw3]
end Go.Proofs.Ytmglahnoemgieaa.Ax
namespace Go.Proofs.Ytmglahnoemgieaa.Ax
open Go Go.RowKit
set_option linter.unusedSimpArgs false
set_option linter.unusedVariables false
set_option maxHeartbeats 8000000
set_option maxRecDepth 4000
variable {w0 : World} {t : Option Gf}
/-- the document's edges in a slice of our own, all above a mark, none of them in the slice's own block -/
def REdsI (lo : Nat) (h : H) (l : List Ed) (v : AV) : Prop := (l = [] ∧ v = .val (.slice none 0 0)) ∨ ∃ bE g cells, v = .sl bE g 0 l.length 5 ∧ lo ≤ bE ∧ h[bE]? = some ⟨cells, g⟩ ∧ cells.length = l.length * 5 ∧
  ∀ i e, l[i]? = some e → ∃ rv, (cells.drop (i * 5)).take 4 = [vS .empty, vS e.sheet, vI e.col, vI e.row] ∧ cells[i * 5 + 4]? = some rv ∧ SlR h rv (plsC e.reads) e.reads.length 4 ∧ ∀ b g o n es, rv = .sl b g o n es → lo ≤ b ∧ b ≠ bE
theorem REdsI.redsV {lo : Nat} {h : H} {l : List Ed} {v : AV} (k : REdsI lo h l v) : REdsV h l v := by
  rcases k with ⟨h1, h2⟩ | ⟨bE, g, cells, h1, h2, h3, h4, h5⟩
  · exact .inr ⟨h1, h2⟩
  · refine .inl ⟨bE, g, ⟨cells, g⟩, h1, h3, rfl, h4, fun i e hi => ?_⟩
    obtain ⟨rv, q1, q2, q3, _⟩ := h5 i e hi
    exact ⟨rv, q1, q2, q3⟩
theorem REdsI.move {lo : Nat} {h h' : H} {l : List Ed} {v : AV} (k : REdsI lo h l v) (hk : ∀ j, lo ≤ j → j < h.length → h'[j]? = h[j]?) : REdsI lo h' l v := by
  rcases k with ⟨h1, h2⟩ | ⟨bE, g, cells, h1, h2, h3, h4, h5⟩
  · exact .inl ⟨h1, h2⟩
  · refine .inr ⟨bE, g, cells, h1, h2, (hk bE h2 (List.getElem?_eq_some_iff.1 h3).1).trans h3, h4, fun i e hi => ?_⟩
    obtain ⟨rv, q1, q0, q2, q3⟩ := h5 i e hi
    exact ⟨rv, q1, q0, q2.move (fun b g o n es e => (q3 b g o n es e).1) hk, q3⟩
theorem REdsI.nb {lo : Nat} {h : H} {l : List Ed} {v : AV} (k : REdsI lo h l v) : noBx v = true ∧ oneA v = true := by
  rcases k with ⟨_, rfl⟩ | ⟨_, _, _, rfl, _⟩ <;> exact ⟨rfl, rfl⟩
theorem cells_at5 {cells xs : List AV} {n i : Nat} (hc : cells.length = n * 5) (hi : i < n) : ((cells ++ xs).drop (i * 5)).take 4 = (cells.drop (i * 5)).take 4 := by
  rw [List.drop_append_of_le_length (by omega), List.take_append_of_le_length (by rw [List.length_drop]; omega)]
theorem app_red {call : CallF} {lo : Nat} {h : H} {l : List Ed} {v : AV} (k : REdsI lo h l v) (e : Ed) (rv : AV) (hS : SlR h rv (plsC e.reads) e.reads.length 4) (hnew : ∀ b g o n es, rv = .sl b g o n es → lo ≤ b ∧ ∀ bE g' n', v = .sl bE g' 0 n' 5 → b ≠ bE) (hlo : lo ≤ h.length) (hn : l.length < 100000) :
    ∃ v' h' lw, doHeap (cfg w0 t) call h (.app 88 v (.lit [vS .empty, vS e.sheet, vI e.col, vI e.row, rv] 1)) = some (.val v' h' lw) ∧ REdsI lo h' (l ++ [e]) v' ∧ lwOver lw lo = true ∧ h.length ≤ h'.length ∧ noBx v' = true ∧ oneA v' = true := by
  have ho : [vS .empty, vS e.sheet, vI e.col, vI e.row, rv].all oneA = true := by rcases hS with ⟨_, _, _, rfl, _⟩ | ⟨_, rfl⟩ <;> rfl
  have hs : ∀ hh, ((srcCells hh 5 (.lit [vS .empty, vS e.sheet, vI e.col, vI e.row, rv] 1)).orElse fun _ => srcForeign w0 5 (.lit [vS .empty, vS e.sheet, vI e.col, vI e.row, rv] 1)) = some ([vS .empty, vS e.sheet, vI e.col, vI e.row, rv], 1) := by
    intro hh
    simp [srcCells]
  have h1 : ¬ (1 = 0) := by decide
  rcases k with ⟨rfl, rfl⟩ | ⟨bE, g, cells, rfl, h2, h3, h4, h5⟩
  · refine ⟨.sl h.length 0 0 1 5, h ++ [⟨[vS .empty, vS e.sheet, vI e.col, vI e.row, rv], 0⟩], none, ?_, .inr ⟨h.length, 0, _, rfl, hlo, top_get, rfl, ?_⟩, rfl, by simp, rfl, rfl⟩
    · simp only [doHeap, cfg_P, cfg_w0, sizeT_88, hs, ho, room_mono room88 (show 1 ≤ 1000000 by omega), h1]
      rfl
    · intro i e' hi
      cases i with
      | zero =>
        simp at hi
        subst hi
        refine ⟨rv, by simp, by simp, hS.move (lo := 0) (fun _ _ _ _ _ _ => Nat.zero_le _) (fun j _ hj => List.getElem?_append_left hj), fun b g o n es q => ⟨(hnew b g o n es q).1, ?_⟩⟩
        subst q
        rcases hS with ⟨b', g', k', q, hb', _⟩ | ⟨_, q⟩
        · cases q
          have := (List.getElem?_eq_some_iff.1 hb').1
          omega
        · cases q
      | succ i => simp at hi
  · have hb := (List.getElem?_eq_some_iff.1 h3).1
    have hroom := room_mono room88 (show l.length + 1 ≤ 1000000 by omega)
    have e1 : List.take (l.length * 5) cells = cells := by rw [← h4, List.take_length]
    have e2 : ¬ ((l.length + 1) * 5 ≤ cells.length) := by omega
    have e3 : l.length * 5 ≤ cells.length := by omega
    have hset : ∀ (x : Blk) j, j ≠ bE → (h.set bE x)[j]? = h[j]? := fun x j hj => List.getElem?_set_ne (by omega)
    refine ⟨.sl bE (g + 1) 0 (l.length + 1) 5, h.set bE ⟨cells ++ [vS .empty, vS e.sheet, vI e.col, vI e.row, rv], g + 1⟩, some bE, ?_, .inr ⟨bE, g + 1, cells ++ [vS .empty, vS e.sheet, vI e.col, vI e.row, rv], by simp, h2, by simp [hb], by simp [h4]; omega, ?_⟩, by simp [lwOver]; omega, by simp, rfl, rfl⟩
    · simp only [doHeap, cfg_P, cfg_w0, sizeT_88, hs, ho, h3, hroom, h1, Nat.zero_add, e1, e2, e3]
      simp
    · intro i e' hi
      by_cases hl : i < l.length
      · rw [List.getElem?_append_left hl] at hi
        obtain ⟨rv', q1, q0, q2, q3⟩ := h5 i e' hi
        refine ⟨rv', by rw [cells_at5 h4 hl]; exact q1, by rw [List.getElem?_append_left (by omega)]; exact q0, ?_, q3⟩
        rcases q2 with ⟨b', g', k', rfl, r1, r2, r3⟩ | ⟨r1, r2⟩
        · exact .inl ⟨b', g', k', rfl, (hset _ b' (q3 _ _ _ _ _ rfl).2).trans r1, r2, r3⟩
        · exact .inr ⟨r1, r2⟩
      · have hil : i = l.length := by
          have := (List.getElem?_eq_some_iff.1 hi).1
          simp at this
          omega
        subst hil
        simp at hi
        subst hi
        have hd : ((cells ++ [vS .empty, vS e.sheet, vI e.col, vI e.row, rv]).drop (l.length * 5)).take 4 = [vS .empty, vS e.sheet, vI e.col, vI e.row] := by
          rw [← h4, List.drop_left]
          rfl
        have hd4 : (cells ++ [vS .empty, vS e.sheet, vI e.col, vI e.row, rv])[l.length * 5 + 4]? = some rv := by
          rw [List.getElem?_append_right (by omega), h4, Nat.add_sub_cancel_left]
          rfl
        refine ⟨rv, hd, hd4, ?_, fun b g' o n es q => ⟨(hnew b g' o n es q).1, (hnew b g' o n es q).2 bE g l.length rfl⟩⟩
        rcases hS with ⟨b', g', k', rfl, r1, r2, r3⟩ | ⟨r1, r2⟩
        · exact .inl ⟨b', g', k', rfl, (hset _ b' ((hnew _ _ _ _ _ rfl).2 bE g l.length rfl)).trans r1, r2, r3⟩
        · exact .inr ⟨r1, r2⟩
def genOf : AV → Nat
  | .bx _ g _ => g
  | _ => 0
theorem genOf_bx {s g o : Nat} : genOf (.bx s g o) = g := rfl
/-- one edge more, whatever it is -/
theorem L44t (ok : CfgOk (cfg w0 t)) (lo : Nat) (s : ByteArray) (n i : Int) (hin : i < n) (acc : List Ed) (hacc : acc.length < 100000) (ov : AV) (hh : H) (hlo : lo ≤ hh.length) (hI : REdsI lo hh acc ov) (a : Int) (ha : 0 ≤ a) (x : ByteArray) (y z pa k b : Int)
    (e1 : acallI (cfg w0 t) 42 [vS s, vI a] hh = some (.ret (.tup [.agg [vS .empty, vS x, vI y, vI z], vI pa]), hh, none)) (e2 : acallI (cfg w0 t) 41 [vS s, vI pa, vI 2] hh = some (.ret (.tup [vI k, vI b]), hh, none))
    (PL : List Pl → Prop) (cc : Int) (hinn : ∀ (g : Nat) (F : Nat → AV) (loc : Loc) (lw : Option Nat), lwOver lw lo = true → locGet loc 14 = some (g, .cells [vS .empty, vS x, vI y, vI z, .val (.slice none 0 0)]) → F 0 = vS s → F 1 = vI b → F 12 = vI k → F 14 = .bx 14 g 0 → F 15 = vI 0 → ∃ lr, PL lr ∧ R44j hh lo [] g (vS .empty) (vS x) (vI y) (vI z) F lr cc (acodeI (cfg w0 t) 44 (.loop (lp Try.f44 1)) ⟨fl 80 F, loc, hh, lw⟩))
    (X : Option (Ex × S) → Prop) (hnext : ∀ (lr : List Pl) (_ : PL lr) (F : Nat → AV) (loc : Loc) (lw : Option Nat) (hh2 : H) (ov2 : AV), REdsI lo hh2 (acc ++ [⟨x, y, z, lr⟩]) ov2 → lo ≤ hh2.length → lwOver lw lo = true → F 0 = vS s → F 1 = vI cc → F 2 = vI n → F 8 = ov2 → F 9 = vI (IntKind.i64.wrap (i + 1)) → X (acodeI (cfg w0 t) 44 (.loop (lp Try.f44 0)) ⟨fl 80 F, loc, hh2, lw⟩))
    (F : Nat → AV) (loc : Loc) (lw : Option Nat) (hlw : lwOver lw lo = true) (h0 : F 0 = vS s) (h1 : F 1 = vI a) (h2 : F 2 = vI n) (h8 : F 8 = ov) (h9 : F 9 = vI i) :
    X (acodeI (cfg w0 t) 44 (.loop (lp Try.f44 0)) ⟨fl 80 F, loc, hh, lw⟩) := by
  obtain ⟨G, hG⟩ := skol (P := fun a' : (Nat → AV) × Loc × Option Nat => lwOver a'.2.2 lo = true ∧ locGet a'.2.1 14 = some (genOf (a'.1 14), .cells [vS .empty, vS x, vI y, vI z, .val (.slice none 0 0)]) ∧ a'.1 0 = vS s ∧ a'.1 1 = vI b ∧ a'.1 12 = vI k ∧ a'.1 14 = .bx 14 (genOf (a'.1 14)) 0 ∧ a'.1 15 = vI 0)
    (Q := fun a' c => acodeI (cfg w0 t) 44 (.loop (lp Try.f44 1)) ⟨fl 80 a'.1, a'.2.1, hh, a'.2.2⟩ = some (.exit 2, ⟨fl 80 c.1, c.2.1, c.2.2.1, c.2.2.2.1⟩) ∧ locGet c.2.1 14 = some (genOf (a'.1 14), .cells [vS .empty, vS x, vI y, vI z, c.2.2.2.2.1]) ∧ c.1 1 = vI cc ∧ c.1 0 = a'.1 0 ∧ c.1 2 = a'.1 2 ∧ c.1 8 = a'.1 8 ∧ c.1 9 = a'.1 9 ∧ c.1 14 = a'.1 14 ∧ lwOver c.2.2.2.1 lo = true ∧ noBx c.2.2.2.2.1 = true ∧ oneA c.2.2.2.2.1 = true ∧
      doHeap (cfg w0 t) (acallI (cfg w0 t)) c.2.2.1 (.app 88 ov (.lit [vS .empty, vS x, vI y, vI z, c.2.2.2.2.1] 1)) = some (.val c.2.2.2.2.2.1 c.2.2.2.2.2.2.1 c.2.2.2.2.2.2.2.1) ∧ REdsI lo c.2.2.2.2.2.2.1 (acc ++ [⟨x, y, z, c.2.2.2.2.2.2.2.2⟩]) c.2.2.2.2.2.1 ∧ lwOver c.2.2.2.2.2.2.2.1 lo = true ∧ lo ≤ c.2.2.2.2.2.2.1.length ∧ noBx c.2.2.2.2.2.1 = true ∧ oneA c.2.2.2.2.2.1 = true ∧ PL c.2.2.2.2.2.2.2.2)
    (β := (Nat → AV) × Loc × H × Option Nat × AV × AV × H × Option Nat × List Pl) (fun a' ha' => by
      obtain ⟨lr, hlr, F', loc', rv, hh', lw', q1, q2, q3, q4, q5, q6, q7, q8, q9, q10⟩ := hinn (genOf (a'.1 14)) a'.1 a'.2.1 a'.2.2 ha'.1 ha'.2.1 ha'.2.2.1 ha'.2.2.2.1 ha'.2.2.2.2.1 ha'.2.2.2.2.2.1 ha'.2.2.2.2.2.2
      rw [List.nil_append] at q2
      obtain ⟨ex, hex⟩ := q2.le
      have hI' : REdsI lo hh' acc ov := hI.move (fun j _ hj => by rw [hex, List.getElem?_append_left hj])
      have hblk : ∀ b2 g o n2 es, rv = .sl b2 g o n2 es → b2 = hh.length := by
        intro b2 g o n2 es q
        rcases q2 with ⟨_, _, q', _⟩ | ⟨_, q', _⟩
        · rw [q'] at q; cases q
        · rw [q'] at q; cases q; rfl
      have hnew : ∀ b2 g o n2 es, rv = .sl b2 g o n2 es → lo ≤ b2 ∧ ∀ bE g' n', ov = .sl bE g' 0 n' 5 → b2 ≠ bE := by
        intro b2 g o n2 es q
        rw [hblk b2 g o n2 es q]
        refine ⟨hlo, fun bE g' n' q' => ?_⟩
        rcases hI with ⟨_, q3⟩ | ⟨bE', g2, cells, q3, _, q4, _⟩
        · rw [q3] at q'; cases q'
        · rw [q3] at q'
          cases q'
          have := (List.getElem?_eq_some_iff.1 q4).1
          omega
      obtain ⟨v', h', lw2, r1, r2, r3, r4, r5, r6⟩ := app_red (w0 := w0) (t := t) (call := acallI (cfg w0 t)) hI' ⟨x, y, z, lr⟩ rv q2.slR hnew (by rw [hex]; simp; omega) (by omega)
      have hle : hh.length ≤ hh'.length := by rw [hex]; simp
      exact ⟨(F', loc', hh', lw', rv, v', h', lw2, lr), q1, q3, q4, q5, q6, q7, q8, q9, q10, q2.nb.1, q2.nb.2, r1, r2, r3, by simp only; omega, r5, r6, hlr⟩)
  have G1 := fun F loc lw hc => (hG (F, loc, lw) hc).1
  have G2 := fun F loc lw hc => (hG (F, loc, lw) hc).2.1
  have G3 := fun F loc lw hc => (hG (F, loc, lw) hc).2.2.1
  have G4 := fun F loc lw hc => (hG (F, loc, lw) hc).2.2.2.1
  have G5 := fun F loc lw hc => (hG (F, loc, lw) hc).2.2.2.2.1
  have G6 := fun F loc lw hc => (hG (F, loc, lw) hc).2.2.2.2.2.1
  have G7 := fun F loc lw hc => (hG (F, loc, lw) hc).2.2.2.2.2.2.1
  have G8 := fun F loc lw hc => (hG (F, loc, lw) hc).2.2.2.2.2.2.2.1
  have G9 := fun F loc lw hc => (hG (F, loc, lw) hc).2.2.2.2.2.2.2.2.1
  have Ga := fun F loc lw hc => (hG (F, loc, lw) hc).2.2.2.2.2.2.2.2.2.1
  have Gb := fun F loc lw hc => (hG (F, loc, lw) hc).2.2.2.2.2.2.2.2.2.2.1
  have Gc := fun F loc lw hc => (hG (F, loc, lw) hc).2.2.2.2.2.2.2.2.2.2.2.1
  have Gd := fun F loc lw hc => (hG (F, loc, lw) hc).2.2.2.2.2.2.2.2.2.2.2.2.1
  have Ge := fun F loc lw hc => (hG (F, loc, lw) hc).2.2.2.2.2.2.2.2.2.2.2.2.2.1
  have Gf := fun F loc lw hc => (hG (F, loc, lw) hc).2.2.2.2.2.2.2.2.2.2.2.2.2.2.1
  have Gg := fun F loc lw hc => (hG (F, loc, lw) hc).2.2.2.2.2.2.2.2.2.2.2.2.2.2.2.1
  have Gh := fun F loc lw hc => (hG (F, loc, lw) hc).2.2.2.2.2.2.2.2.2.2.2.2.2.2.2.2.1
  have Gi := fun F loc lw hc => (hG (F, loc, lw) hc).2.2.2.2.2.2.2.2.2.2.2.2.2.2.2.2.2
  clear hG hinn
  have hnb := hI.nb
  dsimp only [lp, loopsOf, Try.f44, Option.getD, List.append_eq, List.nil_append, List.cons_append, List.getElem?_cons_zero, List.getElem?_cons_succ] at G1 hnext ⊢
  rw [X_loop]
  simp only [reduceIte, reduceCtorEq, Nat.reduceAdd, Nat.reduceMul, Nat.reduceSub, Nat.reduceEqDiff, Nat.reduceLT, Nat.reduceLeDiff, Nat.reduceBEq, Int.reduceLT, Int.reduceLE, Int.reduceEq,
    Int.reduceNe, Int.reduceAdd, Int.reduceSub, Int.reduceMul, Int.reduceToNat, push_cast, pairsOk, locGet_set, p2_int, intBin, zerosA, List.range, List.range.loop, Nat.zero_mod, getT, genOf_bx, h0, h1, h2, h8, h9, hin, ha, e1, e2, hlw, hnb.1, hnb.2, G1, G2, G3, G4, G5, G6, G7, G8, G9, Ga, Gb, Gc, Gg, Gh]
  refine hnext _ (Gi _ _ _ ?_) _ _ _ _ _ (Gd _ _ _ ?_) (Gf _ _ _ ?_) ?_ ?_ ?_ ?_ ?_ ?_ <;> simp only [reduceIte, reduceCtorEq, Nat.reduceAdd, Nat.reduceMul, Nat.reduceSub, Nat.reduceEqDiff, Nat.reduceLT, Nat.reduceLeDiff, Nat.reduceBEq, Int.reduceLT, Int.reduceLE, Int.reduceEq,
    Int.reduceNe, Int.reduceAdd, Int.reduceSub, Int.reduceMul, Int.reduceToNat, push_cast, pairsOk, locGet_set, genOf_bx, h0, h1, h2, h8, h9, hlw, G2, G3, G4, G5, G6, G7, G8, G9, Ge]
end Go.Proofs.Ytmglahnoemgieaa.Ax
namespace Go.Proofs.Ytmglahnoemgieaa.Ax
open Go Go.RowKit
set_option linter.unusedSimpArgs false
set_option linter.unusedVariables false
set_option maxHeartbeats 8000000
set_option maxRecDepth 4000
variable {w0 : World} {t : Option Gf}
def R44p (lo : Nat) (acc l : List Ed) (c : Int) (R : Option (Ex × S)) : Prop :=
  ∃ F' loc' hh lw, R = some (.exit 0, ⟨fl 80 F', loc', hh, lw⟩) ∧ REdsI lo hh (acc ++ l) (F' 8) ∧ F' 1 = vI c ∧ lwOver lw lo = true ∧ lo ≤ hh.length
def R44o (lo : Nat) (acc : List Ed) (v : Option (List Ed × Nat)) (R : Option (Ex × S)) : Prop := match v with
  | some (l, c) => R44p lo acc l c R
  | none => ∃ l, R44p lo acc l (-1) R
theorem R44p.step {lo : Nat} {acc : List Ed} {p : Ed} {l : List Ed} {c : Int} {R : Option (Ex × S)} (k : R44p lo (acc ++ [p]) l c R) : R44p lo acc (p :: l) c R := by
  unfold R44p at k ⊢
  rw [List.append_assoc, List.singleton_append] at k
  exact k
theorem L44m (lo : Nat) (acc : List Ed) (ov : AV) (hh : H) (hlo : lo ≤ hh.length) (hI : REdsI lo hh acc ov) (i n : Int) (F : Nat → AV) (loc : Loc) (lw : Option Nat) (hlw : lwOver lw lo = true) (h1 : F 1 = vI (-1)) (h2 : F 2 = vI n) (h8 : F 8 = ov) (h9 : F 9 = vI i) :
    R44p lo acc [] (-1) (acodeI (cfg w0 t) 44 (.loop (lp Try.f44 0)) ⟨fl 80 F, loc, hh, lw⟩) := by
  dsimp only [lp, loopsOf, Try.f44, Option.getD, List.append_eq, List.nil_append, List.cons_append, List.getElem?_cons_zero, List.getElem?_cons_succ]
  rw [X_loop]
  unfold R44p
  rw [List.append_nil]
  by_cases e : i < n <;>
  simp only [reduceIte, reduceCtorEq, Nat.reduceAdd, Nat.reduceMul, Nat.reduceSub, Nat.reduceEqDiff, Nat.reduceLT, Nat.reduceLeDiff, Nat.reduceBEq, Int.reduceLT, Int.reduceLE, Int.reduceEq,
    Int.reduceNe, Int.reduceAdd, Int.reduceSub, Int.reduceMul, Int.reduceToNat, push_cast, pairsOk, locGet_set, p2_int, intBin, h1, h2, h9, e] <;>
  exact ⟨_, _, hh, _, rfl, by simpa only [reduceIte, reduceCtorEq, Nat.reduceAdd, Nat.reduceMul, Nat.reduceSub, Nat.reduceEqDiff, Nat.reduceLT, Nat.reduceLeDiff, Nat.reduceBEq, Int.reduceLT, Int.reduceLE, Int.reduceEq,
    Int.reduceNe, Int.reduceAdd, Int.reduceSub, Int.reduceMul, Int.reduceToNat, push_cast, pairsOk, locGet_set, h8] using hI, by simp only [reduceIte, reduceCtorEq, Nat.reduceAdd, Nat.reduceMul, Nat.reduceSub, Nat.reduceEqDiff, Nat.reduceLT, Nat.reduceLeDiff, Nat.reduceBEq, Int.reduceLT, Int.reduceLE, Int.reduceEq,
    Int.reduceNe, Int.reduceAdd, Int.reduceSub, Int.reduceMul, Int.reduceToNat, push_cast, pairsOk, locGet_set, h1], hlw, hlo⟩
theorem L44o (ok : CfgOk (cfg w0 t)) (lo : Nat) (s : ByteArray) (hs : s.size ≤ 9223372036854775000) (n : Nat) (hn : n < 65536) : ∀ (m i a : Nat) (acc : List Ed) (ov : AV) (hh : H) (F : Nat → AV) (loc : Loc) (lw : Option Nat), i + m = n → acc.length = i → a ≤ s.size → lo ≤ hh.length → REdsI lo hh acc ov → lwOver lw lo = true →
    F 0 = vS s → F 1 = vI a → F 2 = vI n → F 8 = ov → F 9 = vI i →
    R44o lo acc (rdEs s m a) (acodeI (cfg w0 t) 44 (.loop (lp Try.f44 0)) ⟨fl 80 F, loc, hh, lw⟩) := by
  intro m
  induction m with
  | zero =>
    intro i a acc ov hh F loc lw hi hacc ha hlo hI hlw h0 h1 h2 h8 h9
    have e : ¬ ((i : Int) < n) := by omega
    dsimp only [lp, loopsOf, Try.f44, Option.getD, List.append_eq, List.nil_append, List.cons_append, List.getElem?_cons_zero, List.getElem?_cons_succ]
    rw [X_loop]
    simp only [rdEs, R44o]
    unfold R44p
    rw [List.append_nil]
    simp only [reduceIte, reduceCtorEq, Nat.reduceAdd, Nat.reduceMul, Nat.reduceSub, Nat.reduceEqDiff, Nat.reduceLT, Nat.reduceLeDiff, Nat.reduceBEq, Int.reduceLT, Int.reduceLE, Int.reduceEq,
    Int.reduceNe, Int.reduceAdd, Int.reduceSub, Int.reduceMul, Int.reduceToNat, push_cast, pairsOk, locGet_set, p2_int, intBin, h0, h1, h2, h9, e]
    exact ⟨_, _, hh, _, rfl, by simpa only [reduceIte, reduceCtorEq, Nat.reduceAdd, Nat.reduceMul, Nat.reduceSub, Nat.reduceEqDiff, Nat.reduceLT, Nat.reduceLeDiff, Nat.reduceBEq, Int.reduceLT, Int.reduceLE, Int.reduceEq,
    Int.reduceNe, Int.reduceAdd, Int.reduceSub, Int.reduceMul, Int.reduceToNat, push_cast, pairsOk, locGet_set, h8] using hI, by simp only [reduceIte, reduceCtorEq, Nat.reduceAdd, Nat.reduceMul, Nat.reduceSub, Nat.reduceEqDiff, Nat.reduceLT, Nat.reduceLeDiff, Nat.reduceBEq, Int.reduceLT, Int.reduceLE, Int.reduceEq,
    Int.reduceNe, Int.reduceAdd, Int.reduceSub, Int.reduceMul, Int.reduceToNat, push_cast, pairsOk, locGet_set, h1], hlw, hlo⟩
  | succ m ih =>
    intro i a acc ov hh F loc lw hi hacc ha hlo hI hlw h0 h1 h2 h8 h9
    have hlt : (i : Int) < n := by omega
    have hwi : IntKind.i64.wrap ((i : Int) + 1) = ((i + 1 : Nat) : Int) := by rw [wrap_i64] <;> omega
    have e1 := f42 (w0 := w0) (t := t) s hs hh a ha
    have n2 := f41_neg (w0 := w0) (t := t) s 2 hh
    have hneg := L44m (w0 := w0) (t := t) lo
    have hn0 := L44n (w0 := w0) (t := t) hh lo
    unfold rdEs rdE
    cases hP : rdP s a with
    | none =>
      rw [hP] at e1
      obtain ⟨x, y, z, e1⟩ := e1
      simp only [Option.bind_none, R44o]
      refine L44t ok lo s n i hlt acc (by omega) ov hh hlo hI a (by omega) x y z (-1) 0 (-1) e1 n2 (fun _ => True) (-1) (fun g F loc lw hlw hl h0 h1 h12 h14 h15 => ⟨[], trivial, hn0 [] g _ _ _ _ _ hh F loc lw 0 0 hlw (.inl ⟨rfl, rfl, rfl, rfl⟩) hl h1 h12 h15⟩) (fun R => ∃ l, R44p lo acc l (-1) R) ?_ F loc lw hlw h0 h1 h2 h8 h9
      intro lr _ F loc lw hh2 ov2 hI2 hlo2 hlw2 h0 h1 h2 h8 h9
      exact ⟨_, (hneg _ ov2 hh2 hlo2 hI2 _ _ F loc lw hlw2 h1 h2 h8 h9).step⟩
    | some p =>
      obtain ⟨q, c⟩ := p
      rw [hP] at e1
      replace e1 : acallI (cfg w0 t) 42 [vS s, vI a] hh = some (.ret (.tup [.agg [vS .empty, vS q.1, vI q.2.1, vI q.2.2], vI c]), hh, none) := e1
      have hle := rdP_le hP
      have e2 := f41_2 (w0 := w0) (t := t) s hs hh c hle.1
      simp only [Option.bind_some]
      unfold rdN
      by_cases hc : c + 2 ≤ s.size
      rotate_left
      · rw [if_neg hc] at e2
        simp only [if_neg hc, Option.bind_none, R44o]
        refine L44t ok lo s n i hlt acc (by omega) ov hh hlo hI a (by omega) q.1 q.2.1 q.2.2 c 0 (-1) e1 e2 (fun _ => True) (-1) (fun g F loc lw hlw hl h0 h1 h12 h14 h15 => ⟨[], trivial, hn0 [] g _ _ _ _ _ hh F loc lw 0 0 hlw (.inl ⟨rfl, rfl, rfl, rfl⟩) hl h1 h12 h15⟩) (fun R => ∃ l, R44p lo acc l (-1) R) ?_ F loc lw hlw h0 h1 h2 h8 h9
        intro lr _ F loc lw hh2 ov2 hI2 hlo2 hlw2 h0 h1 h2 h8 h9
        exact ⟨_, (hneg _ ov2 hh2 hlo2 hI2 _ _ F loc lw hlw2 h1 h2 h8 h9).step⟩
      rw [if_pos hc] at e2
      simp only [if_pos hc, Option.bind_some]
      have hk := nAt2 s c hc
      generalize nAt s c 2 = k at e2 hk ⊢
      generalize c + 2 = d at e2 hc ⊢
      have hin := fun g => L44i (w0 := w0) (t := t) hh lo hlo s hs k hk g (vS .empty) (vS q.1) (vI q.2.1) (vI q.2.2) k 0 d [] (.val (.slice none 0 0)) hh
      cases hR : rdLs s k d with
      | none =>
        rw [hR] at hin
        simp only [Option.bind_none, R44o]
        refine L44t ok lo s n i hlt acc (by omega) ov hh hlo hI a (by omega) q.1 q.2.1 q.2.2 c k d e1 e2 (fun _ => True) (-1) (fun g F loc lw hlw hl h0 h1 h12 h14 h15 => by
          obtain ⟨l, hl'⟩ := hin g F loc lw (by omega) rfl hc hlw (.inl ⟨rfl, rfl, rfl, rfl⟩) hl h0 h1 h12 h14 h15
          exact ⟨l, trivial, hl'⟩) (fun R => ∃ l, R44p lo acc l (-1) R) ?_ F loc lw hlw h0 h1 h2 h8 h9
        intro lr _ F loc lw hh2 ov2 hI2 hlo2 hlw2 h0 h1 h2 h8 h9
        exact ⟨_, (hneg _ ov2 hh2 hlo2 hI2 _ _ F loc lw hlw2 h1 h2 h8 h9).step⟩
      | some r =>
        obtain ⟨l, e⟩ := r
        rw [hR] at hin
        have hle2 := rdLs_le hc hR
        simp only [Option.bind_some]
        refine L44t ok lo s n i hlt acc (by omega) ov hh hlo hI a (by omega) q.1 q.2.1 q.2.2 c k d e1 e2 (fun x => x = l) e (fun g F loc lw hlw hl h0 h1 h12 h14 h15 => ⟨l, rfl, hin g F loc lw (by omega) rfl hc hlw (.inl ⟨rfl, rfl, rfl, rfl⟩) hl h0 h1 h12 h14 h15⟩) (fun R => R44o lo acc ((rdEs s m e).bind fun q' => some (⟨q.1, q.2.1, q.2.2, l⟩ :: q'.1, q'.2)) R) ?_ F loc lw hlw h0 h1 h2 h8 h9
        intro lr hlr F loc lw hh2 ov2 hI2 hlo2 hlw2 h0 h1 h2 h8 h9
        subst hlr
        rw [hwi] at h9
        have := ih (i + 1) e _ ov2 hh2 F loc lw (by omega) (by simp; omega) hle2.1 hlo2 hI2 hlw2 h0 h1 h2 h8 h9
        cases hE : rdEs s m e with
        | none =>
          rw [hE] at this
          obtain ⟨l', this⟩ := this
          exact ⟨_, this.step⟩
        | some r2 =>
          obtain ⟨l2, e2⟩ := r2
          rw [hE] at this
          exact R44p.step this
end Go.Proofs.Ytmglahnoemgieaa.Ax
namespace Go.Proofs.Ytmglahnoemgieaa.Ax
open Go Go.RowKit
set_option linter.unusedSimpArgs false
set_option linter.unusedVariables false
set_option maxHeartbeats 8000000
set_option maxRecDepth 4000
variable {w0 : World} {t : Option Gf}
theorem REdsI.down {h hh : H} {l : List Ed} {v : AV} (k : REdsI h.length hh l v) (hb : belowA h.length v = true) : l = [] ∧ v = .val (.slice none 0 0) := by
  rcases k with k | ⟨bE, g, cells, rfl, h2, _⟩
  · exact k
  · simp only [belowA, decide_eq_true_eq] at hb
    omega
def EOut (h : H) (v : Option (List Ed × Nat)) (r : Option (Out × H × Option Nat)) : Prop := match v with
  | some (l, c) => ∃ xs h', r = some (.ret (.tup [xs, vI c]), h', none) ∧ REdsI h.length h' l xs ∧ h.length ≤ h'.length
  | none => ∃ xs h' l, r = some (.ret (.tup [xs, vI (-1)]), h', none) ∧ REdsI h.length h' l xs ∧ h.length ≤ h'.length
theorem f44 (ok : CfgOk (cfg w0 t)) (s : ByteArray) (hs : s.size ≤ 9223372036854775000) (n : Nat) (hn : n < 65536) (a : Nat) (ha : a ≤ s.size) (h : H) : EOut h (rdEs s n a) (acallI (cfg w0 t) 44 [vS s, vI a, vI n] h) := by
  have key : ∀ (PL : List Ed → Prop) (c : Int), (∀ (F : Nat → AV) (loc : Loc) (lw : Option Nat), lwOver lw h.length = true → F 0 = vS s → F 1 = vI a → F 2 = vI n → F 8 = .val (.slice none 0 0) → F 9 = vI 0 → ∃ l, PL l ∧ R44p h.length [] l c (acodeI (cfg w0 t) 44 (.loop (lp Try.f44 0)) ⟨fl 80 F, loc, h, lw⟩)) →
      ∃ xs h' l, PL l ∧ acallI (cfg w0 t) 44 [vS s, vI a, vI n] h = some (.ret (.tup [xs, vI c]), h', none) ∧ REdsI h.length h' l xs ∧ h.length ≤ h'.length := by
    intro PL c hL
    rw [E44]
    obtain ⟨G, hG⟩ := skol (P := fun a' : (Nat → AV) × Loc × Option Nat => lwOver a'.2.2 h.length = true ∧ a'.1 0 = vS s ∧ a'.1 1 = vI a ∧ a'.1 2 = vI n ∧ a'.1 8 = .val (.slice none 0 0) ∧ a'.1 9 = vI 0)
      (Q := fun a' c' => acodeI (cfg w0 t) 44 (.loop (lp Try.f44 0)) ⟨fl 80 a'.1, a'.2.1, h, a'.2.2⟩ = some (.exit 0, ⟨fl 80 c'.1, c'.2.1, c'.2.2.1, c'.2.2.2.1⟩) ∧ c'.1 1 = vI c ∧ lwOver c'.2.2.2.1 h.length = true ∧ c'.1 8 = c'.2.2.2.2.1 ∧ REdsI h.length c'.2.2.1 c'.2.2.2.2.2 c'.2.2.2.2.1 ∧ h.length ≤ c'.2.2.1.length ∧ noBx c'.2.2.2.2.1 = true ∧ PL c'.2.2.2.2.2) (β := (Nat → AV) × Loc × H × Option Nat × AV × List Ed) (fun a' ha' => by
        obtain ⟨l, hl, F', loc', hh, lw', q1, q2, q3, q4, q5⟩ := hL a'.1 a'.2.1 a'.2.2 ha'.1 ha'.2.1 ha'.2.2.1 ha'.2.2.2.1 ha'.2.2.2.2.1 ha'.2.2.2.2.2
        rw [List.nil_append] at q2
        exact ⟨(F', loc', hh, lw', F' 8, l), q1, q3, q4, rfl, q2, q5, q2.nb.1, hl⟩)
    have G1 := fun F loc lw hc => (hG (F, loc, lw) hc).1
    have G2 := fun F loc lw hc => (hG (F, loc, lw) hc).2.1
    have G3 := fun F loc lw hc => (hG (F, loc, lw) hc).2.2.1
    have G4 := fun F loc lw hc => (hG (F, loc, lw) hc).2.2.2.1
    have G5 := fun F loc lw hc => (hG (F, loc, lw) hc).2.2.2.2.1
    have G6 := fun F loc lw hc => (hG (F, loc, lw) hc).2.2.2.2.2.1
    have G7 := fun F loc lw hc => (hG (F, loc, lw) hc).2.2.2.2.2.2.1
    have G8 := fun F loc lw hc => (hG (F, loc, lw) hc).2.2.2.2.2.2.2
    clear hG hL
    dsimp only [lp, loopsOf, Try.f44, Option.getD, List.append_eq, List.nil_append, List.cons_append, List.getElem?_cons_zero, List.getElem?_cons_succ] at G1 ⊢
    simp only [reduceIte, reduceCtorEq, Nat.reduceAdd, Nat.reduceMul, Nat.reduceSub, Nat.reduceEqDiff, Nat.reduceLT, Nat.reduceLeDiff, Nat.reduceBEq, Int.reduceLT, Int.reduceLE, Int.reduceEq,
    Int.reduceNe, Int.reduceAdd, Int.reduceSub, Int.reduceMul, Int.reduceToNat, push_cast, pairsOk, locGet_set, p2_int, intBin, G1, G2, G3, G4, G7]
    split
    · rename_i hb
      exact ⟨_, _, _, G8 _ _ _ (by simp only [reduceIte, reduceCtorEq, Nat.reduceAdd, Nat.reduceMul, Nat.reduceSub, Nat.reduceEqDiff, Nat.reduceLT, Nat.reduceLeDiff, Nat.reduceBEq, Int.reduceLT, Int.reduceLE, Int.reduceEq,
    Int.reduceNe, Int.reduceAdd, Int.reduceSub, Int.reduceMul, Int.reduceToNat, push_cast, pairsOk, locGet_set]), rfl, .inl (REdsI.down (G5 _ _ _ (by simp only [reduceIte, reduceCtorEq, Nat.reduceAdd, Nat.reduceMul, Nat.reduceSub, Nat.reduceEqDiff, Nat.reduceLT, Nat.reduceLeDiff, Nat.reduceBEq, Int.reduceLT, Int.reduceLE, Int.reduceEq,
    Int.reduceNe, Int.reduceAdd, Int.reduceSub, Int.reduceMul, Int.reduceToNat, push_cast, pairsOk, locGet_set])) hb), Nat.le_refl _⟩
    · exact ⟨_, _, _, G8 _ _ _ (by simp only [reduceIte, reduceCtorEq, Nat.reduceAdd, Nat.reduceMul, Nat.reduceSub, Nat.reduceEqDiff, Nat.reduceLT, Nat.reduceLeDiff, Nat.reduceBEq, Int.reduceLT, Int.reduceLE, Int.reduceEq,
    Int.reduceNe, Int.reduceAdd, Int.reduceSub, Int.reduceMul, Int.reduceToNat, push_cast, pairsOk, locGet_set]), rfl, G5 _ _ _ (by simp only [reduceIte, reduceCtorEq, Nat.reduceAdd, Nat.reduceMul, Nat.reduceSub, Nat.reduceEqDiff, Nat.reduceLT, Nat.reduceLeDiff, Nat.reduceBEq, Int.reduceLT, Int.reduceLE, Int.reduceEq,
    Int.reduceNe, Int.reduceAdd, Int.reduceSub, Int.reduceMul, Int.reduceToNat, push_cast, pairsOk, locGet_set]), G6 _ _ _ (by simp only [reduceIte, reduceCtorEq, Nat.reduceAdd, Nat.reduceMul, Nat.reduceSub, Nat.reduceEqDiff, Nat.reduceLT, Nat.reduceLeDiff, Nat.reduceBEq, Int.reduceLT, Int.reduceLE, Int.reduceEq,
    Int.reduceNe, Int.reduceAdd, Int.reduceSub, Int.reduceMul, Int.reduceToNat, push_cast, pairsOk, locGet_set])⟩
  cases hE : rdEs s n a with
  | some r =>
    obtain ⟨l, c⟩ := r
    obtain ⟨xs, h', l', rfl, k⟩ := key (fun x => x = l) c (by
      intro F loc lw hlw h0 h1 h2 h8 h9
      have := L44o ok h.length s hs n hn n 0 a [] _ h F loc lw (by omega) rfl ha (Nat.le_refl _) (.inl ⟨rfl, rfl⟩) hlw h0 h1 h2 h8 h9
      rw [hE] at this
      exact ⟨l, rfl, this⟩)
    exact ⟨xs, h', k⟩
  | none =>
    obtain ⟨xs, h', l', _, k⟩ := key (fun _ => True) (-1) (by
      intro F loc lw hlw h0 h1 h2 h8 h9
      have := L44o ok h.length s hs n hn n 0 a [] _ h F loc lw (by omega) rfl ha (Nat.le_refl _) (.inl ⟨rfl, rfl⟩) hlw h0 h1 h2 h8 h9
      rw [hE] at this
      obtain ⟨l, this⟩ := this
      exact ⟨l, trivial, this⟩)
    exact ⟨xs, h', l', k⟩
theorem f44_neg (s : ByteArray) (h : H) : acallI (cfg w0 t) 44 [vS s, vI (-1), vI 0] h = some (.ret (.tup [.val (.slice none 0 0), vI (-1)]), h, none) := by
  rw [E44]
  dsimp only [Try.f44, Option.getD]
  simp only [reduceIte, reduceCtorEq, Nat.reduceAdd, Nat.reduceMul, Nat.reduceSub, Nat.reduceEqDiff, Nat.reduceLT, Nat.reduceLeDiff, Nat.reduceBEq, Int.reduceLT, Int.reduceLE, Int.reduceEq,
    Int.reduceNe, Int.reduceAdd, Int.reduceSub, Int.reduceMul, Int.reduceToNat, push_cast, pairsOk, locGet, locSet, nextGen, X_loop, p2_int, intBin]
end Go.Proofs.Ytmglahnoemgieaa.Ax

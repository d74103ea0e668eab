/- What single functions of the program come to: the small ones. (And what follows from it, text by text.) -/
import Derived.Test.YtmglahnoemgieaaM4
namespace Go.Proofs.Ytmglahnoemgieaa.Ax
open Go Go.RowKit
set_option linter.unusedSimpArgs false
set_option linter.unusedVariables false
set_option maxHeartbeats 4000000
variable {w0 : World} {t : Option Gf}
theorem f31 (n : Int) (h : H) : acallI (cfg w0 t) 31 [vI n] h = some (.ret (vB (decide (0 ≤ n) && decide (n ≤ 9007199254740992))), h, none) := by
  rw [E31]
  dsimp only [Try.f31, Option.getD]
  by_cases h1 : 0 ≤ n <;> by_cases h2 : n ≤ 9007199254740992 <;>
  simp only [reduceIte, reduceCtorEq, Nat.reduceAdd, Nat.reduceMul, Nat.reduceSub, Nat.reduceEqDiff, Nat.reduceLT, Nat.reduceLeDiff, Nat.reduceBEq, Int.reduceLT, Int.reduceLE, Int.reduceEq,
    Int.reduceNe, Int.reduceAdd, Int.reduceSub, Int.reduceMul, Int.reduceToNat, push_cast, pairsOk, locGet, locSet, nextGen, p2_int, intBin, h1, h2]
theorem f50 (a b : Int) (h : H) : acallI (cfg w0 t) 50 [.agg [vI a, vI b]] h = some (.ret (vB (decide (0 ≤ a) && decide (a < 64) && decide (0 ≤ b) && decide (b < 1024))), h, none) := by
  rw [E50]
  dsimp only [Try.f50, Option.getD]
  by_cases h1 : 0 ≤ a <;> by_cases h2 : a < 64 <;> by_cases h3 : 0 ≤ b <;> by_cases h4 : b < 1024 <;>
  simp only [reduceIte, reduceCtorEq, Nat.reduceAdd, Nat.reduceMul, Nat.reduceSub, Nat.reduceEqDiff, Nat.reduceLT, Nat.reduceLeDiff, Nat.reduceBEq, Int.reduceLT, Int.reduceLE, Int.reduceEq,
    Int.reduceNe, Int.reduceAdd, Int.reduceSub, Int.reduceMul, Int.reduceToNat, push_cast, pairsOk, locGet, locSet, nextGen, p2_int, intBin, h1, h2, h3, h4]
theorem f66 (n : Int) (h : H) : acallI (cfg w0 t) 66 [vI n] h = some (.ret (vB (decide (0 < n) && decide (n < 9))), h, none) := by
  rw [E66]
  dsimp only [Try.f66, Option.getD]
  by_cases h1 : 0 < n <;> by_cases h2 : n < 9 <;>
  simp only [reduceIte, reduceCtorEq, Nat.reduceAdd, Nat.reduceMul, Nat.reduceSub, Nat.reduceEqDiff, Nat.reduceLT, Nat.reduceLeDiff, Nat.reduceBEq, Int.reduceLT, Int.reduceLE, Int.reduceEq,
    Int.reduceNe, Int.reduceAdd, Int.reduceSub, Int.reduceMul, Int.reduceToNat, push_cast, pairsOk, locGet, locSet, nextGen, p2_int, intBin, h1, h2]
theorem f48 (b : Bool) (h : H) : acallI (cfg w0 t) 48 [vB b] h = some (.ret (vI (if b then 1 else 0)), h, none) := by
  rw [E48]
  dsimp only [Try.f48, Option.getD]
  cases b <;>
  simp only [reduceIte, reduceCtorEq, Nat.reduceAdd, Nat.reduceMul, Nat.reduceSub, Nat.reduceEqDiff, Nat.reduceLT, Nat.reduceLeDiff, Nat.reduceBEq, Int.reduceLT, Int.reduceLE, Int.reduceEq,
    Int.reduceNe, Int.reduceAdd, Int.reduceSub, Int.reduceMul, Int.reduceToNat, push_cast, pairsOk, locGet, locSet, nextGen, p2_int, intBin]
end Go.Proofs.Ytmglahnoemgieaa.Ax
namespace Go.Proofs.Ytmglahnoemgieaa.Ax
open Go Go.RowKit
set_option linter.unusedSimpArgs false
set_option linter.unusedVariables false
set_option maxHeartbeats 4000000
variable {w0 : World} {t : Option Gf}
theorem f74 (n : Int) (h : H) : acallI (cfg w0 t) 74 [.lit [vI n] 1] h = some (.ret (vB (decide (-9000000000000000000 ≤ n) && decide (n ≤ 9000000000000000000))), h, none) := by
  rw [E74]
  dsimp only [Try.f74, Option.getD]
  by_cases h1 : n < -9000000000000000000
  · have h2 : ¬ (-9000000000000000000 ≤ n) := by omega
    simp only [reduceIte, reduceCtorEq, Nat.reduceAdd, Nat.reduceMul, Nat.reduceSub, Nat.reduceEqDiff, Nat.reduceLT, Nat.reduceLeDiff, Nat.reduceBEq, Int.reduceLT, Int.reduceLE, Int.reduceEq,
    Int.reduceNe, Int.reduceAdd, Int.reduceSub, Int.reduceMul, Int.reduceToNat, push_cast, pairsOk, locGet, locSet, nextGen, X_loop, len_lit Try.underlying150, idx_lit elemSize_150, p2_int, intBin, h1, h2]
  · have h2 : -9000000000000000000 ≤ n := by omega
    by_cases h3 : 9000000000000000000 < n
    · have h4 : ¬ (n ≤ 9000000000000000000) := by omega
      simp only [reduceIte, reduceCtorEq, Nat.reduceAdd, Nat.reduceMul, Nat.reduceSub, Nat.reduceEqDiff, Nat.reduceLT, Nat.reduceLeDiff, Nat.reduceBEq, Int.reduceLT, Int.reduceLE, Int.reduceEq,
    Int.reduceNe, Int.reduceAdd, Int.reduceSub, Int.reduceMul, Int.reduceToNat, push_cast, pairsOk, locGet, locSet, nextGen, X_loop, len_lit Try.underlying150, idx_lit elemSize_150, p2_int, intBin, h1, h2, h3, h4]
    · have h4 : n ≤ 9000000000000000000 := by omega
      simp only [reduceIte, reduceCtorEq, Nat.reduceAdd, Nat.reduceMul, Nat.reduceSub, Nat.reduceEqDiff, Nat.reduceLT, Nat.reduceLeDiff, Nat.reduceBEq, Int.reduceLT, Int.reduceLE, Int.reduceEq,
    Int.reduceNe, Int.reduceAdd, Int.reduceSub, Int.reduceMul, Int.reduceToNat, push_cast, pairsOk, locGet, locSet, nextGen, X_loop, len_lit Try.underlying150, idx_lit elemSize_150, p2_int, intBin, h1, h2, h3, h4]
/-- may a number be? -/
def fitN (n : Int) : Bool := decide (-9000000000000000000 ≤ n) && decide (n ≤ 9000000000000000000)
theorem f73 (n : Int) (h : H) : acallI (cfg w0 t) 73 [vI n] h = some (.ret (.tup [vI (if fitN n then n else 0), vI (if fitN n then 0 else 5)]), h, none) := by
  rw [E73]
  dsimp only [Try.f73, Option.getD]
  have hf := f74 (w0 := w0) (t := t) n h
  rw [show (decide (-9000000000000000000 ≤ n) && decide (n ≤ 9000000000000000000)) = fitN n from rfl] at hf
  cases hb : fitN n <;> rw [hb] at hf <;>
  simp only [reduceIte, reduceCtorEq, Nat.reduceAdd, Nat.reduceMul, Nat.reduceSub, Nat.reduceEqDiff, Nat.reduceLT, Nat.reduceLeDiff, Nat.reduceBEq, Int.reduceLT, Int.reduceLE, Int.reduceEq,
    Int.reduceNe, Int.reduceAdd, Int.reduceSub, Int.reduceMul, Int.reduceToNat, push_cast, pairsOk, locGet, locSet, nextGen, zerosA, List.range, List.range.loop, Nat.zero_mod, getT, hf]
theorem f70 (n : Int) (h : H) : acallI (cfg w0 t) 70 [vI n] h = some (.ret (.tup [vI (if fitN n then n else 0), vI (if fitN n then 0 else 5)]), h, none) := by
  rw [E70]
  dsimp only [Try.f70, Option.getD]
  simp only [reduceIte, reduceCtorEq, Nat.reduceAdd, Nat.reduceMul, Nat.reduceSub, Nat.reduceEqDiff, Nat.reduceLT, Nat.reduceLeDiff, Nat.reduceBEq, Int.reduceLT, Int.reduceLE, Int.reduceEq,
    Int.reduceNe, Int.reduceAdd, Int.reduceSub, Int.reduceMul, Int.reduceToNat, push_cast, pairsOk, locGet, locSet, nextGen, f73]
theorem f65 (n : Int) (h : H) : acallI (cfg w0 t) 65 [vI n] h = some (.ret (vB (fitN n)), h, none) := by
  rw [E65]
  dsimp only [Try.f65, Option.getD]
  cases hb : fitN n <;>
  simp only [reduceIte, reduceCtorEq, Nat.reduceAdd, Nat.reduceMul, Nat.reduceSub, Nat.reduceEqDiff, Nat.reduceLT, Nat.reduceLeDiff, Nat.reduceBEq, Int.reduceLT, Int.reduceLE, Int.reduceEq,
    Int.reduceNe, Int.reduceAdd, Int.reduceSub, Int.reduceMul, Int.reduceToNat, push_cast, pairsOk, locGet, locSet, nextGen, f70, hb, p2_int, intBin]
abbrev vV (k n : Int) (s : ByteArray) (b : Bool) (f : Int) : List AV := [vI k, vI n, vS s, vB b, vI f]
/-- is it an error's number? -/
def isF (f : Int) : Bool := decide (0 < f) && decide (f < 9)
theorem f54 (f : Int) (h : H) : acallI (cfg w0 t) 54 [vI f] h = some (.ret (.agg (vV 4 0 .empty false (if isF f then f else 3))), h, none) := by
  rw [E54]
  dsimp only [Try.f54, Option.getD]
  have hf := f66 (w0 := w0) (t := t) f h
  rw [show (decide (0 < f) && decide (f < 9)) = isF f from rfl] at hf
  cases hb : isF f <;> rw [hb] at hf <;>
  simp only [reduceIte, reduceCtorEq, Nat.reduceAdd, Nat.reduceMul, Nat.reduceSub, Nat.reduceEqDiff, Nat.reduceLT, Nat.reduceLeDiff, Nat.reduceBEq, Int.reduceLT, Int.reduceLE, Int.reduceEq,
    Int.reduceNe, Int.reduceAdd, Int.reduceSub, Int.reduceMul, Int.reduceToNat, push_cast, pairsOk, locGet, locSet, nextGen, hf]
theorem f51 (n : Int) (h : H) : acallI (cfg w0 t) 51 [vI n] h = some (.ret (.agg (if fitN n then vV 1 n .empty false 0 else vV 4 0 .empty false 2)), h, none) := by
  rw [E51]
  dsimp only [Try.f51, Option.getD]
  have h2 : isF 2 = true := by decide
  cases hb : fitN n <;>
  simp only [reduceIte, reduceCtorEq, Nat.reduceAdd, Nat.reduceMul, Nat.reduceSub, Nat.reduceEqDiff, Nat.reduceLT, Nat.reduceLeDiff, Nat.reduceBEq, Int.reduceLT, Int.reduceLE, Int.reduceEq,
    Int.reduceNe, Int.reduceAdd, Int.reduceSub, Int.reduceMul, Int.reduceToNat, push_cast, pairsOk, locGet, locSet, nextGen, f65, f54, h2, hb]
theorem f52 (s : ByteArray) (h : H) : acallI (cfg w0 t) 52 [vS s] h = some (.ret (.agg (if s.size ≤ 255 then vV 2 0 s false 0 else vV 4 0 .empty false 3)), h, none) := by
  rw [E52]
  dsimp only [Try.f52, Option.getD]
  have h3 : isF 3 = true := by decide
  by_cases hs : s.size ≤ 255
  · have hs' : ¬ ((255 : Int) < s.size) := by omega
    simp only [reduceIte, reduceCtorEq, Nat.reduceAdd, Nat.reduceMul, Nat.reduceSub, Nat.reduceEqDiff, Nat.reduceLT, Nat.reduceLeDiff, Nat.reduceBEq, Int.reduceLT, Int.reduceLE, Int.reduceEq,
    Int.reduceNe, Int.reduceAdd, Int.reduceSub, Int.reduceMul, Int.reduceToNat, push_cast, pairsOk, locGet, locSet, nextGen, len_str Try.underlying9, p2_int, intBin, hs', hs]
  · have hs' : (255 : Int) < s.size := by omega
    simp only [reduceIte, reduceCtorEq, Nat.reduceAdd, Nat.reduceMul, Nat.reduceSub, Nat.reduceEqDiff, Nat.reduceLT, Nat.reduceLeDiff, Nat.reduceBEq, Int.reduceLT, Int.reduceLE, Int.reduceEq,
    Int.reduceNe, Int.reduceAdd, Int.reduceSub, Int.reduceMul, Int.reduceToNat, push_cast, pairsOk, locGet, locSet, nextGen, len_str Try.underlying9, p2_int, intBin, f54, h3, hs', hs]
theorem f53 (b : Bool) (h : H) : acallI (cfg w0 t) 53 [vB b] h = some (.ret (.agg (vV 3 0 .empty b 0)), h, none) := by
  rw [E53]
  dsimp only [Try.f53, Option.getD]
  simp only [reduceIte, reduceCtorEq, Nat.reduceAdd, Nat.reduceMul, Nat.reduceSub, Nat.reduceEqDiff, Nat.reduceLT, Nat.reduceLeDiff, Nat.reduceBEq, Int.reduceLT, Int.reduceLE, Int.reduceEq,
    Int.reduceNe, Int.reduceAdd, Int.reduceSub, Int.reduceMul, Int.reduceToNat, push_cast, pairsOk, locGet, locSet, nextGen]
end Go.Proofs.Ytmglahnoemgieaa.Ax
namespace Go.Proofs.Ytmglahnoemgieaa.Ax
open Go Go.RowKit
set_option linter.unusedSimpArgs false
set_option linter.unusedVariables false
set_option maxHeartbeats 4000000
variable {w0 : World} {t : Option Gf}
/-- may a value be? -/
def vGood (k n : Int) (s : ByteArray) (b : Bool) (f : Int) : Bool :=
  if k = 0 then decide (n = 0) && decide (s = .empty) && !b && decide (f = 0)
  else if k = 1 then fitN n && decide (s = .empty) && !b && decide (f = 0)
  else if k = 2 then decide (n = 0) && decide (s.size ≤ 255) && !b && decide (f = 0)
  else if k = 3 then decide (n = 0) && decide (s = .empty) && decide (f = 0)
  else if k = 4 then decide (n = 0) && decide (s = .empty) && !b && isF f
  else false
theorem f34 (k n : Int) (s : ByteArray) (b : Bool) (f : Int) (h : H) : acallI (cfg w0 t) 34 [.agg (vV k n s b f)] h = some (.ret (vB (vGood k n s b f)), h, none) := by
  rw [E34]
  dsimp only [Try.f34, Option.getD]
  have hb : decide (b = false) = !b := by cases b <;> rfl
  by_cases k0 : k = 0
  · subst k0
    simp only [reduceIte, reduceCtorEq, Nat.reduceAdd, Nat.reduceMul, Nat.reduceSub, Nat.reduceEqDiff, Nat.reduceLT, Nat.reduceLeDiff, Nat.reduceBEq, Int.reduceLT, Int.reduceLE, Int.reduceEq,
    Int.reduceNe, Int.reduceAdd, Int.reduceSub, Int.reduceMul, Int.reduceToNat, push_cast, pairsOk, locGet, locSet, nextGen, p2_int, intBin, hb, vGood]
    try simp only [Bool.and_assoc]
  by_cases k1 : k = 1
  · subst k1
    cases hf : fitN n <;>
    simp only [reduceIte, reduceCtorEq, Nat.reduceAdd, Nat.reduceMul, Nat.reduceSub, Nat.reduceEqDiff, Nat.reduceLT, Nat.reduceLeDiff, Nat.reduceBEq, Int.reduceLT, Int.reduceLE, Int.reduceEq,
    Int.reduceNe, Int.reduceAdd, Int.reduceSub, Int.reduceMul, Int.reduceToNat, push_cast, pairsOk, locGet, locSet, nextGen, p2_int, intBin, f51, hf, hb, vGood] <;> try simp only [Bool.and_assoc, Bool.and_true, Bool.true_and]
  by_cases k2 : k = 2
  · subst k2
    by_cases hs : s.size ≤ 255 <;>
    simp only [reduceIte, reduceCtorEq, Nat.reduceAdd, Nat.reduceMul, Nat.reduceSub, Nat.reduceEqDiff, Nat.reduceLT, Nat.reduceLeDiff, Nat.reduceBEq, Int.reduceLT, Int.reduceLE, Int.reduceEq,
    Int.reduceNe, Int.reduceAdd, Int.reduceSub, Int.reduceMul, Int.reduceToNat, push_cast, pairsOk, locGet, locSet, nextGen, p2_int, intBin, f52, hs, hb, vGood] <;> try simp only [Bool.and_assoc, Bool.and_true, Bool.true_and]
  by_cases k3 : k = 3
  · subst k3
    simp only [reduceIte, reduceCtorEq, Nat.reduceAdd, Nat.reduceMul, Nat.reduceSub, Nat.reduceEqDiff, Nat.reduceLT, Nat.reduceLeDiff, Nat.reduceBEq, Int.reduceLT, Int.reduceLE, Int.reduceEq,
    Int.reduceNe, Int.reduceAdd, Int.reduceSub, Int.reduceMul, Int.reduceToNat, push_cast, pairsOk, locGet, locSet, nextGen, p2_int, intBin, f53, hb, vGood]
    try simp only [Bool.and_assoc, Bool.and_true, Bool.true_and]
  by_cases k4 : k = 4
  · subst k4
    cases hf : isF f <;>
    simp only [reduceIte, reduceCtorEq, Nat.reduceAdd, Nat.reduceMul, Nat.reduceSub, Nat.reduceEqDiff, Nat.reduceLT, Nat.reduceLeDiff, Nat.reduceBEq, Int.reduceLT, Int.reduceLE, Int.reduceEq,
    Int.reduceNe, Int.reduceAdd, Int.reduceSub, Int.reduceMul, Int.reduceToNat, push_cast, pairsOk, locGet, locSet, nextGen, p2_int, intBin, f54, hf, hb, vGood] <;> try simp only [Bool.and_assoc, Bool.and_true, Bool.true_and]
    have : ¬ f = 3 := by rintro rfl; revert hf; decide
    simp [this]
  · simp only [reduceIte, reduceCtorEq, Nat.reduceAdd, Nat.reduceMul, Nat.reduceSub, Nat.reduceEqDiff, Nat.reduceLT, Nat.reduceLeDiff, Nat.reduceBEq, Int.reduceLT, Int.reduceLE, Int.reduceEq,
    Int.reduceNe, Int.reduceAdd, Int.reduceSub, Int.reduceMul, Int.reduceToNat, push_cast, pairsOk, locGet, locSet, nextGen, p2_int, intBin, k0, k1, k2, k3, k4, vGood]
end Go.Proofs.Ytmglahnoemgieaa.Ax
namespace Go.Proofs.Ytmglahnoemgieaa.Ax
open Go Go.RowKit
set_option linter.unusedSimpArgs false
set_option linter.unusedVariables false
set_option maxHeartbeats 4000000
variable {w0 : World} {t : Option Gf}
theorem f56 (n : Int) (h : H) : acallI (cfg w0 t) 56 [vI n] h = some (.ret (vB (fitN n)), h, none) := by
  rw [E56]
  dsimp only [Try.f56, Option.getD]
  unfold fitN
  by_cases h1 : -9000000000000000000 ≤ n
  · simp only [reduceIte, reduceCtorEq, Nat.reduceAdd, Nat.reduceMul, Nat.reduceSub, Nat.reduceEqDiff, Nat.reduceLT, Nat.reduceLeDiff, Nat.reduceBEq, Int.reduceLT, Int.reduceLE, Int.reduceEq,
    Int.reduceNe, Int.reduceAdd, Int.reduceSub, Int.reduceMul, Int.reduceToNat, push_cast, pairsOk, locGet, locSet, nextGen, p2_int, intBin, h1]
  · simp only [reduceIte, reduceCtorEq, Nat.reduceAdd, Nat.reduceMul, Nat.reduceSub, Nat.reduceEqDiff, Nat.reduceLT, Nat.reduceLeDiff, Nat.reduceBEq, Int.reduceLT, Int.reduceLE, Int.reduceEq,
    Int.reduceNe, Int.reduceAdd, Int.reduceSub, Int.reduceMul, Int.reduceToNat, push_cast, pairsOk, locGet, locSet, nextGen, p2_int, intBin, h1]
theorem f55 (a b : Int) (h : H) : acallI (cfg w0 t) 55 [vI a, vI b] h = some (.ret (vB (decide (0 ≤ a) && decide (a < 64) && decide (0 ≤ b) && decide (b < 1024))), h, none) := by
  rw [E55]
  dsimp only [Try.f55, Option.getD]
  by_cases h1 : 0 ≤ a
  · by_cases h2 : a < 64
    · by_cases h3 : 0 ≤ b <;> simp only [reduceIte, reduceCtorEq, Nat.reduceAdd, Nat.reduceMul, Nat.reduceSub, Nat.reduceEqDiff, Nat.reduceLT, Nat.reduceLeDiff, Nat.reduceBEq, Int.reduceLT, Int.reduceLE, Int.reduceEq,
    Int.reduceNe, Int.reduceAdd, Int.reduceSub, Int.reduceMul, Int.reduceToNat, push_cast, pairsOk, locGet, locSet, nextGen, p2_int, intBin, h1, h2, h3]
    · simp only [reduceIte, reduceCtorEq, Nat.reduceAdd, Nat.reduceMul, Nat.reduceSub, Nat.reduceEqDiff, Nat.reduceLT, Nat.reduceLeDiff, Nat.reduceBEq, Int.reduceLT, Int.reduceLE, Int.reduceEq,
    Int.reduceNe, Int.reduceAdd, Int.reduceSub, Int.reduceMul, Int.reduceToNat, push_cast, pairsOk, locGet, locSet, nextGen, p2_int, intBin, h1, h2]
  · simp only [reduceIte, reduceCtorEq, Nat.reduceAdd, Nat.reduceMul, Nat.reduceSub, Nat.reduceEqDiff, Nat.reduceLT, Nat.reduceLeDiff, Nat.reduceBEq, Int.reduceLT, Int.reduceLE, Int.reduceEq,
    Int.reduceNe, Int.reduceAdd, Int.reduceSub, Int.reduceMul, Int.reduceToNat, push_cast, pairsOk, locGet, locSet, nextGen, p2_int, intBin, h1]
abbrev vU (b : UInt8) : AV := .val (.int .u8 b.toNat)
def isLetter (b : UInt8) : Bool := (decide (65 ≤ b.toNat) && decide (b.toNat ≤ 90)) || (decide (97 ≤ b.toNat) && decide (b.toNat ≤ 122))
def isDigit (b : UInt8) : Bool := decide (48 ≤ b.toNat) && decide (b.toNat ≤ 57)
theorem cast_le (a b : Nat) : ((a : Int) ≤ (b : Int)) = (a ≤ b) := by simp
theorem f57 (b : UInt8) (h : H) : acallI (cfg w0 t) 57 [vU b] h = some (.ret (vB (isLetter b)), h, none) := by
  rw [E57]
  dsimp only [Try.f57, Option.getD]
  unfold isLetter
  have e1 : ((65 : Int) ≤ b.toNat) = (65 ≤ b.toNat) := cast_le 65 _
  have e2 : ((b.toNat : Int) ≤ 90) = (b.toNat ≤ 90) := cast_le _ 90
  have e3 : ((97 : Int) ≤ b.toNat) = (97 ≤ b.toNat) := cast_le 97 _
  have e4 : ((b.toNat : Int) ≤ 122) = (b.toNat ≤ 122) := cast_le _ 122
  by_cases h1 : 65 ≤ b.toNat
  · by_cases h2 : b.toNat ≤ 90
    · simp only [reduceIte, reduceCtorEq, Nat.reduceAdd, Nat.reduceMul, Nat.reduceSub, Nat.reduceEqDiff, Nat.reduceLT, Nat.reduceLeDiff, Nat.reduceBEq, Int.reduceLT, Int.reduceLE, Int.reduceEq,
    Int.reduceNe, Int.reduceAdd, Int.reduceSub, Int.reduceMul, Int.reduceToNat, push_cast, pairsOk, locGet, locSet, nextGen, p2_int, intBin, e1, e2, e3, e4, h1, h2]
    · by_cases h3 : 97 ≤ b.toNat
      · simp only [reduceIte, reduceCtorEq, Nat.reduceAdd, Nat.reduceMul, Nat.reduceSub, Nat.reduceEqDiff, Nat.reduceLT, Nat.reduceLeDiff, Nat.reduceBEq, Int.reduceLT, Int.reduceLE, Int.reduceEq,
    Int.reduceNe, Int.reduceAdd, Int.reduceSub, Int.reduceMul, Int.reduceToNat, push_cast, pairsOk, locGet, locSet, nextGen, p2_int, intBin, e1, e2, e3, e4, h1, h2, h3]
      · simp only [reduceIte, reduceCtorEq, Nat.reduceAdd, Nat.reduceMul, Nat.reduceSub, Nat.reduceEqDiff, Nat.reduceLT, Nat.reduceLeDiff, Nat.reduceBEq, Int.reduceLT, Int.reduceLE, Int.reduceEq,
    Int.reduceNe, Int.reduceAdd, Int.reduceSub, Int.reduceMul, Int.reduceToNat, push_cast, pairsOk, locGet, locSet, nextGen, p2_int, intBin, e1, e2, e3, e4, h1, h2, h3]
  · have h3 : ¬ 97 ≤ b.toNat := by omega
    simp only [reduceIte, reduceCtorEq, Nat.reduceAdd, Nat.reduceMul, Nat.reduceSub, Nat.reduceEqDiff, Nat.reduceLT, Nat.reduceLeDiff, Nat.reduceBEq, Int.reduceLT, Int.reduceLE, Int.reduceEq,
    Int.reduceNe, Int.reduceAdd, Int.reduceSub, Int.reduceMul, Int.reduceToNat, push_cast, pairsOk, locGet, locSet, nextGen, p2_int, intBin, e1, e2, e3, e4, h1, h3]
theorem f58 (b : UInt8) (h : H) : acallI (cfg w0 t) 58 [vU b] h = some (.ret (vB (isDigit b)), h, none) := by
  rw [E58]
  dsimp only [Try.f58, Option.getD]
  unfold isDigit
  have e1 : ((48 : Int) ≤ b.toNat) = (48 ≤ b.toNat) := cast_le 48 _
  have e2 : ((b.toNat : Int) ≤ 57) = (b.toNat ≤ 57) := cast_le _ 57
  by_cases h1 : 48 ≤ b.toNat
  · simp only [reduceIte, reduceCtorEq, Nat.reduceAdd, Nat.reduceMul, Nat.reduceSub, Nat.reduceEqDiff, Nat.reduceLT, Nat.reduceLeDiff, Nat.reduceBEq, Int.reduceLT, Int.reduceLE, Int.reduceEq,
    Int.reduceNe, Int.reduceAdd, Int.reduceSub, Int.reduceMul, Int.reduceToNat, push_cast, pairsOk, locGet, locSet, nextGen, p2_int, intBin, e1, e2, h1]
  · simp only [reduceIte, reduceCtorEq, Nat.reduceAdd, Nat.reduceMul, Nat.reduceSub, Nat.reduceEqDiff, Nat.reduceLT, Nat.reduceLeDiff, Nat.reduceBEq, Int.reduceLT, Int.reduceLE, Int.reduceEq,
    Int.reduceNe, Int.reduceAdd, Int.reduceSub, Int.reduceMul, Int.reduceToNat, push_cast, pairsOk, locGet, locSet, nextGen, p2_int, intBin, e1, e2, h1]
theorem isF_le (f : Int) : (decide (1 ≤ f) && decide (f ≤ 8)) = isF f := by
  unfold isF
  rw [Bool.eq_iff_iff]
  simp only [Bool.and_eq_true, decide_eq_true_eq]
  omega
theorem f37 (k n : Int) (s : ByteArray) (b : Bool) (f : Int) (h : H) : acallI (cfg w0 t) 37 [.agg (vV k n s b f)] h = some (.ret (vB (vGood k n s b f)), h, none) := by
  rw [E37]
  dsimp only [Try.f37, Option.getD]
  by_cases k0 : k = 0
  · subst k0
    by_cases hn : n = 0
    · by_cases hs : s = .empty
      · cases b <;> simp only [reduceIte, reduceCtorEq, Nat.reduceAdd, Nat.reduceMul, Nat.reduceSub, Nat.reduceEqDiff, Nat.reduceLT, Nat.reduceLeDiff, Nat.reduceBEq, Int.reduceLT, Int.reduceLE, Int.reduceEq,
    Int.reduceNe, Int.reduceAdd, Int.reduceSub, Int.reduceMul, Int.reduceToNat, push_cast, pairsOk, locGet, locSet, nextGen, p2_int, p2_str, strBin, intBin, vGood, hn, hs]
      · simp only [reduceIte, reduceCtorEq, Nat.reduceAdd, Nat.reduceMul, Nat.reduceSub, Nat.reduceEqDiff, Nat.reduceLT, Nat.reduceLeDiff, Nat.reduceBEq, Int.reduceLT, Int.reduceLE, Int.reduceEq,
    Int.reduceNe, Int.reduceAdd, Int.reduceSub, Int.reduceMul, Int.reduceToNat, push_cast, pairsOk, locGet, locSet, nextGen, p2_int, p2_str, strBin, intBin, vGood, hn, hs]
    · simp only [reduceIte, reduceCtorEq, Nat.reduceAdd, Nat.reduceMul, Nat.reduceSub, Nat.reduceEqDiff, Nat.reduceLT, Nat.reduceLeDiff, Nat.reduceBEq, Int.reduceLT, Int.reduceLE, Int.reduceEq,
    Int.reduceNe, Int.reduceAdd, Int.reduceSub, Int.reduceMul, Int.reduceToNat, push_cast, pairsOk, locGet, locSet, nextGen, p2_int, p2_str, strBin, intBin, vGood, hn]
  by_cases k1 : k = 1
  · subst k1
    cases hf : fitN n
    · simp only [reduceIte, reduceCtorEq, Nat.reduceAdd, Nat.reduceMul, Nat.reduceSub, Nat.reduceEqDiff, Nat.reduceLT, Nat.reduceLeDiff, Nat.reduceBEq, Int.reduceLT, Int.reduceLE, Int.reduceEq,
    Int.reduceNe, Int.reduceAdd, Int.reduceSub, Int.reduceMul, Int.reduceToNat, push_cast, pairsOk, locGet, locSet, nextGen, p2_int, p2_str, strBin, intBin, vGood, f56, hf]
    · by_cases hs : s = .empty
      · cases b <;> simp only [reduceIte, reduceCtorEq, Nat.reduceAdd, Nat.reduceMul, Nat.reduceSub, Nat.reduceEqDiff, Nat.reduceLT, Nat.reduceLeDiff, Nat.reduceBEq, Int.reduceLT, Int.reduceLE, Int.reduceEq,
    Int.reduceNe, Int.reduceAdd, Int.reduceSub, Int.reduceMul, Int.reduceToNat, push_cast, pairsOk, locGet, locSet, nextGen, p2_int, p2_str, strBin, intBin, vGood, f56, hf, hs]
      · simp only [reduceIte, reduceCtorEq, Nat.reduceAdd, Nat.reduceMul, Nat.reduceSub, Nat.reduceEqDiff, Nat.reduceLT, Nat.reduceLeDiff, Nat.reduceBEq, Int.reduceLT, Int.reduceLE, Int.reduceEq,
    Int.reduceNe, Int.reduceAdd, Int.reduceSub, Int.reduceMul, Int.reduceToNat, push_cast, pairsOk, locGet, locSet, nextGen, p2_int, p2_str, strBin, intBin, vGood, f56, hf, hs]
  by_cases k2 : k = 2
  · subst k2
    have hz : ((s.size : Int) ≤ 255) = (s.size ≤ 255) := cast_le _ 255
    by_cases hn : n = 0
    · by_cases hs : s.size ≤ 255
      · cases b <;> simp only [reduceIte, reduceCtorEq, Nat.reduceAdd, Nat.reduceMul, Nat.reduceSub, Nat.reduceEqDiff, Nat.reduceLT, Nat.reduceLeDiff, Nat.reduceBEq, Int.reduceLT, Int.reduceLE, Int.reduceEq,
    Int.reduceNe, Int.reduceAdd, Int.reduceSub, Int.reduceMul, Int.reduceToNat, push_cast, pairsOk, locGet, locSet, nextGen, p2_int, p2_str, strBin, intBin, vGood, len_str Try.underlying9, hz, hn, hs]
      · simp only [reduceIte, reduceCtorEq, Nat.reduceAdd, Nat.reduceMul, Nat.reduceSub, Nat.reduceEqDiff, Nat.reduceLT, Nat.reduceLeDiff, Nat.reduceBEq, Int.reduceLT, Int.reduceLE, Int.reduceEq,
    Int.reduceNe, Int.reduceAdd, Int.reduceSub, Int.reduceMul, Int.reduceToNat, push_cast, pairsOk, locGet, locSet, nextGen, p2_int, p2_str, strBin, intBin, vGood, len_str Try.underlying9, hz, hn, hs]
    · simp only [reduceIte, reduceCtorEq, Nat.reduceAdd, Nat.reduceMul, Nat.reduceSub, Nat.reduceEqDiff, Nat.reduceLT, Nat.reduceLeDiff, Nat.reduceBEq, Int.reduceLT, Int.reduceLE, Int.reduceEq,
    Int.reduceNe, Int.reduceAdd, Int.reduceSub, Int.reduceMul, Int.reduceToNat, push_cast, pairsOk, locGet, locSet, nextGen, p2_int, p2_str, strBin, intBin, vGood, len_str Try.underlying9, hz, hn]
  by_cases k3 : k = 3
  · subst k3
    by_cases hn : n = 0
    · by_cases hs : s = .empty
      · simp only [reduceIte, reduceCtorEq, Nat.reduceAdd, Nat.reduceMul, Nat.reduceSub, Nat.reduceEqDiff, Nat.reduceLT, Nat.reduceLeDiff, Nat.reduceBEq, Int.reduceLT, Int.reduceLE, Int.reduceEq,
    Int.reduceNe, Int.reduceAdd, Int.reduceSub, Int.reduceMul, Int.reduceToNat, push_cast, pairsOk, locGet, locSet, nextGen, p2_int, p2_str, strBin, intBin, vGood, hn, hs]
      · simp only [reduceIte, reduceCtorEq, Nat.reduceAdd, Nat.reduceMul, Nat.reduceSub, Nat.reduceEqDiff, Nat.reduceLT, Nat.reduceLeDiff, Nat.reduceBEq, Int.reduceLT, Int.reduceLE, Int.reduceEq,
    Int.reduceNe, Int.reduceAdd, Int.reduceSub, Int.reduceMul, Int.reduceToNat, push_cast, pairsOk, locGet, locSet, nextGen, p2_int, p2_str, strBin, intBin, vGood, hn, hs]
    · simp only [reduceIte, reduceCtorEq, Nat.reduceAdd, Nat.reduceMul, Nat.reduceSub, Nat.reduceEqDiff, Nat.reduceLT, Nat.reduceLeDiff, Nat.reduceBEq, Int.reduceLT, Int.reduceLE, Int.reduceEq,
    Int.reduceNe, Int.reduceAdd, Int.reduceSub, Int.reduceMul, Int.reduceToNat, push_cast, pairsOk, locGet, locSet, nextGen, p2_int, p2_str, strBin, intBin, vGood, hn]
  by_cases k4 : k = 4
  · subst k4
    by_cases hn : n = 0
    · by_cases hs : s = .empty
      · cases b
        · by_cases hf : 1 ≤ f <;> simp only [reduceIte, reduceCtorEq, Nat.reduceAdd, Nat.reduceMul, Nat.reduceSub, Nat.reduceEqDiff, Nat.reduceLT, Nat.reduceLeDiff, Nat.reduceBEq, Int.reduceLT, Int.reduceLE, Int.reduceEq,
    Int.reduceNe, Int.reduceAdd, Int.reduceSub, Int.reduceMul, Int.reduceToNat, push_cast, pairsOk, locGet, locSet, nextGen, p2_int, p2_str, strBin, intBin, vGood, ← isF_le, hn, hs, hf]
        · simp only [reduceIte, reduceCtorEq, Nat.reduceAdd, Nat.reduceMul, Nat.reduceSub, Nat.reduceEqDiff, Nat.reduceLT, Nat.reduceLeDiff, Nat.reduceBEq, Int.reduceLT, Int.reduceLE, Int.reduceEq,
    Int.reduceNe, Int.reduceAdd, Int.reduceSub, Int.reduceMul, Int.reduceToNat, push_cast, pairsOk, locGet, locSet, nextGen, p2_int, p2_str, strBin, intBin, vGood, hn, hs]
      · simp only [reduceIte, reduceCtorEq, Nat.reduceAdd, Nat.reduceMul, Nat.reduceSub, Nat.reduceEqDiff, Nat.reduceLT, Nat.reduceLeDiff, Nat.reduceBEq, Int.reduceLT, Int.reduceLE, Int.reduceEq,
    Int.reduceNe, Int.reduceAdd, Int.reduceSub, Int.reduceMul, Int.reduceToNat, push_cast, pairsOk, locGet, locSet, nextGen, p2_int, p2_str, strBin, intBin, vGood, hn, hs]
    · simp only [reduceIte, reduceCtorEq, Nat.reduceAdd, Nat.reduceMul, Nat.reduceSub, Nat.reduceEqDiff, Nat.reduceLT, Nat.reduceLeDiff, Nat.reduceBEq, Int.reduceLT, Int.reduceLE, Int.reduceEq,
    Int.reduceNe, Int.reduceAdd, Int.reduceSub, Int.reduceMul, Int.reduceToNat, push_cast, pairsOk, locGet, locSet, nextGen, p2_int, p2_str, strBin, intBin, vGood, hn]
  · simp only [reduceIte, reduceCtorEq, Nat.reduceAdd, Nat.reduceMul, Nat.reduceSub, Nat.reduceEqDiff, Nat.reduceLT, Nat.reduceLeDiff, Nat.reduceBEq, Int.reduceLT, Int.reduceLE, Int.reduceEq,
    Int.reduceNe, Int.reduceAdd, Int.reduceSub, Int.reduceMul, Int.reduceToNat, push_cast, pairsOk, locGet, locSet, nextGen, p2_int, p2_str, strBin, intBin, vGood, k0, k1, k2, k3, k4]
end Go.Proofs.Ytmglahnoemgieaa.Ax
namespace Go.Proofs.Ytmglahnoemgieaa.Ax
open Go Go.RowKit
set_option linter.unusedSimpArgs false
set_option linter.unusedVariables false
set_option maxHeartbeats 4000000
variable {w0 : World} {t : Option Gf}
abbrev bl (s : ByteArray) : List UInt8 := s.data.toList
theorem bl_len (s : ByteArray) : (bl s).length = s.size := Array.length_toList
theorem byteAt_nat (s : ByteArray) (i : Nat) : byteAt s (i : Int) = (bl s)[i]? := by
  unfold byteAt
  rw [if_pos (by omega)]
  simp only [Int.toNat_natCast]
  by_cases h : i < s.size
  · rw [getElem?_pos s i h, List.getElem?_eq_getElem (by rw [bl_len]; exact h)]
    rfl
  · rw [getElem?_neg s i h, List.getElem?_eq_none (by rw [bl_len]; omega)]
def okAt (i : Nat) (b : UInt8) : Bool := isLetter b || decide (b.toNat = 95) || (isDigit b && decide (i ≠ 0))
def restOk (s : ByteArray) (i n : Nat) : Bool := (List.range' i n).all fun j => okAt j ((bl s).getD j 0)
def nameOk (s : ByteArray) : Bool := decide (1 ≤ s.size) && decide (s.size ≤ 16) && restOk s 0 s.size
theorem L38 (s : ByteArray) (hsz : s.size ≤ 16) (h : H) : ∀ (n i : Nat) (F : Nat → AV), i + n = s.size → F 0 = vS s → F 3 = vI i →
    ∃ F', acodeI (cfg w0 t) 38 (.loop (lp Try.f38 0)) ⟨fl 44 F, [], h, none⟩ = some (if restOk s i n then .exit 0 else .ret, ⟨fl 44 F', [], h, none⟩) ∧ (restOk s i n = false → F' 2 = vB false) := by
  dsimp only [lp, loopsOf, Try.f38, Option.getD, List.append_eq, List.nil_append, List.cons_append, List.getElem?_cons_zero]
  intro n
  induction n with
  | zero =>
    intro i F hi h0 h3
    have e : ¬ ((i : Int) < s.size) := by omega
    have hr : restOk s i 0 = true := rfl
    rw [X_loop]
    simp only [reduceIte, reduceCtorEq, Nat.reduceAdd, Nat.reduceMul, Nat.reduceSub, Nat.reduceEqDiff, Nat.reduceLT, Nat.reduceLeDiff, Nat.reduceBEq, Int.reduceLT, Int.reduceLE, Int.reduceEq,
    Int.reduceNe, Int.reduceAdd, Int.reduceSub, Int.reduceMul, Int.reduceToNat, push_cast, pairsOk, locGet, locSet, nextGen, p2_int, intBin, len_str Try.underlying9, h0, h3, e, hr]
    exact ⟨_, rfl, fun k => by cases k⟩
  | succ n ih =>
    intro i F hi h0 h3
    have e : (i : Int) < s.size := by omega
    have hlt : i < (bl s).length := by rw [bl_len]; omega
    have hb : byteAt s (i : Int) = some (bl s)[i] := by rw [byteAt_nat, List.getElem?_eq_getElem hlt]
    have hd : (bl s).getD i 0 = (bl s)[i] := by rw [List.getD_eq_getElem?_getD, List.getElem?_eq_getElem hlt]; rfl
    have hro : restOk s i (n + 1) = (okAt i (bl s)[i] && restOk s (i + 1) n) := by simp only [restOk, List.range'_succ, List.all_cons, hd]
    rw [hro]
    generalize (bl s)[i] = b at hb ⊢
    rw [X_loop]
    have hw : IntKind.i64.wrap ((i : Int) + 1) = ((i + 1 : Nat) : Int) := by rw [wrap_i64] <;> omega
    have hz : decide ((b.toNat : Int) = 95) = decide (b.toNat = 95) := by congr 1; simp; omega
    have ih' : ∀ F : Nat → AV, F 0 = vS s → F 3 = vI ((i + 1 : Nat) : Int) → _ := fun F => ih (i + 1) F (by omega)
    cases hl : isLetter b
    · cases hu : decide (b.toNat = 95)
      · cases hdg : isDigit b
        · have ho : okAt i b = false := by simp [okAt, hl, hu, hdg]
          simp only [reduceIte, reduceCtorEq, Nat.reduceAdd, Nat.reduceMul, Nat.reduceSub, Nat.reduceEqDiff, Nat.reduceLT, Nat.reduceLeDiff, Nat.reduceBEq, Int.reduceLT, Int.reduceLE, Int.reduceEq,
    Int.reduceNe, Int.reduceAdd, Int.reduceSub, Int.reduceMul, Int.reduceToNat, push_cast, pairsOk, locGet, locSet, nextGen, p2_int, intBin, len_str Try.underlying9, p2_index Try.underlying9, f57, f58, h0, h3, e, hb, hl, hu, hdg, hz, ho]
          exact ⟨_, rfl, fun _ => rfl⟩
        · by_cases hi0 : i = 0
          · have hi0' : ((i : Int) = 0) = True := eq_true (by omega)
            have ho : okAt i b = false := by simp [okAt, hl, hu, hi0]
            simp only [reduceIte, reduceCtorEq, Nat.reduceAdd, Nat.reduceMul, Nat.reduceSub, Nat.reduceEqDiff, Nat.reduceLT, Nat.reduceLeDiff, Nat.reduceBEq, Int.reduceLT, Int.reduceLE, Int.reduceEq,
    Int.reduceNe, Int.reduceAdd, Int.reduceSub, Int.reduceMul, Int.reduceToNat, push_cast, pairsOk, locGet, locSet, nextGen, p2_int, intBin, len_str Try.underlying9, p2_index Try.underlying9, f57, f58, h0, h3, e, hb, hl, hu, hdg, hz, hi0', ho]
            exact ⟨_, rfl, fun _ => rfl⟩
          · have hi0' : ¬ (i : Int) = 0 := by omega
            have ho : okAt i b = true := by simp [okAt, hl, hu, hdg, hi0]
            simp only [reduceIte, reduceCtorEq, Nat.reduceAdd, Nat.reduceMul, Nat.reduceSub, Nat.reduceEqDiff, Nat.reduceLT, Nat.reduceLeDiff, Nat.reduceBEq, Int.reduceLT, Int.reduceLE, Int.reduceEq,
    Int.reduceNe, Int.reduceAdd, Int.reduceSub, Int.reduceMul, Int.reduceToNat, push_cast, pairsOk, locGet, locSet, nextGen, p2_int, intBin, len_str Try.underlying9, p2_index Try.underlying9, f57, f58, h0, h3, e, hb, hl, hu, hdg, hz, hi0', ho, hw]
            exact ih' _ (by simp only [reduceIte, reduceCtorEq, Nat.reduceAdd, Nat.reduceMul, Nat.reduceSub, Nat.reduceEqDiff, Nat.reduceLT, Nat.reduceLeDiff, Nat.reduceBEq, Int.reduceLT, Int.reduceLE, Int.reduceEq,
    Int.reduceNe, Int.reduceAdd, Int.reduceSub, Int.reduceMul, Int.reduceToNat, push_cast, pairsOk, locGet, locSet, nextGen, h0]) (by simp only [reduceIte, reduceCtorEq, Nat.reduceAdd, Nat.reduceMul, Nat.reduceSub, Nat.reduceEqDiff, Nat.reduceLT, Nat.reduceLeDiff, Nat.reduceBEq, Int.reduceLT, Int.reduceLE, Int.reduceEq,
    Int.reduceNe, Int.reduceAdd, Int.reduceSub, Int.reduceMul, Int.reduceToNat, push_cast, pairsOk, locGet, locSet, nextGen])
      · have ho : okAt i b = true := by simp [okAt, hu]
        simp only [reduceIte, reduceCtorEq, Nat.reduceAdd, Nat.reduceMul, Nat.reduceSub, Nat.reduceEqDiff, Nat.reduceLT, Nat.reduceLeDiff, Nat.reduceBEq, Int.reduceLT, Int.reduceLE, Int.reduceEq,
    Int.reduceNe, Int.reduceAdd, Int.reduceSub, Int.reduceMul, Int.reduceToNat, push_cast, pairsOk, locGet, locSet, nextGen, p2_int, intBin, len_str Try.underlying9, p2_index Try.underlying9, f57, f58, h0, h3, e, hb, hl, hu, hz, ho, hw]
        exact ih' _ (by simp only [reduceIte, reduceCtorEq, Nat.reduceAdd, Nat.reduceMul, Nat.reduceSub, Nat.reduceEqDiff, Nat.reduceLT, Nat.reduceLeDiff, Nat.reduceBEq, Int.reduceLT, Int.reduceLE, Int.reduceEq,
    Int.reduceNe, Int.reduceAdd, Int.reduceSub, Int.reduceMul, Int.reduceToNat, push_cast, pairsOk, locGet, locSet, nextGen, h0]) (by simp only [reduceIte, reduceCtorEq, Nat.reduceAdd, Nat.reduceMul, Nat.reduceSub, Nat.reduceEqDiff, Nat.reduceLT, Nat.reduceLeDiff, Nat.reduceBEq, Int.reduceLT, Int.reduceLE, Int.reduceEq,
    Int.reduceNe, Int.reduceAdd, Int.reduceSub, Int.reduceMul, Int.reduceToNat, push_cast, pairsOk, locGet, locSet, nextGen])
    · have ho : okAt i b = true := by simp [okAt, hl]
      simp only [reduceIte, reduceCtorEq, Nat.reduceAdd, Nat.reduceMul, Nat.reduceSub, Nat.reduceEqDiff, Nat.reduceLT, Nat.reduceLeDiff, Nat.reduceBEq, Int.reduceLT, Int.reduceLE, Int.reduceEq,
    Int.reduceNe, Int.reduceAdd, Int.reduceSub, Int.reduceMul, Int.reduceToNat, push_cast, pairsOk, locGet, locSet, nextGen, p2_int, intBin, len_str Try.underlying9, p2_index Try.underlying9, f57, f58, h0, h3, e, hb, hl, ho, hw]
      exact ih' _ (by simp only [reduceIte, reduceCtorEq, Nat.reduceAdd, Nat.reduceMul, Nat.reduceSub, Nat.reduceEqDiff, Nat.reduceLT, Nat.reduceLeDiff, Nat.reduceBEq, Int.reduceLT, Int.reduceLE, Int.reduceEq,
    Int.reduceNe, Int.reduceAdd, Int.reduceSub, Int.reduceMul, Int.reduceToNat, push_cast, pairsOk, locGet, locSet, nextGen, h0]) (by simp only [reduceIte, reduceCtorEq, Nat.reduceAdd, Nat.reduceMul, Nat.reduceSub, Nat.reduceEqDiff, Nat.reduceLT, Nat.reduceLeDiff, Nat.reduceBEq, Int.reduceLT, Int.reduceLE, Int.reduceEq,
    Int.reduceNe, Int.reduceAdd, Int.reduceSub, Int.reduceMul, Int.reduceToNat, push_cast, pairsOk, locGet, locSet, nextGen])
theorem f38 (s : ByteArray) (h : H) : acallI (cfg w0 t) 38 [vS s] h = some (.ret (vB (nameOk s)), h, none) := by
  rw [E38]
  unfold nameOk
  have e1 : ((s.size : Int) < 1) = ¬ (1 ≤ s.size) := by rw [eq_iff_iff]; omega
  have e2 : ((16 : Int) < s.size) = ¬ (s.size ≤ 16) := by rw [eq_iff_iff]; omega
  by_cases h1 : 1 ≤ s.size
  · by_cases h2 : s.size ≤ 16
    · obtain ⟨G, L⟩ := skol (P := fun F : Nat → AV => F 0 = vS s ∧ F 3 = vI 0) (fun F hF => L38 (w0 := w0) (t := t) s h2 h s.size 0 F (by omega) hF.1 hF.2)
      have L1 := fun F hF => (L F hF).1
      have L2 := fun F hF => (L F hF).2
      dsimp only [lp, loopsOf, Try.f38, Option.getD, List.append_eq, List.nil_append, List.cons_append, List.getElem?_cons_zero] at L1 ⊢
      cases hr : restOk s 0 s.size <;> rw [hr] at L1 L2
      · have L2 := fun F hF => L2 F hF rfl
        simp only [reduceIte, reduceCtorEq, Nat.reduceAdd, Nat.reduceMul, Nat.reduceSub, Nat.reduceEqDiff, Nat.reduceLT, Nat.reduceLeDiff, Nat.reduceBEq, Int.reduceLT, Int.reduceLE, Int.reduceEq,
    Int.reduceNe, Int.reduceAdd, Int.reduceSub, Int.reduceMul, Int.reduceToNat, push_cast, pairsOk, locGet, locSet, nextGen, p2_int, intBin, len_str Try.underlying9, e1, e2, h1, h2, not_true, L1, L2]
      · simp only [reduceIte, reduceCtorEq, Nat.reduceAdd, Nat.reduceMul, Nat.reduceSub, Nat.reduceEqDiff, Nat.reduceLT, Nat.reduceLeDiff, Nat.reduceBEq, Int.reduceLT, Int.reduceLE, Int.reduceEq,
    Int.reduceNe, Int.reduceAdd, Int.reduceSub, Int.reduceMul, Int.reduceToNat, push_cast, pairsOk, locGet, locSet, nextGen, p2_int, intBin, len_str Try.underlying9, e1, e2, h1, h2, not_true, L1]
    · dsimp only [Try.f38, Option.getD]
      simp only [reduceIte, reduceCtorEq, Nat.reduceAdd, Nat.reduceMul, Nat.reduceSub, Nat.reduceEqDiff, Nat.reduceLT, Nat.reduceLeDiff, Nat.reduceBEq, Int.reduceLT, Int.reduceLE, Int.reduceEq,
    Int.reduceNe, Int.reduceAdd, Int.reduceSub, Int.reduceMul, Int.reduceToNat, push_cast, pairsOk, locGet, locSet, nextGen, p2_int, intBin, len_str Try.underlying9, e1, e2, h1, h2, not_true, not_false_eq_true]
  · dsimp only [Try.f38, Option.getD]
    simp only [reduceIte, reduceCtorEq, Nat.reduceAdd, Nat.reduceMul, Nat.reduceSub, Nat.reduceEqDiff, Nat.reduceLT, Nat.reduceLeDiff, Nat.reduceBEq, Int.reduceLT, Int.reduceLE, Int.reduceEq,
    Int.reduceNe, Int.reduceAdd, Int.reduceSub, Int.reduceMul, Int.reduceToNat, push_cast, pairsOk, locGet, locSet, nextGen, p2_int, intBin, len_str Try.underlying9, e1, e2, h1, not_true, not_false_eq_true]
end Go.Proofs.Ytmglahnoemgieaa.Ax
namespace Go.Proofs.Ytmglahnoemgieaa.Ax
open Go Go.RowKit
set_option linter.unusedSimpArgs false
set_option linter.unusedVariables false
set_option maxHeartbeats 4000000
variable {w0 : World} {t : Option Gf}
theorem get_bl (s : ByteArray) (i : Nat) (hi : i < (bl s).length) : s.get! i = (bl s)[i] := by
  have : i < s.data.size := by rw [← Array.length_toList]; exact hi
  show s.data[i]! = _
  rw [getElem!_pos s.data i this]
  rfl
theorem decode_small (s : ByteArray) (i : Nat) (hi : i < (bl s).length) (hb : (bl s)[i].toNat < 128) : Utf8.decode s i = ((bl s)[i].toNat, 1) := by
  unfold Utf8.decode
  simp only [Nat.add_zero, get_bl s i hi]
  rw [if_pos hb]
theorem decode_big (s : ByteArray) (i : Nat) (hi : i < (bl s).length) (hb : ¬ (bl s)[i].toNat < 128) : 128 ≤ (Utf8.decode s i).1 := by
  unfold Utf8.decode
  simp only [Nat.add_zero, get_bl s i hi]
  rw [if_neg hb]
  split
  · split
    · assumption
    · decide
  · split
    · split
      · rename_i h; simp only [Bool.and_eq_true, decide_eq_true_eq] at h; simp only; omega
      · decide
    · split
      · split
        · rename_i h; simp only [Bool.and_eq_true, decide_eq_true_eq] at h; simp only; omega
        · decide
      · decide
/-- is a rune among bytes, from a place on? -/
def hasR (L : List UInt8) (c : Nat) : Bool := L.any fun b => decide (b.toNat = c)
def R69 (h : H) (set : ByteArray) (c : Nat) (j : Nat) (F : Nat → AV) (loc : Loc) (b : Bool) (R : Option (Ex × S)) : Prop :=
  ∃ F' loc', R = some (.exit 2, ⟨fl 32 F', loc', h, none⟩) ∧ F' 7 = vB (b || hasR ((bl set).drop j) c) ∧
      F' 0 = F 0 ∧ F' 1 = F 1 ∧ F' 5 = F 5 ∧ F' 11 = F 11 ∧ locGet loc' 11 = locGet loc 11
theorem R69.step {h : H} {set : ByteArray} {c j : Nat} {F F2 : Nat → AV} {loc loc2 : Loc} {b b2 : Bool} {R : Option (Ex × S)} (k : R69 h set c (j + 1) F2 loc2 b2 R)
    (hb : (b2 || hasR ((bl set).drop (j + 1)) c) = (b || hasR ((bl set).drop j) c)) (h0 : F2 0 = F 0) (h1 : F2 1 = F 1) (h5 : F2 5 = F 5) (h11 : F2 11 = F 11) (hl : locGet loc2 11 = locGet loc 11) : R69 h set c j F loc b R := by
  obtain ⟨F', loc', k1, k2, k3, k4, k5, k6, k7⟩ := k
  exact ⟨F', loc', k1, by rw [k2, hb], k3.trans h0, k4.trans h1, k5.trans h5, k6.trans h11, k7.trans hl⟩
theorem L69i (set : ByteArray) (hset : ∀ b ∈ bl set, b.toNat < 128) (c : Nat) (g : Nat) (h : H) : ∀ (n j : Nat) (F : Nat → AV) (loc : Loc) (b : Bool), j + n = set.size →
    F 6 = .val (.int .i32 c) → F 7 = vB b → F 17 = .bx 17 g 0 → locGet loc 17 = some (g, .iter set j) →
    R69 h set c j F loc b (acodeI (cfg w0 t) 69 (.loop (lp Try.f69 1)) ⟨fl 32 F, loc, h, none⟩) := by
  dsimp only [lp, loopsOf, Try.f69, Option.getD, List.append_eq, List.nil_append, List.cons_append, List.getElem?_cons_zero, List.getElem?_cons_succ]
  intro n
  induction n with
  | zero =>
    intro j F loc b hj h6 h7 h17 hl
    have e : ¬ (j < set.size) := by omega
    have hnil : (bl set).drop j = [] := List.drop_eq_nil_of_le (by rw [bl_len]; omega)
    rw [X_loop]
    simp only [reduceIte, reduceCtorEq, Nat.reduceAdd, Nat.reduceMul, Nat.reduceSub, Nat.reduceEqDiff, Nat.reduceLT, Nat.reduceLeDiff, Nat.reduceBEq, Int.reduceLT, Int.reduceLE, Int.reduceEq,
    Int.reduceNe, Int.reduceAdd, Int.reduceSub, Int.reduceMul, Int.reduceToNat, push_cast, pairsOk, locGet_set, p2_int, intBin, h6, h7, h17, hl, e]
    exact ⟨_, _, rfl, by simp only [reduceIte, reduceCtorEq, Nat.reduceAdd, Nat.reduceMul, Nat.reduceSub, Nat.reduceEqDiff, Nat.reduceLT, Nat.reduceLeDiff, Nat.reduceBEq, Int.reduceLT, Int.reduceLE, Int.reduceEq,
    Int.reduceNe, Int.reduceAdd, Int.reduceSub, Int.reduceMul, Int.reduceToNat, push_cast, pairsOk, locGet_set, h7, hnil, hasR, List.any_nil], by simp only [reduceIte, reduceCtorEq, Nat.reduceAdd, Nat.reduceMul, Nat.reduceSub, Nat.reduceEqDiff, Nat.reduceLT, Nat.reduceLeDiff, Nat.reduceBEq, Int.reduceLT, Int.reduceLE, Int.reduceEq,
    Int.reduceNe, Int.reduceAdd, Int.reduceSub, Int.reduceMul, Int.reduceToNat, push_cast, pairsOk, locGet_set], by simp only [reduceIte, reduceCtorEq, Nat.reduceAdd, Nat.reduceMul, Nat.reduceSub, Nat.reduceEqDiff, Nat.reduceLT, Nat.reduceLeDiff, Nat.reduceBEq, Int.reduceLT, Int.reduceLE, Int.reduceEq,
    Int.reduceNe, Int.reduceAdd, Int.reduceSub, Int.reduceMul, Int.reduceToNat, push_cast, pairsOk, locGet_set], by simp only [reduceIte, reduceCtorEq, Nat.reduceAdd, Nat.reduceMul, Nat.reduceSub, Nat.reduceEqDiff, Nat.reduceLT, Nat.reduceLeDiff, Nat.reduceBEq, Int.reduceLT, Int.reduceLE, Int.reduceEq,
    Int.reduceNe, Int.reduceAdd, Int.reduceSub, Int.reduceMul, Int.reduceToNat, push_cast, pairsOk, locGet_set], by simp only [reduceIte, reduceCtorEq, Nat.reduceAdd, Nat.reduceMul, Nat.reduceSub, Nat.reduceEqDiff, Nat.reduceLT, Nat.reduceLeDiff, Nat.reduceBEq, Int.reduceLT, Int.reduceLE, Int.reduceEq,
    Int.reduceNe, Int.reduceAdd, Int.reduceSub, Int.reduceMul, Int.reduceToNat, push_cast, pairsOk, locGet_set], rfl⟩
  | succ n ih =>
    intro j F loc b hj h6 h7 h17 hl
    have e : j < set.size := by omega
    have hlt : j < (bl set).length := by rw [bl_len]; exact e
    have hdec := decode_small set j hlt (hset _ (List.getElem_mem hlt))
    have hdr := List.drop_eq_getElem_cons hlt
    generalize (bl set)[j] = x at hdec hdr
    rw [X_loop]
    have hcx : decide ((c : Int) = (x.toNat : Int)) = decide (x.toNat = c) := by congr 1; rw [eq_iff_iff]; omega
    cases b with
    | true =>
      simp only [reduceIte, reduceCtorEq, Nat.reduceAdd, Nat.reduceMul, Nat.reduceSub, Nat.reduceEqDiff, Nat.reduceLT, Nat.reduceLeDiff, Nat.reduceBEq, Int.reduceLT, Int.reduceLE, Int.reduceEq,
    Int.reduceNe, Int.reduceAdd, Int.reduceSub, Int.reduceMul, Int.reduceToNat, push_cast, pairsOk, locGet_set, p2_int, intBin, h6, h7, h17, hl, e, hdec]
      refine R69.step (ih (j + 1) _ _ true (by omega) ?_ ?_ ?_ ?_) (by rw [Bool.true_or, Bool.true_or]) ?_ ?_ ?_ ?_ ?_ <;> simp only [reduceIte, reduceCtorEq, Nat.reduceAdd, Nat.reduceMul, Nat.reduceSub, Nat.reduceEqDiff, Nat.reduceLT, Nat.reduceLeDiff, Nat.reduceBEq, Int.reduceLT, Int.reduceLE, Int.reduceEq,
    Int.reduceNe, Int.reduceAdd, Int.reduceSub, Int.reduceMul, Int.reduceToNat, push_cast, pairsOk, locGet_set, h6, h17]
    | false =>
      simp only [reduceIte, reduceCtorEq, Nat.reduceAdd, Nat.reduceMul, Nat.reduceSub, Nat.reduceEqDiff, Nat.reduceLT, Nat.reduceLeDiff, Nat.reduceBEq, Int.reduceLT, Int.reduceLE, Int.reduceEq,
    Int.reduceNe, Int.reduceAdd, Int.reduceSub, Int.reduceMul, Int.reduceToNat, push_cast, pairsOk, locGet_set, p2_int, intBin, h6, h7, h17, hl, e, hdec, hcx]
      refine R69.step (ih (j + 1) _ _ (decide (x.toNat = c)) (by omega) ?_ ?_ ?_ ?_) (by rw [hdr]; simp [hasR]) ?_ ?_ ?_ ?_ ?_ <;> simp only [reduceIte, reduceCtorEq, Nat.reduceAdd, Nat.reduceMul, Nat.reduceSub, Nat.reduceEqDiff, Nat.reduceLT, Nat.reduceLeDiff, Nat.reduceBEq, Int.reduceLT, Int.reduceLE, Int.reduceEq,
    Int.reduceNe, Int.reduceAdd, Int.reduceSub, Int.reduceMul, Int.reduceToNat, push_cast, pairsOk, locGet_set, h6, h17]
def gOf (loc : Loc) (s : Nat) : Nat := match locGet loc s with | some (g, _) => g | none => 0
/-- how many bytes at the begin are among some -/
def preN (set : ByteArray) (L : List UInt8) : Nat := (L.takeWhile fun b => hasR (bl set) b.toNat).length
def R69o (h : H) (s set : ByteArray) (pos : Nat) (R : Option (Ex × S)) : Prop :=
  ∃ F' loc', R = some (if pos + preN set ((bl s).drop pos) = s.size then .exit 0 else .ret, ⟨fl 32 F', loc', h, none⟩) ∧
    (pos + preN set ((bl s).drop pos) ≠ s.size → F' 4 = vS (s.extract (pos + preN set ((bl s).drop pos)) s.size))
theorem R69o.step {h : H} {s set : ByteArray} {p q : Nat} {R : Option (Ex × S)} (k : R69o h s set p R) (e : p + preN set ((bl s).drop p) = q + preN set ((bl s).drop q)) : R69o h s set q R := by
  unfold R69o at k ⊢
  rw [e] at k
  exact k
theorem hasR_big {set : ByteArray} (hset : ∀ b ∈ bl set, b.toNat < 128) {c : Nat} (hc : 128 ≤ c) : hasR (bl set) c = false := by
  unfold hasR
  rw [List.any_eq_false]
  intro b hb
  have := hset b hb
  simp; omega
theorem L69o (s set : ByteArray) (hset : ∀ b ∈ bl set, b.toNat < 128) (hmax : s.size ≤ 9223372036854775807) (h : H) : ∀ (n pos : Nat) (F : Nat → AV) (loc : Loc), pos + n = s.size →
    F 0 = vS s → F 1 = vS set → F 11 = .bx 11 1 0 → locGet loc 11 = some (1, .iter s pos) →
    R69o h s set pos (acodeI (cfg w0 t) 69 (.loop (lp Try.f69 0)) ⟨fl 32 F, loc, h, none⟩) := by
  intro n
  induction n with
  | zero =>
    intro pos F loc hp h0 h1 h11 hl
    have e : ¬ (pos < s.size) := by omega
    have hnil : (bl s).drop pos = [] := List.drop_eq_nil_of_le (by rw [bl_len]; omega)
    have hp' : pos + preN set ((bl s).drop pos) = s.size := by rw [hnil]; simp [preN]; omega
    dsimp only [lp, loopsOf, Try.f69, Option.getD, List.append_eq, List.nil_append, List.cons_append, List.getElem?_cons_zero, List.getElem?_cons_succ]
    rw [X_loop]
    simp only [reduceIte, reduceCtorEq, Nat.reduceAdd, Nat.reduceMul, Nat.reduceSub, Nat.reduceEqDiff, Nat.reduceLT, Nat.reduceLeDiff, Nat.reduceBEq, Int.reduceLT, Int.reduceLE, Int.reduceEq,
    Int.reduceNe, Int.reduceAdd, Int.reduceSub, Int.reduceMul, Int.reduceToNat, push_cast, pairsOk, locGet_set, p2_int, intBin, h11, hl, e]
    exact ⟨_, _, by rw [if_pos hp'], fun k => (k hp').elim⟩
  | succ n ih =>
    intro pos F loc hp h0 h1 h11 hl
    have e : pos < s.size := by omega
    have hlt : pos < (bl s).length := by rw [bl_len]; exact e
    obtain ⟨G, hG⟩ := skol (P := fun a : (Nat → AV) × Loc => a.1 6 = .val (.int .i32 (Utf8.decode s pos).1) ∧ a.1 7 = vB false ∧ a.1 17 = .bx 17 (gOf a.2 17) 0 ∧ locGet a.2 17 = some (gOf a.2 17, .iter set 0))
      (Q := fun a b => acodeI (cfg w0 t) 69 (.loop (lp Try.f69 1)) ⟨fl 32 a.1, a.2, h, none⟩ = some (.exit 2, ⟨fl 32 b.1, b.2, h, none⟩) ∧ b.1 7 = vB (hasR (bl set) (Utf8.decode s pos).1) ∧ b.1 0 = a.1 0 ∧ b.1 1 = a.1 1 ∧ b.1 5 = a.1 5 ∧ b.1 11 = a.1 11 ∧ locGet b.2 11 = locGet a.2 11) (β := (Nat → AV) × Loc) (fun a ha => by
        obtain ⟨F', loc', k1, k2, k3, k4, k5, k6, k7⟩ := L69i (w0 := w0) (t := t) set hset (Utf8.decode s pos).1 (gOf a.2 17) h set.size 0 a.1 a.2 false (by omega) ha.1 ha.2.1 ha.2.2.1 ha.2.2.2
        exact ⟨(F', loc'), k1, by simpa using k2, k3, k4, k5, k6, k7⟩)
    have G1 := fun F loc hc => (hG (F, loc) hc).1
    have G7 := fun F loc hc => (hG (F, loc) hc).2.1
    have G0 := fun F loc hc => (hG (F, loc) hc).2.2.1
    have G1' := fun F loc hc => (hG (F, loc) hc).2.2.2.1
    have G5 := fun F loc hc => (hG (F, loc) hc).2.2.2.2.1
    have G11 := fun F loc hc => (hG (F, loc) hc).2.2.2.2.2.1
    have GL := fun F loc hc => (hG (F, loc) hc).2.2.2.2.2.2
    simp only at G1 G7 G0 G1' G5 G11 GL
    clear hG
    have hdr := List.drop_eq_getElem_cons hlt
    have hle : (pos : Int) ≤ s.size := by omega
    have hge : (0 : Int) ≤ pos := by omega
    by_cases hb : (bl s)[pos].toNat < 128
    · have hdec := decode_small s pos hlt hb
      rw [hdec] at G1 G7 G0 G1' G5 G11 GL
      generalize (bl s)[pos] = x at hb hdec hdr G1 G7 G0 G1' G5 G11 GL
      dsimp only [lp, loopsOf, Try.f69, Option.getD, List.append_eq, List.nil_append, List.cons_append, List.getElem?_cons_zero, List.getElem?_cons_succ] at ih G1 G7 G0 G1' G5 G11 GL ⊢
      rw [X_loop]
      cases hr : hasR (bl set) x.toNat <;> rw [hr] at G7
      · have hz : preN set ((bl s).drop pos) = 0 := by rw [hdr]; simp [preN, hr]
        simp only [reduceIte, reduceCtorEq, Nat.reduceAdd, Nat.reduceMul, Nat.reduceSub, Nat.reduceEqDiff, Nat.reduceLT, Nat.reduceLeDiff, Nat.reduceBEq, Int.reduceLT, Int.reduceLE, Int.reduceEq,
    Int.reduceNe, Int.reduceAdd, Int.reduceSub, Int.reduceMul, Int.reduceToNat, push_cast, pairsOk, locGet_set, p2_int, intBin, h0, h1, h11, hl, e, hdec, gOf, G1, G7, G0, G5, sl_str_l Try.underlying9 hge hle]
        refine ⟨_, _, by rw [hz, if_neg (by omega)], fun _ => ?_⟩
        simp only [reduceIte, reduceCtorEq, Nat.reduceAdd, Nat.reduceMul, Nat.reduceSub, Nat.reduceEqDiff, Nat.reduceLT, Nat.reduceLeDiff, Nat.reduceBEq, Int.reduceLT, Int.reduceLE, Int.reduceEq,
    Int.reduceNe, Int.reduceAdd, Int.reduceSub, Int.reduceMul, Int.reduceToNat, push_cast, pairsOk, locGet_set, hz, Int.toNat_natCast]
      · have hz : pos + 1 + preN set ((bl s).drop (pos + 1)) = pos + preN set ((bl s).drop pos) := by rw [hdr]; simp [preN, hr]; omega
        simp only [reduceIte, reduceCtorEq, Nat.reduceAdd, Nat.reduceMul, Nat.reduceSub, Nat.reduceEqDiff, Nat.reduceLT, Nat.reduceLeDiff, Nat.reduceBEq, Int.reduceLT, Int.reduceLE, Int.reduceEq,
    Int.reduceNe, Int.reduceAdd, Int.reduceSub, Int.reduceMul, Int.reduceToNat, push_cast, pairsOk, locGet_set, p2_int, intBin, h0, h1, h11, hl, e, hdec, gOf, G1, G7]
        refine R69o.step (ih (pos + 1) _ _ (by omega) ?_ ?_ ?_ ?_) hz <;> simp only [reduceIte, reduceCtorEq, Nat.reduceAdd, Nat.reduceMul, Nat.reduceSub, Nat.reduceEqDiff, Nat.reduceLT, Nat.reduceLeDiff, Nat.reduceBEq, Int.reduceLT, Int.reduceLE, Int.reduceEq,
    Int.reduceNe, Int.reduceAdd, Int.reduceSub, Int.reduceMul, Int.reduceToNat, push_cast, pairsOk, locGet_set, h0, h1, h11, G0, G1', G11, GL, gOf]
    · have hbig := decode_big s pos hlt hb
      generalize (bl s)[pos] = x at hb hdr
      have hx : hasR (bl set) x.toNat = false := hasR_big hset (by omega)
      have hz : preN set ((bl s).drop pos) = 0 := by rw [hdr]; simp [preN, hx]
      generalize hdec : Utf8.decode s pos = d at hbig G1 G7 G0 G1' G5 G11 GL
      obtain ⟨r, k⟩ := d
      have hr : hasR (bl set) r = false := hasR_big hset hbig
      rw [hr] at G7
      dsimp only [lp, loopsOf, Try.f69, Option.getD, List.append_eq, List.nil_append, List.cons_append, List.getElem?_cons_zero, List.getElem?_cons_succ] at ih G1 G7 G0 G1' G5 G11 GL ⊢
      rw [X_loop]
      simp only [reduceIte, reduceCtorEq, Nat.reduceAdd, Nat.reduceMul, Nat.reduceSub, Nat.reduceEqDiff, Nat.reduceLT, Nat.reduceLeDiff, Nat.reduceBEq, Int.reduceLT, Int.reduceLE, Int.reduceEq,
    Int.reduceNe, Int.reduceAdd, Int.reduceSub, Int.reduceMul, Int.reduceToNat, push_cast, pairsOk, locGet_set, p2_int, intBin, h0, h1, h11, hl, e, hdec, gOf, G1, G7, G0, G5, sl_str_l Try.underlying9 hge hle]
      refine ⟨_, _, by rw [hz, if_neg (by omega)], fun _ => ?_⟩
      simp only [reduceIte, reduceCtorEq, Nat.reduceAdd, Nat.reduceMul, Nat.reduceSub, Nat.reduceEqDiff, Nat.reduceLT, Nat.reduceLeDiff, Nat.reduceBEq, Int.reduceLT, Int.reduceLE, Int.reduceEq,
    Int.reduceNe, Int.reduceAdd, Int.reduceSub, Int.reduceMul, Int.reduceToNat, push_cast, pairsOk, locGet_set, hz, Int.toNat_natCast]
end Go.Proofs.Ytmglahnoemgieaa.Ax
namespace Go.Proofs.Ytmglahnoemgieaa.Ax
open Go Go.RowKit
set_option linter.unusedSimpArgs false
set_option linter.unusedVariables false
set_option maxHeartbeats 4000000
variable {w0 : World} {t : Option Gf}
theorem ext_size (s : ByteArray) (i j : Nat) : (s.extract i j).size = min j s.size - i := by
  rw [ByteArray.size_extract]
theorem ext_nil (s : ByteArray) : s.extract s.size s.size = ByteArray.empty := by
  apply ByteArray.ext
  apply Array.ext'
  apply List.eq_nil_of_length_eq_zero
  show (bl (s.extract s.size s.size)).length = 0
  rw [bl_len, ext_size]; omega
theorem preN_le (set : ByteArray) (L : List UInt8) : preN set L ≤ L.length := by
  unfold preN
  exact (List.takeWhile_sublist _).length_le
theorem f69 (s set : ByteArray) (hset : ∀ b ∈ bl set, b.toNat < 128) (hmax : s.size ≤ 9223372036854775807) (h : H) : acallI (cfg w0 t) 69 [vS s, vS set] h = some (.ret (vS (s.extract (preN set (bl s)) s.size)), h, none) := by
  rw [E69]
  obtain ⟨G, hG⟩ := skol (P := fun a : (Nat → AV) × Loc => a.1 0 = vS s ∧ a.1 1 = vS set ∧ a.1 11 = .bx 11 1 0 ∧ locGet a.2 11 = some (1, .iter s 0))
    (Q := fun a b => acodeI (cfg w0 t) 69 (.loop (lp Try.f69 0)) ⟨fl 32 a.1, a.2, h, none⟩ = some (if 0 + preN set ((bl s).drop 0) = s.size then .exit 0 else .ret, ⟨fl 32 b.1, b.2, h, none⟩) ∧ (0 + preN set ((bl s).drop 0) ≠ s.size → b.1 4 = vS (s.extract (0 + preN set ((bl s).drop 0)) s.size))) (β := (Nat → AV) × Loc) (fun a ha => by
      obtain ⟨F', loc', k1, k2⟩ := L69o (w0 := w0) (t := t) s set hset hmax h s.size 0 a.1 a.2 (by omega) ha.1 ha.2.1 ha.2.2.1 ha.2.2.2
      exact ⟨(F', loc'), k1, k2⟩)
  have G1 := fun F loc hc => (hG (F, loc) hc).1
  have G4 := fun F loc hc => (hG (F, loc) hc).2
  simp only [Nat.zero_add, List.drop_zero] at G1 G4
  clear hG
  dsimp only [lp, loopsOf, Try.f69, Option.getD, List.append_eq, List.nil_append, List.cons_append, List.getElem?_cons_zero, List.getElem?_cons_succ] at G1 G4 ⊢
  by_cases hp : preN set (bl s) = s.size
  · rw [if_pos hp] at G1
    simp only [reduceIte, reduceCtorEq, Nat.reduceAdd, Nat.reduceMul, Nat.reduceSub, Nat.reduceEqDiff, Nat.reduceLT, Nat.reduceLeDiff, Nat.reduceBEq, Int.reduceLT, Int.reduceLE, Int.reduceEq,
    Int.reduceNe, Int.reduceAdd, Int.reduceSub, Int.reduceMul, Int.reduceToNat, push_cast, pairsOk, locGet, locSet, nextGen, p2_int, intBin, G1]
    rw [hp, ext_nil]
  · rw [if_neg hp] at G1
    have G4' := fun F loc hc => G4 F loc hc hp
    simp only [reduceIte, reduceCtorEq, Nat.reduceAdd, Nat.reduceMul, Nat.reduceSub, Nat.reduceEqDiff, Nat.reduceLT, Nat.reduceLeDiff, Nat.reduceBEq, Int.reduceLT, Int.reduceLE, Int.reduceEq,
    Int.reduceNe, Int.reduceAdd, Int.reduceSub, Int.reduceMul, Int.reduceToNat, push_cast, pairsOk, locGet, locSet, nextGen, p2_int, intBin, G1, G4']
theorem f64 (s set : ByteArray) (hset : ∀ b ∈ bl set, b.toNat < 128) (hmax : s.size ≤ 9223372036854775807) (h : H) : acallI (cfg w0 t) 64 [vS s, vS set] h = some (.ret (vI (preN set (bl s))), h, none) := by
  rw [E64]
  have hle : preN set (bl s) ≤ s.size := by have := preN_le set (bl s); rwa [bl_len] at this
  have hw : IntKind.i64.wrap ((s.size : Int) - ((s.extract (preN set (bl s)) s.size).size : Int)) = (preN set (bl s) : Int) := by
    rw [ext_size, wrap_i64] <;> omega
  dsimp only [Try.f64, Option.getD]
  simp only [reduceIte, reduceCtorEq, Nat.reduceAdd, Nat.reduceMul, Nat.reduceSub, Nat.reduceEqDiff, Nat.reduceLT, Nat.reduceLeDiff, Nat.reduceBEq, Int.reduceLT, Int.reduceLE, Int.reduceEq,
    Int.reduceNe, Int.reduceAdd, Int.reduceSub, Int.reduceMul, Int.reduceToNat, push_cast, pairsOk, locGet, locSet, nextGen, p2_int, intBin, len_str Try.underlying9, f69 s set hset hmax, hw]
end Go.Proofs.Ytmglahnoemgieaa.Ax
namespace Go.Proofs.Ytmglahnoemgieaa.Ax
open Go Go.RowKit
set_option linter.unusedSimpArgs false
set_option linter.unusedVariables false
set_option maxHeartbeats 4000000
variable {w0 : World} {t : Option Gf}
abbrev set1 : ByteArray := { data := #[65, 66, 67, 68, 69, 70, 71, 72, 73, 74, 75, 76, 77, 78, 79, 80, 81, 82, 83, 84, 85, 86, 87, 88, 89, 90, 97, 98, 99, 100, 101, 102, 103, 104, 105, 106, 107, 108, 109, 110, 111, 112, 113, 114, 115, 116, 117, 118, 119, 120, 121, 122, 48, 49, 50, 51, 52, 53, 54, 55, 56, 57, 95] }
abbrev set2 : ByteArray := { data := #[48, 49, 50, 51, 52, 53, 54, 55, 56, 57] }
theorem small1 : ∀ b ∈ bl set1, b.toNat < 128 := by decide
theorem small2 : ∀ b ∈ bl set2, b.toNat < 128 := by decide
def wordN (n : Nat) : Bool := (decide (65 ≤ n) && decide (n ≤ 90)) || (decide (97 ≤ n) && decide (n ≤ 122)) || decide (n = 95) || (decide (48 ≤ n) && decide (n ≤ 57))
theorem word_all : (List.range 256).all (fun n => hasR (bl set1) n == wordN n) = true := by kernel_rfl
theorem digit_all : (List.range 256).all (fun n => hasR (bl set2) n == (decide (48 ≤ n) && decide (n ≤ 57))) = true := by kernel_rfl
theorem has1 (b : UInt8) : hasR (bl set1) b.toNat = (isLetter b || decide (b.toNat = 95) || isDigit b) := by
  have := List.all_eq_true.1 word_all b.toNat (List.mem_range.2 b.toNat_lt)
  simpa [wordN, isLetter, isDigit] using this
theorem has2 (b : UInt8) : hasR (bl set2) b.toNat = isDigit b := by
  have := List.all_eq_true.1 digit_all b.toNat (List.mem_range.2 b.toNat_lt)
  simpa [isDigit] using this
theorem take_all {α : Type} (p : α → Bool) : ∀ l : List α, decide ((l.takeWhile p).length = l.length) = l.all p
  | [] => rfl
  | a :: l => by
    have ih := take_all p l
    cases h : p a with
    | true => simp [h]; simpa using ih
    | false => simp [h]
theorem rest_from (s : ByteArray) : ∀ (n i : Nat), i + n = s.size → 1 ≤ i → restOk s i n = ((bl s).drop i).all fun b => hasR (bl set1) b.toNat
  | 0, i, hi, h1 => by
    have : (bl s).drop i = [] := List.drop_eq_nil_of_le (by rw [bl_len]; omega)
    rw [this]; rfl
  | n + 1, i, hi, h1 => by
    have hlt : i < (bl s).length := by rw [bl_len]; omega
    have hd : (bl s).getD i 0 = (bl s)[i] := by rw [List.getD_eq_getElem?_getD, List.getElem?_eq_getElem hlt]; rfl
    have ih := rest_from s n (i + 1) (by omega) (by omega)
    rw [List.drop_eq_getElem_cons hlt, List.all_cons, ← ih]
    simp only [restOk, List.range'_succ, List.all_cons, hd, has1]
    have : decide (i ≠ 0) = true := by simp; omega
    simp only [okAt, this, Bool.and_true]
theorem name_eq (s : ByteArray) (h1 : 1 ≤ s.size) : restOk s 0 s.size = (decide (preN set1 (bl s) = s.size) && decide (preN set2 (bl s) = 0)) := by
  obtain ⟨n, hn⟩ : ∃ n, s.size = n + 1 := ⟨s.size - 1, by omega⟩
  obtain ⟨x, L, hL⟩ : ∃ x L, bl s = x :: L := by
    have : (bl s).length = n + 1 := by rw [bl_len, hn]
    cases h : bl s with
    | nil => rw [h] at this; cases this
    | cons x L => exact ⟨x, L, rfl⟩
  have hr := rest_from s n 1 (by omega) (Nat.le_refl _)
  have e1 : decide (preN set1 (bl s) = s.size) = (bl s).all fun b => hasR (bl set1) b.toNat := by
    rw [← bl_len]; exact take_all _ _
  have e3 : restOk s 0 (n + 1) = (okAt 0 ((bl s).getD 0 0) && restOk s 1 n) := by simp only [restOk, List.range'_succ, List.all_cons]
  rw [e1, hn, e3, hr, hL]
  simp only [List.drop_succ_cons, List.drop_zero, List.getD_cons_zero, List.all_cons, has1]
  have e2 : decide (preN set2 (x :: L) = 0) = !isDigit x := by
    cases hx : isDigit x with
    | true => simp [preN, has2, hx]
    | false => simp [preN, has2, hx]
  rw [e2]
  have hld : isDigit x = true → isLetter x = false ∧ decide (x.toNat = 95) = false := by
    unfold isDigit isLetter
    simp only [Bool.and_eq_true, decide_eq_true_eq, Bool.or_eq_false_iff, Bool.and_eq_false_iff, decide_eq_false_iff_not]
    omega
  unfold okAt
  cases hdg : isDigit x
  · simp
  · obtain ⟨k1, k2⟩ := hld hdg
    rw [k1, k2]
    simp
theorem f49 (s : ByteArray) (hmax : s.size ≤ 9223372036854775807) (h : H) : acallI (cfg w0 t) 49 [vS s] h = some (.ret (vB (nameOk s)), h, none) := by
  rw [E49]
  have e1 : ((1 : Int) ≤ s.size) = (1 ≤ s.size) := cast_le 1 _
  have e2 : ((s.size : Int) ≤ 16) = (s.size ≤ 16) := cast_le _ 16
  have k1 := f64 (w0 := w0) (t := t) s set1 small1 hmax h
  have k2 := f64 (w0 := w0) (t := t) s set2 small2 hmax h
  dsimp only [Try.f49, Option.getD, set1, set2] at k1 k2 ⊢
  unfold nameOk
  have e3 : ((preN set1 (bl s) : Int) = s.size) = (preN set1 (bl s) = s.size) := by rw [eq_iff_iff]; omega
  have e4 : ((preN set2 (bl s) : Int) = 0) = (preN set2 (bl s) = 0) := by rw [eq_iff_iff]; omega
  dsimp only [set1, set2] at e3 e4
  by_cases h1 : 1 ≤ s.size
  · have en := name_eq s h1
    dsimp only [set1, set2] at en
    rw [en]
    by_cases h2 : s.size ≤ 16
    · cases h3 : decide (preN set1 (bl s) = s.size) <;> dsimp only [set1] at h3 <;>
      simp only [reduceIte, reduceCtorEq, Nat.reduceAdd, Nat.reduceMul, Nat.reduceSub, Nat.reduceEqDiff, Nat.reduceLT, Nat.reduceLeDiff, Nat.reduceBEq, Int.reduceLT, Int.reduceLE, Int.reduceEq,
    Int.reduceNe, Int.reduceAdd, Int.reduceSub, Int.reduceMul, Int.reduceToNat, push_cast, pairsOk, locGet, locSet, nextGen, p2_int, intBin, len_str Try.underlying9, e1, e2, e3, e4, h1, h2, h3, k1, k2]
    · simp only [reduceIte, reduceCtorEq, Nat.reduceAdd, Nat.reduceMul, Nat.reduceSub, Nat.reduceEqDiff, Nat.reduceLT, Nat.reduceLeDiff, Nat.reduceBEq, Int.reduceLT, Int.reduceLE, Int.reduceEq,
    Int.reduceNe, Int.reduceAdd, Int.reduceSub, Int.reduceMul, Int.reduceToNat, push_cast, pairsOk, locGet, locSet, nextGen, p2_int, intBin, len_str Try.underlying9, e1, e2, h1, h2]
  · simp only [reduceIte, reduceCtorEq, Nat.reduceAdd, Nat.reduceMul, Nat.reduceSub, Nat.reduceEqDiff, Nat.reduceLT, Nat.reduceLeDiff, Nat.reduceBEq, Int.reduceLT, Int.reduceLE, Int.reduceEq,
    Int.reduceNe, Int.reduceAdd, Int.reduceSub, Int.reduceMul, Int.reduceToNat, push_cast, pairsOk, locGet, locSet, nextGen, p2_int, intBin, len_str Try.underlying9, e1, e2, h1]
end Go.Proofs.Ytmglahnoemgieaa.Ax
namespace Go.Proofs.Ytmglahnoemgieaa.Ax
open Go Go.RowKit
set_option linter.unusedSimpArgs false
set_option linter.unusedVariables false
set_option maxHeartbeats 4000000
variable {w0 : World} {t : Option Gf}
def cellOk (a b : Int) : Bool := decide (0 ≤ a) && decide (a < 64) && decide (0 ≤ b) && decide (b < 1024)
def placedOk (s : ByteArray) (a b : Int) : Bool := nameOk s && cellOk a b
theorem f32 (s : ByteArray) (a b : Int) (hs : s.size ≤ 9223372036854775807) (h : H) : acallI (cfg w0 t) 32 [vS s, .agg [vI a, vI b]] h = some (.ret (vB (placedOk s a b)), h, none) := by
  rw [E32]
  dsimp only [Try.f32, Option.getD]
  have k := f50 (w0 := w0) (t := t) a b h
  rw [show (decide (0 ≤ a) && decide (a < 64) && decide (0 ≤ b) && decide (b < 1024)) = cellOk a b from rfl] at k
  unfold placedOk
  cases hn : nameOk s <;>
  simp only [reduceIte, reduceCtorEq, Nat.reduceAdd, Nat.reduceMul, Nat.reduceSub, Nat.reduceEqDiff, Nat.reduceLT, Nat.reduceLeDiff, Nat.reduceBEq, Int.reduceLT, Int.reduceLE, Int.reduceEq,
    Int.reduceNe, Int.reduceAdd, Int.reduceSub, Int.reduceMul, Int.reduceToNat, push_cast, pairsOk, locGet, locSet, nextGen, f49 s hs, k, hn]
theorem f36 (bk s : ByteArray) (a b : Int) (h : H) : acallI (cfg w0 t) 36 [.agg [vS bk, vS s, vI a, vI b]] h = some (.ret (vB (placedOk s a b)), h, none) := by
  rw [E36]
  dsimp only [Try.f36, Option.getD]
  have k := f55 (w0 := w0) (t := t) a b h
  rw [show (decide (0 ≤ a) && decide (a < 64) && decide (0 ≤ b) && decide (b < 1024)) = cellOk a b from rfl] at k
  unfold placedOk
  cases hn : nameOk s <;>
  simp only [reduceIte, reduceCtorEq, Nat.reduceAdd, Nat.reduceMul, Nat.reduceSub, Nat.reduceEqDiff, Nat.reduceLT, Nat.reduceLeDiff, Nat.reduceBEq, Int.reduceLT, Int.reduceLE, Int.reduceEq,
    Int.reduceNe, Int.reduceAdd, Int.reduceSub, Int.reduceMul, Int.reduceToNat, push_cast, pairsOk, locGet, locSet, nextGen, f38, k, hn]
/-- a slice of our own, whole -/
def LenV (v : AV) (n es : Nat) : Prop := (∃ b g, v = .sl b g 0 n es) ∨ (n = 0 ∧ v = .val (.slice none 0 0))
abbrev vM (k tk : Int) (s : ByteArray) (a b : Int) (ver : Int) (v : Int × Int × ByteArray × Bool × Int) (e : AV) : List AV := [vI k, vI tk, vS s, vI a, vI b, vI ver, vI v.1, vI v.2.1, vS v.2.2.1, vB v.2.2.2.1, vI v.2.2.2.2, e]
def zeroV (v : Int × Int × ByteArray × Bool × Int) : Bool := decide (v.1 = 0) && (decide (v.2.1 = 0) && (decide (v.2.2.1 = .empty) && (decide (v.2.2.2.1 = false) && decide (v.2.2.2.2 = 0))))
theorem f30 (ack : Bool) (inc seq : Int) (body : ByteArray) (h : H) : acallI (cfg w0 t) 30 [.agg [vB ack, vI inc, vI seq, vS body]] h =
    some (.ret (vB (decide (0 ≤ inc) && decide (inc ≤ 9007199254740992) && (decide (0 ≤ seq) && decide (seq ≤ 9007199254740992)) && (!ack || decide (body = .empty)))), h, none) := by
  rw [E30]
  dsimp only [Try.f30, Option.getD]
  have k := fun n => f31 (w0 := w0) (t := t) n h
  cases h1 : (decide (0 ≤ inc) && decide (inc ≤ 9007199254740992))
  · simp only [reduceIte, reduceCtorEq, Nat.reduceAdd, Nat.reduceMul, Nat.reduceSub, Nat.reduceEqDiff, Nat.reduceLT, Nat.reduceLeDiff, Nat.reduceBEq, Int.reduceLT, Int.reduceLE, Int.reduceEq,
    Int.reduceNe, Int.reduceAdd, Int.reduceSub, Int.reduceMul, Int.reduceToNat, push_cast, pairsOk, locGet, locSet, nextGen, k, h1]
  · cases h2 : (decide (0 ≤ seq) && decide (seq ≤ 9007199254740992))
    · simp only [reduceIte, reduceCtorEq, Nat.reduceAdd, Nat.reduceMul, Nat.reduceSub, Nat.reduceEqDiff, Nat.reduceLT, Nat.reduceLeDiff, Nat.reduceBEq, Int.reduceLT, Int.reduceLE, Int.reduceEq,
    Int.reduceNe, Int.reduceAdd, Int.reduceSub, Int.reduceMul, Int.reduceToNat, push_cast, pairsOk, locGet, locSet, nextGen, k, h1, h2]
    · cases ack <;> simp only [reduceIte, reduceCtorEq, Nat.reduceAdd, Nat.reduceMul, Nat.reduceSub, Nat.reduceEqDiff, Nat.reduceLT, Nat.reduceLeDiff, Nat.reduceBEq, Int.reduceLT, Int.reduceLE, Int.reduceEq,
    Int.reduceNe, Int.reduceAdd, Int.reduceSub, Int.reduceMul, Int.reduceToNat, push_cast, pairsOk, locGet, locSet, nextGen, k, h1, h2, p2_str, strBin]
end Go.Proofs.Ytmglahnoemgieaa.Ax

/- Plain laws of bytes: numbers as bytes, there and back; values as bytes, there and back. (And what follows from it, text by text.) -/
import Derived.Test.YtmglahnoemgieaaM12
import Derived.Test.YtmglahnoemgieaaM9
namespace Go.Proofs.Ytmglahnoemgieaa.Ax
open Go Go.RowKit
set_option linter.unusedSimpArgs false
set_option linter.unusedVariables false
set_option maxHeartbeats 8000000
set_option maxRecDepth 4000
theorem beN_foldl (l : List UInt8) (n : Nat) : l.foldl (fun n b => n * 256 + b.toNat) n = n * 256 ^ l.length + beN l := by
  unfold beN
  induction l generalizing n with
  | nil => simp
  | cons x l ih =>
    rw [List.foldl_cons, List.foldl_cons, ih, ih (0 * 256 + x.toNat), List.length_cons, Nat.pow_succ]
    rw [Nat.add_mul, Nat.zero_mul, Nat.zero_add, Nat.mul_assoc, Nat.mul_comm 256]
    omega
theorem beN_cons (x : UInt8) (l : List UInt8) : beN (x :: l) = x.toNat * 256 ^ l.length + beN l := by
  have := beN_foldl l x.toNat
  rw [← this]
  unfold beN
  rw [List.foldl_cons]
  simp
theorem byteOf_low (q r m j : Nat) (hj : j < m) : byteOf (q * 256 ^ m + r) j = byteOf r j := by
  unfold byteOf
  have e : q * 256 ^ m + r = r + 2 ^ (8 * j) * (q * 256 ^ (m - j - 1) * 256) := by
    have h1 : (256 : Nat) ^ m = 2 ^ (8 * j) * (256 ^ (m - j - 1) * 256) := by
      rw [← Nat.pow_succ, Nat.pow_mul, ← Nat.pow_add]
      congr 1
      omega
    rw [h1, Nat.add_comm r]
    congr 1
    simp only [Nat.mul_comm, Nat.mul_left_comm, Nat.mul_assoc]
  rw [e, Nat.add_mul_div_left _ _ (Nat.pow_pos (by decide))]
  congr 1
  omega
theorem encB_low (q r m : Nat) : ∀ k, k ≤ m → encB (q * 256 ^ m + r) k = encB r k
  | 0, _ => rfl
  | k + 1, h => by rw [encB, encB, byteOf_low q r m k (by omega), encB_low q r m k (by omega)]
theorem byteOf_top (x : UInt8) (r m : Nat) (hr : r < 256 ^ m) : byteOf (x.toNat * 256 ^ m + r) m = x := by
  unfold byteOf
  have e : (2 : Nat) ^ (8 * m) = 256 ^ m := by rw [Nat.pow_mul]
  rw [e, Nat.add_comm, Nat.add_mul_div_right _ _ (Nat.pow_pos (by decide)), Nat.div_eq_of_lt hr, Nat.zero_add]
  have := x.toNat_lt
  rw [Nat.mod_eq_of_lt (by omega)]
  exact UInt8.ofNat_toNat
theorem encB_beN (l : List UInt8) : encB (beN l) l.length = l := by
  induction l with
  | nil => rfl
  | cons x l ih =>
    rw [beN_cons, List.length_cons, encB, byteOf_top x _ _ (beN_lt l), encB_low _ _ _ _ (Nat.le_refl _), ih]
theorem byteOf_toNat (n i : Nat) : (byteOf n i).toNat = n / 256 ^ i % 256 := by
  unfold byteOf
  rw [UInt8.toNat_ofNat', Nat.pow_mul]
  show n / 256 ^ i % 256 % 256 = _
  omega
theorem beN_encB (n : Nat) : ∀ k, beN (encB n k) = n % 256 ^ k
  | 0 => by simp [encB, beN, Nat.mod_one]
  | k + 1 => by
    rw [encB, beN_cons, encB_length, beN_encB n k, byteOf_toNat, Nat.pow_succ]
    have hp : 0 < 256 ^ k := Nat.pow_pos (by decide)
    rw [Nat.mod_mul (x := n) (a := 256 ^ k) (b := 256)]
    rw [Nat.mul_comm (n / 256 ^ k % 256), Nat.add_comm]
theorem u64_sI {n : Nat} (h : n < 18446744073709551616) : u64 (sI n) = n := by
  unfold u64 sI
  show ((if (true && decide ((n : Int) % 18446744073709551616 ≥ 9223372036854775808)) = true then (n : Int) % 18446744073709551616 - 18446744073709551616 else (n : Int) % 18446744073709551616) % 18446744073709551616).toNat = n
  rw [Bool.true_and]
  by_cases hb : (n : Int) % 18446744073709551616 ≥ 9223372036854775808
  · rw [if_pos (decide_eq_true hb)]; omega
  · rw [if_neg (by simpa using hb)]; omega
theorem sI_u64 {n : Int} (h1 : -9223372036854775808 ≤ n) (h2 : n < 9223372036854775808) : sI (u64 n) = n := by
  unfold u64 sI
  show (if (true && decide (((n % 18446744073709551616).toNat : Int) % 18446744073709551616 ≥ 9223372036854775808)) = true then ((n % 18446744073709551616).toNat : Int) % 18446744073709551616 - 18446744073709551616 else ((n % 18446744073709551616).toNat : Int) % 18446744073709551616) = n
  rw [Bool.true_and]
  by_cases hb : ((n % 18446744073709551616).toNat : Int) % 18446744073709551616 ≥ 9223372036854775808
  · rw [if_pos (decide_eq_true hb)]; omega
  · rw [if_neg (by simpa using hb)]; omega
theorem u8_nat (k : UInt8) : u8 (k.toNat : Int) = k := by
  unfold u8
  have := k.toNat_lt
  have e : ((k.toNat : Int) % 256).toNat = k.toNat := by omega
  rw [e]
  exact UInt8.ofNat_toNat
theorem toNat_inj {a b : UInt8} (h : a.toNat = b.toNat) : a = b := UInt8.toNat_inj.1 h
/-! ### values -/
/-- the value at a place, kind by kind -/
def rdW (k : UInt8) (l : List UInt8) : Option (Val × Nat) :=
  if k.toNat = 0 then some ((0, 0, .empty, false, 0), 1)
  else if k.toNat = 1 then (if l.length < 8 then none else if fitN (sI (beN (l.take 8))) then some ((1, sI (beN (l.take 8)), .empty, false, 0), 9) else none)
  else if k.toNat = 2 then (match l with | [] => none | c :: u => if u.length < c.toNat then none else some ((2, 0, bs (u.take c.toNat), false, 0), 2 + c.toNat))
  else if k.toNat = 3 then (match l with | [] => none | c :: _ => if c.toNat ≤ 1 then some ((3, 0, .empty, decide (c.toNat = 1), 0), 2) else none)
  else if k.toNat = 4 then (match l with | [] => none | c :: _ => if isF c.toNat then some ((4, 0, .empty, false, c.toNat), 2) else none)
  else none
def rdV (s : ByteArray) (a : Nat) : Option (Val × Nat) := match (bl s).drop a with
  | [] => none
  | k :: l => (rdW k l).map fun p => (p.1, a + p.2)
theorem rdV0_eq (s : ByteArray) (a : Nat) : rdV0 s a = rdV s a := by
  unfold rdV0 rdV
  cases hd : (bl s).drop a with
  | nil => rfl
  | cons k l =>
    simp only
    unfold rdW longS toldS
    by_cases k0 : k.toNat = 0
    · have hk : u8 0 = k := by rw [← u8_nat k, k0]; rfl
      simp [k0, valOk, vGood, encV, hk]
    by_cases k1 : k.toNat = 1
    · have hk : u8 1 = k := by rw [← u8_nat k, k1]; rfl
      by_cases hl : l.length < 8
      · simp [k1, hl]
      · have hL : (l.take 8).length = 8 := by rw [List.length_take]; omega
        have hb := beN_lt (l.take 8)
        rw [hL] at hb
        have he : encB (u64 (sI (beN (l.take 8)))) 8 = l.take 8 := by
          rw [u64_sI hb]
          have := encB_beN (l.take 8)
          rwa [hL] at this
        cases hf : fitN (sI (beN (l.take 8))) <;> simp [k1, hl, valOk, vGood, encV, hk, he, hf]
    by_cases k2 : k.toNat = 2
    · have hk : u8 2 = k := by rw [← u8_nat k, k2]; rfl
      cases l with
      | nil => simp [k2]
      | cons c u =>
        have hc := c.toNat_lt
        have e1 : (1 + (c.toNat : Int)).toNat = c.toNat + 1 := by omega
        by_cases hl : u.length < c.toNat
        · have hl2 : u.length + 1 < c.toNat + 1 := by omega
          simp [k2, e1, hl]
        · have hs : (bs (u.take c.toNat)).size = c.toNat := by rw [bs_size, List.length_take]; omega
          have hle : c.toNat ≤ 255 := by omega
          have hl2 : ¬ (u.length + 1 < c.toNat + 1) := by omega
          simp [k2, e1, hl, valOk, vGood, encV, hk, hs, hle, u8_nat, bl_bs]
          omega
    by_cases k3 : k.toNat = 3
    · have hk : u8 3 = k := by rw [← u8_nat k, k3]; rfl
      cases l with
      | nil => simp [k3]
      | cons c u =>
        by_cases c1 : c.toNat = 1
        · have hc : u8 1 = c := by rw [← u8_nat c, c1]; rfl
          simp [k3, c1, valOk, vGood, encV, hk, hc]
        · by_cases c0 : c.toNat = 0
          · have hc : u8 0 = c := by rw [← u8_nat c, c0]; rfl
            simp [k3, c0, valOk, vGood, encV, hk, hc]
          · have hle : ¬ (c.toNat ≤ 1) := by omega
            have hne : ¬ (u8 0 = c) := by
              rintro rfl
              exact c0 rfl
            have c1' : ¬ ((c.toNat : Int) = 1) := by omega
            simp [k3, c1', hle, valOk, vGood, encV, hk, hne]
    by_cases k4 : k.toNat = 4
    · have hk : u8 4 = k := by rw [← u8_nat k, k4]; rfl
      cases l with
      | nil => simp [k4]
      | cons c u =>
        cases hf : isF (c.toNat : Int) <;> simp [k4, valOk, vGood, encV, hk, hf, u8_nat]
    · simp [k0, k1, k2, k3, k4]
end Go.Proofs.Ytmglahnoemgieaa.Ax
namespace Go.Proofs.Ytmglahnoemgieaa.Ax
open Go Go.RowKit
set_option linter.unusedSimpArgs false
set_option linter.unusedVariables false
set_option maxHeartbeats 8000000
set_option maxRecDepth 4000
variable {w0 : World} {t : Option Gf}
def R43 (h : H) (loc : Loc) (N : Nat) (F : Nat → AV) (R : Option (Ex × S)) : Prop :=
  ∃ F', R = some (.exit 1, ⟨fl 108 F', loc, h, none⟩) ∧ F' 10 = vQ N ∧ F' 1 = F 1 ∧ F' 4 = F 4 ∧ F' 7 = F 7 ∧ F' 8 = F 8 ∧ F' 9 = F 9
theorem R43.step {h : H} {loc : Loc} {N : Nat} {F F0 : Nat → AV} {R : Option (Ex × S)} (k : R43 h loc N F R) (h1 : F 1 = F0 1) (h4 : F 4 = F0 4) (h7 : F 7 = F0 7) (h8 : F 8 = F0 8) (h9 : F 9 = F0 9) : R43 h loc N F0 R := by
  obtain ⟨F', k1, k2, k3, k4, k5, k6, k7⟩ := k
  exact ⟨F', k1, k2, k3.trans h1, k4.trans h4, k5.trans h7, k6.trans h8, k7.trans h9⟩
theorem L43 (h : H) (loc : Loc) (x : ByteArray) (k : UInt8) (l : List UInt8) (hx : bl x = k :: l) (hl : 8 ≤ l.length) : ∀ (m i : Nat) (F : Nat → AV), i + m = 8 → F 7 = vS x → F 10 = vQ (beN (l.take i)) → F 11 = vI ((i + 1 : Nat) : Int) →
    R43 h loc (beN (l.take 8)) F (acodeI (cfg w0 t) 43 (.loop (lp Try.f43 0)) ⟨fl 108 F, loc, h, none⟩) := by
  dsimp only [lp, loopsOf, Try.f43, Option.getD, List.append_eq, List.nil_append, List.cons_append, List.getElem?_cons_zero, List.getElem?_cons_succ]
  intro m
  induction m with
  | zero =>
    intro i F hi h7 h10 h11
    have e : ¬ (((i + 1 : Nat) : Int) < 9) := by omega
    have hi8 : i = 8 := by omega
    rw [hi8] at h10
    rw [X_loop]
    generalize ((i + 1 : Nat) : Int) = j at e h11
    simp only [reduceIte, reduceCtorEq, Nat.reduceAdd, Nat.reduceMul, Nat.reduceSub, Nat.reduceEqDiff, Nat.reduceLT, Nat.reduceLeDiff, Nat.reduceBEq, Int.reduceLT, Int.reduceLE, Int.reduceEq,
    Int.reduceNe, Int.reduceAdd, Int.reduceSub, Int.reduceMul, Int.reduceToNat, push_cast, pairsOk, locGet_set, p2_int, intBin, h7, h10, h11, e]
    exact ⟨_, rfl, by simp only [reduceIte, reduceCtorEq, Nat.reduceAdd, Nat.reduceMul, Nat.reduceSub, Nat.reduceEqDiff, Nat.reduceLT, Nat.reduceLeDiff, Nat.reduceBEq, Int.reduceLT, Int.reduceLE, Int.reduceEq,
    Int.reduceNe, Int.reduceAdd, Int.reduceSub, Int.reduceMul, Int.reduceToNat, push_cast, pairsOk, locGet_set, h10], by simp only [reduceIte, reduceCtorEq, Nat.reduceAdd, Nat.reduceMul, Nat.reduceSub, Nat.reduceEqDiff, Nat.reduceLT, Nat.reduceLeDiff, Nat.reduceBEq, Int.reduceLT, Int.reduceLE, Int.reduceEq,
    Int.reduceNe, Int.reduceAdd, Int.reduceSub, Int.reduceMul, Int.reduceToNat, push_cast, pairsOk, locGet_set], by simp only [reduceIte, reduceCtorEq, Nat.reduceAdd, Nat.reduceMul, Nat.reduceSub, Nat.reduceEqDiff, Nat.reduceLT, Nat.reduceLeDiff, Nat.reduceBEq, Int.reduceLT, Int.reduceLE, Int.reduceEq,
    Int.reduceNe, Int.reduceAdd, Int.reduceSub, Int.reduceMul, Int.reduceToNat, push_cast, pairsOk, locGet_set], by simp only [reduceIte, reduceCtorEq, Nat.reduceAdd, Nat.reduceMul, Nat.reduceSub, Nat.reduceEqDiff, Nat.reduceLT, Nat.reduceLeDiff, Nat.reduceBEq, Int.reduceLT, Int.reduceLE, Int.reduceEq,
    Int.reduceNe, Int.reduceAdd, Int.reduceSub, Int.reduceMul, Int.reduceToNat, push_cast, pairsOk, locGet_set, h7], by simp only [reduceIte, reduceCtorEq, Nat.reduceAdd, Nat.reduceMul, Nat.reduceSub, Nat.reduceEqDiff, Nat.reduceLT, Nat.reduceLeDiff, Nat.reduceBEq, Int.reduceLT, Int.reduceLE, Int.reduceEq,
    Int.reduceNe, Int.reduceAdd, Int.reduceSub, Int.reduceMul, Int.reduceToNat, push_cast, pairsOk, locGet_set], by simp only [reduceIte, reduceCtorEq, Nat.reduceAdd, Nat.reduceMul, Nat.reduceSub, Nat.reduceEqDiff, Nat.reduceLT, Nat.reduceLeDiff, Nat.reduceBEq, Int.reduceLT, Int.reduceLE, Int.reduceEq,
    Int.reduceNe, Int.reduceAdd, Int.reduceSub, Int.reduceMul, Int.reduceToNat, push_cast, pairsOk, locGet_set]⟩
  | succ m ih =>
    intro i F hi h7 h10 h11
    have e : ((i + 1 : Nat) : Int) < 9 := by omega
    have hlt : i < l.length := by omega
    have hby : byteAt x ((i + 1 : Nat) : Int) = some l[i] := by
      rw [byteAt_nat, hx, List.getElem?_cons_succ, List.getElem?_eq_getElem hlt]
    have htk : beN (l.take (i + 1)) = beN (l.take i) * 256 + l[i].toNat := by
      rw [List.take_succ_eq_append_getElem hlt, beN_snoc]
    have hb := l[i].toNat_lt
    have hlt2 : beN (l.take i) < 72057594037927936 := by
      refine Nat.lt_of_lt_of_le (beN_lt _) ?_
      rw [List.length_take]
      exact Nat.le_trans (Nat.pow_le_pow_right (by decide) (show min i l.length ≤ 7 by omega)) (by decide)
    have hw1 : IntKind.i64.wrap (((i + 1 : Nat) : Int) + 1) = ((i + 1 + 1 : Nat) : Int) := by rw [wrap_i64] <;> omega
    have hwb : IntKind.u64.wrap (l[i].toNat : Int) = (l[i].toNat : Int) := by rw [wrap_u64]; omega
    have hw2 : IntKind.u64.wrap (256 * (beN (l.take i) : Int)) = 256 * (beN (l.take i) : Int) := by rw [wrap_u64]; omega
    have hw3 : IntKind.u64.wrap (256 * (beN (l.take i) : Int) + (l[i].toNat : Int)) = (beN (l.take (i + 1)) : Int) := by rw [htk, wrap_u64]; omega
    have ih := ih (i + 1)
    generalize l[i] = b at hby hwb hw3
    generalize beN (l.take i) = N at h10 hw2 hw3
    generalize beN (l.take (i + 1)) = N2 at hw3 ih
    rw [X_loop]
    generalize ((i + 1 + 1 : Nat) : Int) = j2 at hw1 ih
    generalize ((i + 1 : Nat) : Int) = j at e h11 hby hw1
    simp only [reduceIte, reduceCtorEq, Nat.reduceAdd, Nat.reduceMul, Nat.reduceSub, Nat.reduceEqDiff, Nat.reduceLT, Nat.reduceLeDiff, Nat.reduceBEq, Int.reduceLT, Int.reduceLE, Int.reduceEq,
    Int.reduceNe, Int.reduceAdd, Int.reduceSub, Int.reduceMul, Int.reduceToNat, push_cast, pairsOk, locGet_set, p2_int, intBin, p2_index, h7, h10, h11, e, hby, hwb, hw1, hw2, hw3]
    refine R43.step (ih _ (by omega) ?_ ?_ ?_) ?_ ?_ ?_ ?_ ?_ <;> simp only [reduceIte, reduceCtorEq, Nat.reduceAdd, Nat.reduceMul, Nat.reduceSub, Nat.reduceEqDiff, Nat.reduceLT, Nat.reduceLeDiff, Nat.reduceBEq, Int.reduceLT, Int.reduceLE, Int.reduceEq,
    Int.reduceNe, Int.reduceAdd, Int.reduceSub, Int.reduceMul, Int.reduceToNat, push_cast, pairsOk, locGet_set, h7]
theorem f43 (s : ByteArray) (a : Nat) (ha : a ≤ s.size) (hs : s.size ≤ 9223372036854775000) (h : H) : acallI (cfg w0 t) 43 [vS s, vI a] h = some (.ret (.tup (vRes (rdV s a))), h, none) := by
  rw [E43]
  have c1 : ¬ ((a : Int) < 0) := by omega
  have c2 : ¬ ((s.size : Int) < a) := by omega
  have hsl : p2 Try.prog (.val (.string s)) (.val (.int .i64 a)) (fun x y => Instr.sliceAt 9 x (some y) none none) = some (.done (vS (s.extract a s.size))) := sl_str_l (k := .i64) (n := (a : Int)) Try.underlying9 (by omega) (by omega)
  have hbx : bl (s.extract a s.size) = (bl s).drop a := bl_from s a
  have hxs : (s.extract a s.size).size = s.size - a := by rw [ext_size]; omega
  have k37 := fun (k n : Int) (s : ByteArray) (b : Bool) (f : Int) => f37 (w0 := w0) (t := t) k n s b f h
  unfold rdV
  rw [← hbx]
  generalize s.extract a s.size = x at hsl hbx hxs ⊢
  have hw : ∀ n : Nat, n ≤ 300 → IntKind.i64.wrap ((a : Int) + (n : Int)) = ((a + n : Nat) : Int) := fun n hn => by rw [wrap_i64] <;> omega
  cases hL : bl x with
  | nil =>
    have hsz : x.size = 0 := by rw [← bl_len, hL]; rfl
    simp only [vRes]
    dsimp only [Try.f43, Option.getD]
    simp only [reduceIte, reduceCtorEq, Nat.reduceAdd, Nat.reduceMul, Nat.reduceSub, Nat.reduceEqDiff, Nat.reduceLT, Nat.reduceLeDiff, Nat.reduceBEq, Int.reduceLT, Int.reduceLE, Int.reduceEq,
    Int.reduceNe, Int.reduceAdd, Int.reduceSub, Int.reduceMul, Int.reduceToNat, push_cast, pairsOk, locGet, locSet, nextGen, p2_int, intBin, len_str Try.underlying9, c1, c2, hsl, hsz]
  | cons k l =>
    have hsz : (x.size : Int) = (l.length : Int) + 1 := by rw [← bl_len, hL]; simp
    have b0 := by0 hL
    have hx0 : ¬ ((l.length : Int) + 1 = 0) := by omega
    have hlt1 : ¬ ((l.length : Int) + 1 < 1) := by omega
    have hw1 := hw 1 (by omega)
    have hw2 := hw 2 (by omega)
    have hw9 := hw 9 (by omega)
    simp only [Int.cast_ofNat_Int] at hw1 hw2 hw9
    unfold rdW
    by_cases k0 : k.toNat = 0
    · have d0 : (k.toNat : Int) = 0 := by omega
      have hg := k37 0 0 .empty false 0
      rw [show vGood 0 0 .empty false 0 = true from by decide] at hg
      simp only [if_pos k0, Option.map_some, vRes]
      dsimp only [Try.f43, Option.getD]
      simp only [reduceIte, reduceCtorEq, Nat.reduceAdd, Nat.reduceMul, Nat.reduceSub, Nat.reduceEqDiff, Nat.reduceLT, Nat.reduceLeDiff, Nat.reduceBEq, Int.reduceLT, Int.reduceLE, Int.reduceEq,
    Int.reduceNe, Int.reduceAdd, Int.reduceSub, Int.reduceMul, Int.reduceToNat, push_cast, pairsOk, locGet, locSet, nextGen, p2_int, intBin, p2_index, len_str Try.underlying9, c1, c2, hsl, hsz, hx0, b0, d0, hg, hlt1, hw1]
    simp only [if_neg k0]
    by_cases k1 : k.toNat = 1
    · have d0 : (k.toNat : Int) = 1 := by omega
      simp only [if_pos k1]
      by_cases hl : l.length < 8
      · have c9 : ¬ ((9 : Int) ≤ (l.length : Int) + 1) := by omega
        have c9' : (l.length : Int) + 1 < 9 := by omega
        have hg := k37 1 0 .empty false 0
        rw [show vGood 1 0 .empty false 0 = true from by decide] at hg
        simp only [if_pos hl, Option.map_none, vRes]
        dsimp only [Try.f43, Option.getD]
        simp only [reduceIte, reduceCtorEq, Nat.reduceAdd, Nat.reduceMul, Nat.reduceSub, Nat.reduceEqDiff, Nat.reduceLT, Nat.reduceLeDiff, Nat.reduceBEq, Int.reduceLT, Int.reduceLE, Int.reduceEq,
    Int.reduceNe, Int.reduceAdd, Int.reduceSub, Int.reduceMul, Int.reduceToNat, push_cast, pairsOk, locGet, locSet, nextGen, p2_int, intBin, p2_index, len_str Try.underlying9, c1, c2, hsl, hsz, hx0, b0, d0, hg, c9, c9']
      · have c9 : (9 : Int) ≤ (l.length : Int) + 1 := by omega
        have c9' : ¬ ((l.length : Int) + 1 < 9) := by omega
        simp only [if_neg hl]
        obtain ⟨G, hG⟩ := skol (P := fun a' : (Nat → AV) × Loc => a'.1 7 = vS x ∧ a'.1 10 = .val (.int .u64 0) ∧ a'.1 11 = vI 1)
          (Q := fun a' F' => acodeI (cfg w0 t) 43 (.loop (lp Try.f43 0)) ⟨fl 108 a'.1, a'.2, h, none⟩ = some (.exit 1, ⟨fl 108 F', a'.2, h, none⟩) ∧ F' 10 = vQ (beN (l.take 8)) ∧ F' 1 = a'.1 1 ∧ F' 4 = a'.1 4 ∧ F' 7 = a'.1 7 ∧ F' 8 = a'.1 8 ∧ F' 9 = a'.1 9) (β := Nat → AV) (fun a' ha' =>
            L43 (w0 := w0) (t := t) h a'.2 x k l hL (by omega) 8 0 a'.1 (by omega) ha'.1 ha'.2.1 ha'.2.2)
        have G1 := fun F loc hc => (hG (F, loc) hc).1
        have G2 := fun F loc hc => (hG (F, loc) hc).2.1
        have G3 := fun F loc hc => (hG (F, loc) hc).2.2.1
        have G4 := fun F loc hc => (hG (F, loc) hc).2.2.2.1
        have G5 := fun F loc hc => (hG (F, loc) hc).2.2.2.2.1
        have G6 := fun F loc hc => (hG (F, loc) hc).2.2.2.2.2.1
        have G7 := fun F loc hc => (hG (F, loc) hc).2.2.2.2.2.2
        clear hG
        have hsI : IntKind.i64.wrap (beN (l.take 8) : Int) = sI (beN (l.take 8)) := rfl
        generalize beN (l.take 8) = N at G2 hsI ⊢
        have hg := k37 1 (sI N) .empty false 0
        rw [show vGood 1 (sI N) .empty false 0 = fitN (sI N) from by simp [vGood]] at hg
        dsimp only [lp, loopsOf, Try.f43, Option.getD, List.append_eq, List.nil_append, List.cons_append, List.getElem?_cons_zero, List.getElem?_cons_succ] at G1 ⊢
        cases hf : fitN (sI N)
        · rw [hf] at hg
          simp only [Bool.false_eq_true, reduceIte, Option.map_none, vRes]
          simp only [reduceIte, reduceCtorEq, Nat.reduceAdd, Nat.reduceMul, Nat.reduceSub, Nat.reduceEqDiff, Nat.reduceLT, Nat.reduceLeDiff, Nat.reduceBEq, Int.reduceLT, Int.reduceLE, Int.reduceEq,
    Int.reduceNe, Int.reduceAdd, Int.reduceSub, Int.reduceMul, Int.reduceToNat, push_cast, pairsOk, locGet, locSet, nextGen, p2_int, intBin, p2_index, len_str Try.underlying9, c1, c2, hsl, hsz, hx0, b0, d0, hg, c9, c9', G1, G2, G3, G4, G5, G6, G7, hsI]
        · rw [hf] at hg
          simp only [reduceIte, Option.map_some, vRes]
          simp only [reduceIte, reduceCtorEq, Nat.reduceAdd, Nat.reduceMul, Nat.reduceSub, Nat.reduceEqDiff, Nat.reduceLT, Nat.reduceLeDiff, Nat.reduceBEq, Int.reduceLT, Int.reduceLE, Int.reduceEq,
    Int.reduceNe, Int.reduceAdd, Int.reduceSub, Int.reduceMul, Int.reduceToNat, push_cast, pairsOk, locGet, locSet, nextGen, p2_int, intBin, p2_index, len_str Try.underlying9, c1, c2, hsl, hsz, hx0, b0, d0, hg, c9, c9', G1, G2, G3, G4, G5, G6, G7, hsI, hw9]
    simp only [if_neg k1]
    by_cases k2 : k.toNat = 2
    · have d0 : (k.toNat : Int) = 2 := by omega
      simp only [if_pos k2]
      cases l with
      | nil =>
        have hg := k37 2 0 .empty false 0
        rw [show vGood 2 0 .empty false 0 = true from by decide] at hg
        simp only [List.length_nil, Int.cast_ofNat_Int, Int.zero_add] at hsz
        simp only [Option.map_none, vRes]
        dsimp only [Try.f43, Option.getD]
        simp only [reduceIte, reduceCtorEq, Nat.reduceAdd, Nat.reduceMul, Nat.reduceSub, Nat.reduceEqDiff, Nat.reduceLT, Nat.reduceLeDiff, Nat.reduceBEq, Int.reduceLT, Int.reduceLE, Int.reduceEq,
    Int.reduceNe, Int.reduceAdd, Int.reduceSub, Int.reduceMul, Int.reduceToNat, push_cast, pairsOk, locGet, locSet, nextGen, p2_int, intBin, p2_index, len_str Try.underlying9, c1, c2, hsl, hsz, b0, d0, hg]
      | cons c u =>
        have hc := c.toNat_lt
        have b1 := by1 hL
        have hge : (2 : Int) ≤ ((c :: u).length : Int) + 1 := by simp; omega
        have hwc : IntKind.i64.wrap (2 + (c.toNat : Int)) = 2 + (c.toNat : Int) := by rw [wrap_i64] <;> omega
        have hwa : IntKind.i64.wrap ((a : Int) + (2 + (c.toNat : Int))) = ((a + (2 + c.toNat) : Nat) : Int) := by rw [wrap_i64] <;> omega
        have hlen : ((c :: u).length : Int) = (u.length : Int) + 1 := by simp
        simp only
        by_cases hl : u.length < c.toNat
        · have g1 : ¬ (2 + (c.toNat : Int) ≤ ((c :: u).length : Int) + 1) := by omega
          have g2 : ((c :: u).length : Int) + 1 < 2 + (c.toNat : Int) := by omega
          have hg := k37 2 0 .empty false 0
          rw [show vGood 2 0 .empty false 0 = true from by decide] at hg
          simp only [if_pos hl, Option.map_none, vRes]
          generalize ((c :: u).length : Int) = L at hsz hx0 hge g1 g2
          dsimp only [Try.f43, Option.getD]
          simp only [reduceIte, reduceCtorEq, Nat.reduceAdd, Nat.reduceMul, Nat.reduceSub, Nat.reduceEqDiff, Nat.reduceLT, Nat.reduceLeDiff, Nat.reduceBEq, Int.reduceLT, Int.reduceLE, Int.reduceEq,
    Int.reduceNe, Int.reduceAdd, Int.reduceSub, Int.reduceMul, Int.reduceToNat, push_cast, pairsOk, locGet, locSet, nextGen, p2_int, intBin, p2_index, len_str Try.underlying9, c1, c2, hsl, hsz, hx0, b0, b1, d0, wb, hg, hge, hwc, g1, g2]
        · have g1 : (2 + (c.toNat : Int) ≤ ((c :: u).length : Int) + 1) := by omega
          have g2 : ¬ (((c :: u).length : Int) + 1 < 2 + (c.toNat : Int)) := by omega
          have h1 : (0 : Int) ≤ 2 := by omega
          have h2 : (2 : Int) ≤ 2 + (c.toNat : Int) := by omega
          have h3 : 2 + (c.toNat : Int) ≤ x.size := by omega
          have hs3 : p3 Try.prog (.val (.string x)) (.val (.int .i64 2)) (.val (.int .i64 (2 + (c.toNat : Int)))) (fun x y z => Instr.sliceAt 9 x (some y) (some z) none) = some (.done (vS (bs (u.take c.toNat)))) := by
            rw [sl_str_lh (P := Try.prog) Try.underlying9 h1 h2 h3]
            congr 4
            rw [← bs_bl (x.extract (2 : Int).toNat (2 + (c.toNat : Int)).toNat)]
            congr 1
            unfold bl at hL ⊢
            rw [ByteArray.data_extract, Array.toList_extract, List.extract_eq_take_drop, hL]
            rw [show (2 + (c.toNat : Int)).toNat - (2 : Int).toNat = c.toNat from by omega]
            rfl
          have hg := k37 2 0 (bs (u.take c.toNat)) false 0
          rw [show vGood 2 0 (bs (u.take c.toNat)) false 0 = true from by
            simp [vGood, bs_size, List.length_take]
            omega] at hg
          simp only [if_neg hl, Option.map_some, vRes]
          generalize ((c :: u).length : Int) = L at hsz hx0 hge g1 g2
          generalize bs (u.take c.toNat) = tx at hs3 hg ⊢
          dsimp only [Try.f43, Option.getD]
          simp only [reduceIte, reduceCtorEq, Nat.reduceAdd, Nat.reduceMul, Nat.reduceSub, Nat.reduceEqDiff, Nat.reduceLT, Nat.reduceLeDiff, Nat.reduceBEq, Int.reduceLT, Int.reduceLE, Int.reduceEq,
    Int.reduceNe, Int.reduceAdd, Int.reduceSub, Int.reduceMul, Int.reduceToNat, push_cast, pairsOk, locGet, locSet, nextGen, p2_int, intBin, p2_index, len_str Try.underlying9, c1, c2, hsl, hsz, hx0, b0, b1, d0, wb, hg, hge, hwc, g1, g2, hs3, hwa]
    simp only [if_neg k2]
    by_cases k3 : k.toNat = 3
    · have d0 : (k.toNat : Int) = 3 := by omega
      simp only [if_pos k3]
      cases l with
      | nil =>
        have hg := k37 3 0 .empty false 0
        rw [show vGood 3 0 .empty false 0 = true from by decide] at hg
        simp only [List.length_nil, Int.cast_ofNat_Int, Int.zero_add] at hsz
        simp only [Option.map_none, vRes]
        dsimp only [Try.f43, Option.getD]
        simp only [reduceIte, reduceCtorEq, Nat.reduceAdd, Nat.reduceMul, Nat.reduceSub, Nat.reduceEqDiff, Nat.reduceLT, Nat.reduceLeDiff, Nat.reduceBEq, Int.reduceLT, Int.reduceLE, Int.reduceEq,
    Int.reduceNe, Int.reduceAdd, Int.reduceSub, Int.reduceMul, Int.reduceToNat, push_cast, pairsOk, locGet, locSet, nextGen, p2_int, intBin, p2_index, len_str Try.underlying9, c1, c2, hsl, hsz, b0, d0, hg]
      | cons c u =>
        have b1 := by1 hL
        have hge : (2 : Int) ≤ ((c :: u).length : Int) + 1 := by simp; omega
        have g2 : ¬ (((c :: u).length : Int) + 1 < 2) := by omega
        simp only
        generalize ((c :: u).length : Int) = L at hsz hx0 hge g2
        by_cases hc1 : c.toNat = 1
        · have dc : (c.toNat : Int) = 1 := by omega
          have hg := k37 3 0 .empty true 0
          rw [show vGood 3 0 .empty true 0 = true from by decide] at hg
          have hle : c.toNat ≤ 1 := by omega
          simp only [if_pos hle, Option.map_some, vRes, hc1]
          dsimp only [Try.f43, Option.getD]
          simp only [reduceIte, reduceCtorEq, Nat.reduceAdd, Nat.reduceMul, Nat.reduceSub, Nat.reduceEqDiff, Nat.reduceLT, Nat.reduceLeDiff, Nat.reduceBEq, Int.reduceLT, Int.reduceLE, Int.reduceEq,
    Int.reduceNe, Int.reduceAdd, Int.reduceSub, Int.reduceMul, Int.reduceToNat, push_cast, pairsOk, locGet, locSet, nextGen, p2_int, intBin, p2_index, len_str Try.underlying9, c1, c2, hsl, hsz, hx0, b0, b1, d0, dc, hg, hge, g2, hw2]
        · by_cases hc0 : c.toNat = 0
          · have dc : (c.toNat : Int) = 0 := by omega
            have hg := k37 3 0 .empty false 0
            rw [show vGood 3 0 .empty false 0 = true from by decide] at hg
            have hle : c.toNat ≤ 1 := by omega
            simp only [if_pos hle, Option.map_some, vRes, hc0]
            dsimp only [Try.f43, Option.getD]
            simp only [reduceIte, reduceCtorEq, Nat.reduceAdd, Nat.reduceMul, Nat.reduceSub, Nat.reduceEqDiff, Nat.reduceLT, Nat.reduceLeDiff, Nat.reduceBEq, Int.reduceLT, Int.reduceLE, Int.reduceEq,
    Int.reduceNe, Int.reduceAdd, Int.reduceSub, Int.reduceMul, Int.reduceToNat, push_cast, pairsOk, locGet, locSet, nextGen, p2_int, intBin, p2_index, len_str Try.underlying9, c1, c2, hsl, hsz, hx0, b0, b1, d0, dc, hg, hge, g2, hw2]
          · have dc : ¬ ((c.toNat : Int) = 0) := by omega
            have dc1 : (1 : Int) < (c.toNat : Int) := by omega
            have hle : ¬ (c.toNat ≤ 1) := by omega
            simp only [if_neg hle, Option.map_none, vRes]
            dsimp only [Try.f43, Option.getD]
            simp only [reduceIte, reduceCtorEq, Nat.reduceAdd, Nat.reduceMul, Nat.reduceSub, Nat.reduceEqDiff, Nat.reduceLT, Nat.reduceLeDiff, Nat.reduceBEq, Int.reduceLT, Int.reduceLE, Int.reduceEq,
    Int.reduceNe, Int.reduceAdd, Int.reduceSub, Int.reduceMul, Int.reduceToNat, push_cast, pairsOk, locGet, locSet, nextGen, p2_int, intBin, p2_index, len_str Try.underlying9, c1, c2, hsl, hsz, hx0, b0, b1, d0, dc, dc1, hge, g2]
    simp only [if_neg k3]
    by_cases k4 : k.toNat = 4
    · have d0 : (k.toNat : Int) = 4 := by omega
      simp only [if_pos k4]
      cases l with
      | nil =>
        have hg := k37 4 0 .empty false 0
        rw [show vGood 4 0 .empty false 0 = false from by decide] at hg
        simp only [List.length_nil, Int.cast_ofNat_Int, Int.zero_add] at hsz
        simp only [Option.map_none, vRes]
        dsimp only [Try.f43, Option.getD]
        simp only [reduceIte, reduceCtorEq, Nat.reduceAdd, Nat.reduceMul, Nat.reduceSub, Nat.reduceEqDiff, Nat.reduceLT, Nat.reduceLeDiff, Nat.reduceBEq, Int.reduceLT, Int.reduceLE, Int.reduceEq,
    Int.reduceNe, Int.reduceAdd, Int.reduceSub, Int.reduceMul, Int.reduceToNat, push_cast, pairsOk, locGet, locSet, nextGen, p2_int, intBin, p2_index, len_str Try.underlying9, c1, c2, hsl, hsz, b0, d0, hg]
      | cons c u =>
        have b1 := by1 hL
        have hge : (2 : Int) ≤ ((c :: u).length : Int) + 1 := by simp; omega
        have g2 : ¬ (((c :: u).length : Int) + 1 < 2) := by omega
        have hg := k37 4 0 .empty false c.toNat
        rw [show vGood 4 0 .empty false c.toNat = isF c.toNat from by simp [vGood]] at hg
        simp only
        generalize ((c :: u).length : Int) = L at hsz hx0 hge g2
        cases hf : isF (c.toNat : Int)
        · rw [hf] at hg
          simp only [Bool.false_eq_true, reduceIte, Option.map_none, vRes]
          dsimp only [Try.f43, Option.getD]
          simp only [reduceIte, reduceCtorEq, Nat.reduceAdd, Nat.reduceMul, Nat.reduceSub, Nat.reduceEqDiff, Nat.reduceLT, Nat.reduceLeDiff, Nat.reduceBEq, Int.reduceLT, Int.reduceLE, Int.reduceEq,
    Int.reduceNe, Int.reduceAdd, Int.reduceSub, Int.reduceMul, Int.reduceToNat, push_cast, pairsOk, locGet, locSet, nextGen, p2_int, intBin, p2_index, len_str Try.underlying9, c1, c2, hsl, hsz, hx0, b0, b1, d0, wb, hg, hge, g2]
        · rw [hf] at hg
          simp only [reduceIte, Option.map_some, vRes]
          dsimp only [Try.f43, Option.getD]
          simp only [reduceIte, reduceCtorEq, Nat.reduceAdd, Nat.reduceMul, Nat.reduceSub, Nat.reduceEqDiff, Nat.reduceLT, Nat.reduceLeDiff, Nat.reduceBEq, Int.reduceLT, Int.reduceLE, Int.reduceEq,
    Int.reduceNe, Int.reduceAdd, Int.reduceSub, Int.reduceMul, Int.reduceToNat, push_cast, pairsOk, locGet, locSet, nextGen, p2_int, intBin, p2_index, len_str Try.underlying9, c1, c2, hsl, hsz, hx0, b0, b1, d0, wb, hg, hge, g2, hw2]
    · have d0 : ¬ (k.toNat : Int) = 0 := by omega
      have d1 : ¬ (k.toNat : Int) = 1 := by omega
      have d2 : ¬ (k.toNat : Int) = 2 := by omega
      have d3 : ¬ (k.toNat : Int) = 3 := by omega
      have d4 : ¬ (k.toNat : Int) = 4 := by omega
      have hg := k37 k.toNat 0 .empty false 0
      rw [show vGood k.toNat 0 .empty false 0 = false from by unfold vGood; rw [if_neg d0, if_neg d1, if_neg d2, if_neg d3, if_neg d4]] at hg
      simp only [if_neg k4, Option.map_none, vRes]
      dsimp only [Try.f43, Option.getD]
      simp only [reduceIte, reduceCtorEq, Nat.reduceAdd, Nat.reduceMul, Nat.reduceSub, Nat.reduceEqDiff, Nat.reduceLT, Nat.reduceLeDiff, Nat.reduceBEq, Int.reduceLT, Int.reduceLE, Int.reduceEq,
    Int.reduceNe, Int.reduceAdd, Int.reduceSub, Int.reduceMul, Int.reduceToNat, push_cast, pairsOk, locGet, locSet, nextGen, p2_int, intBin, p2_index, len_str Try.underlying9, c1, c2, hsl, hsz, hx0, b0, wb, hg, d0, d1, d2, d3, d4]
end Go.Proofs.Ytmglahnoemgieaa.Ax
namespace Go.Proofs.Ytmglahnoemgieaa.Ax
open Go Go.RowKit
set_option linter.unusedSimpArgs false
set_option linter.unusedVariables false
set_option maxHeartbeats 8000000
set_option maxRecDepth 4000
variable {w0 : World} {t : Option Gf}
abbrev zN : AV := .agg (vN 0 0 0 .empty 0 0 zV (.val (.slice none 0 0)))
/-- what the document's Get comes to, when the bytes begin with a message -/
def GOut1 (s : ByteArray) (m : Msg) (h : H) (r : Option (Out × H × Option Nat)) : Prop :=
  if msgGood m = true ∧ bs (encM m) = s then ∃ xs h', r = some (.ret (.tup [.agg (vN m.kind m.ticket m.ver m.sheet m.col m.row m.v xs), vI 0]), h', none) ∧ REdsI h.length h' m.edges xs ∧ h.length ≤ h'.length
  else r = some (.ret (.tup [zN, vI 4]), h, none)
def GOut (s : ByteArray) (v : Option (Msg × Nat)) (h : H) (r : Option (Out × H × Option Nat)) : Prop := match v with
  | some (m, _) => GOut1 s m h r
  | none => r = some (.ret (.tup [zN, vI 4]), h, none)
theorem f16 (ok : CfgOk (cfg w0 t)) (s : ByteArray) (hs : s.size ≤ 9223372036854775000) (h : H) : GOut s (rdM refI s) h (acallI (cfg w0 t) 16 [vS s] h) := by
  rw [E16]
  have e0 := f41_1 (w0 := w0) (t := t) s hs h 0 (Nat.zero_le _)
  have n8 := f41_neg (w0 := w0) (t := t) s 8 h
  rw [show (((0 : Nat) : Int)) = 0 from rfl] at e0
  unfold rdM rdN
  by_cases q0 : 0 + 1 ≤ s.size
  rotate_left
  · rw [if_neg q0] at e0
    simp only [if_neg q0, Option.bind_none, GOut]
    dsimp only [Try.f16, Option.getD]
    simp only [reduceIte, reduceCtorEq, Nat.reduceAdd, Nat.reduceMul, Nat.reduceSub, Nat.reduceEqDiff, Nat.reduceLT, Nat.reduceLeDiff, Nat.reduceBEq, Int.reduceLT, Int.reduceLE, Int.reduceEq,
    Int.reduceNe, Int.reduceAdd, Int.reduceSub, Int.reduceMul, Int.reduceToNat, push_cast, pairsOk, locGet, locSet, nextGen, p2_int, intBin, e0, n8]
  rw [if_pos q0] at e0
  have e1 := f41_8 (w0 := w0) (t := t) s hs h (0 + 1) q0
  simp only [if_pos q0, Option.bind_some]
  have hk8 := nAt1 s 0 q0
  generalize nAt s 0 1 = k at e0 hk8 ⊢
  by_cases q1 : 0 + 1 + 8 ≤ s.size
  rotate_left
  · rw [if_neg q1] at e1
    simp only [if_neg q1, Option.bind_none, GOut]
    generalize 0 + 1 = a1 at e0 e1
    dsimp only [Try.f16, Option.getD]
    simp only [reduceIte, reduceCtorEq, Nat.reduceAdd, Nat.reduceMul, Nat.reduceSub, Nat.reduceEqDiff, Nat.reduceLT, Nat.reduceLeDiff, Nat.reduceBEq, Int.reduceLT, Int.reduceLE, Int.reduceEq,
    Int.reduceNe, Int.reduceAdd, Int.reduceSub, Int.reduceMul, Int.reduceToNat, push_cast, pairsOk, locGet, locSet, nextGen, p2_int, intBin, e0, e1]
  rw [if_pos q1] at e1
  simp only [if_pos q1, Option.bind_some]
  generalize hc9 : 0 + 1 + 8 = a9 at e1 q1 ⊢
  generalize 0 + 1 = a1 at e0 e1 ⊢
  generalize nAt s a1 8 = tk at e1 ⊢
  have p9 : ∀ n : Nat, ¬ ((n : Int) < 0) := fun n => by omega
  by_cases k01 : k = 0 ∨ k = 1
  · simp only [if_pos k01]
    have e2 := f42 (w0 := w0) (t := t) s hs h a9 q1
    cases hP : rdP s a9 with
    | none =>
      rw [hP] at e2
      obtain ⟨x, y, z, e2⟩ := e2
      simp only [Option.bind_none, GOut]
      dsimp only [Try.f16, Option.getD]
      rcases k01 with rfl | rfl <;>
      simp only [reduceIte, reduceCtorEq, Nat.reduceAdd, Nat.reduceMul, Nat.reduceSub, Nat.reduceEqDiff, Nat.reduceLT, Nat.reduceLeDiff, Nat.reduceBEq, Int.reduceLT, Int.reduceLE, Int.reduceEq,
    Int.reduceNe, Int.reduceAdd, Int.reduceSub, Int.reduceMul, Int.reduceToNat, push_cast, pairsOk, locGet, locSet, nextGen, p2_int, intBin, e0, e1, e2, p9]
    | some p =>
      obtain ⟨q, c⟩ := p
      rw [hP] at e2
      replace e2 : acallI (cfg w0 t) 42 [vS s, vI a9] h = some (.ret (.tup [.agg [vS .empty, vS q.1, vI q.2.1, vI q.2.2], vI c]), h, none) := e2
      have hle := rdP_le hP
      have e3 := f9 (w0 := w0) (t := t) ok ⟨k, refI tk, q.1, q.2.1, q.2.2, 0, zV, []⟩ ⟨by simp only; omega, fun e he => (by cases he), by simp⟩ (.val (.slice none 0 0)) h (.inr ⟨rfl, rfl⟩)
      simp only [Option.bind_some, GOut, GOut1]
      generalize hm : (⟨k, refI tk, q.1, q.2.1, q.2.2, 0, zV, []⟩ : Msg) = m at e3 ⊢
      cases hg : msgGood m
      · rw [hg] at e3
        rw [if_neg (by simp)]
        subst hm
        dsimp only [Try.f16, Option.getD]
        rcases k01 with rfl | rfl <;>
        simp only [Int.cast_ofNat_Int] at e0 e3 <;>
        simp only [reduceIte, reduceCtorEq, Nat.reduceAdd, Nat.reduceMul, Nat.reduceSub, Nat.reduceEqDiff, Nat.reduceLT, Nat.reduceLeDiff, Nat.reduceBEq, Int.reduceLT, Int.reduceLE, Int.reduceEq,
    Int.reduceNe, Int.reduceAdd, Int.reduceSub, Int.reduceMul, Int.reduceToNat, push_cast, pairsOk, locGet, locSet, nextGen, p2_int, intBin, e0, e1, e2, e3, p9]
      · rw [hg, if_pos rfl] at e3
        by_cases he : bs (encM m) = s
        · rw [if_pos ⟨rfl, he⟩]
          rw [he] at e3
          subst hm
          refine ⟨.val (.slice none 0 0), h, ?_, .inl ⟨rfl, rfl⟩, Nat.le_refl _⟩
          dsimp only [Try.f16, Option.getD]
          rcases k01 with rfl | rfl <;>
          simp only [Int.cast_ofNat_Int] at e0 e3 ⊢ <;>
          simp only [reduceIte, reduceCtorEq, Nat.reduceAdd, Nat.reduceMul, Nat.reduceSub, Nat.reduceEqDiff, Nat.reduceLT, Nat.reduceLeDiff, Nat.reduceBEq, Int.reduceLT, Int.reduceLE, Int.reduceEq,
    Int.reduceNe, Int.reduceAdd, Int.reduceSub, Int.reduceMul, Int.reduceToNat, push_cast, pairsOk, locGet, locSet, nextGen, p2_int, intBin, p2_str, strBin, e0, e1, e2, e3, p9]
        · rw [if_neg (fun q => he q.2)]
          generalize bs (encM m) = u at e3 he
          subst hm
          dsimp only [Try.f16, Option.getD]
          rcases k01 with rfl | rfl <;>
          simp only [Int.cast_ofNat_Int] at e0 e3 <;>
          simp only [reduceIte, reduceCtorEq, Nat.reduceAdd, Nat.reduceMul, Nat.reduceSub, Nat.reduceEqDiff, Nat.reduceLT, Nat.reduceLeDiff, Nat.reduceBEq, Int.reduceLT, Int.reduceLE, Int.reduceEq,
    Int.reduceNe, Int.reduceAdd, Int.reduceSub, Int.reduceMul, Int.reduceToNat, push_cast, pairsOk, locGet, locSet, nextGen, p2_int, intBin, p2_str, strBin, e0, e1, e2, e3, p9, he]
  simp only [if_neg k01]
  have k0 : ¬ ((k : Int) = 0) := by omega
  have k1 : ¬ ((k : Int) = 1) := by omega
  by_cases k2 : k = 2
  · simp only [if_pos k2]
    subst k2
    have e2 := f42 (w0 := w0) (t := t) s hs h a9 q1
    cases hP : rdP s a9 with
    | none =>
      rw [hP] at e2
      obtain ⟨x, y, z, e2⟩ := e2
      simp only [Option.bind_none, GOut]
      dsimp only [Try.f16, Option.getD]
      simp only [reduceIte, reduceCtorEq, Nat.reduceAdd, Nat.reduceMul, Nat.reduceSub, Nat.reduceEqDiff, Nat.reduceLT, Nat.reduceLeDiff, Nat.reduceBEq, Int.reduceLT, Int.reduceLE, Int.reduceEq,
    Int.reduceNe, Int.reduceAdd, Int.reduceSub, Int.reduceMul, Int.reduceToNat, push_cast, pairsOk, locGet, locSet, nextGen, p2_int, intBin, e0, e1, e2, n8, p9]
    | some p =>
      obtain ⟨q, c⟩ := p
      rw [hP] at e2
      replace e2 : acallI (cfg w0 t) 42 [vS s, vI a9] h = some (.ret (.tup [.agg [vS .empty, vS q.1, vI q.2.1, vI q.2.2], vI c]), h, none) := e2
      have hle := rdP_le hP
      have e3 := f41_8 (w0 := w0) (t := t) s hs h c hle.1
      simp only [Option.bind_some]
      by_cases qc : c + 8 ≤ s.size
      rotate_left
      · rw [if_neg qc] at e3
        simp only [if_neg qc, Option.bind_none, GOut]
        dsimp only [Try.f16, Option.getD]
        simp only [reduceIte, reduceCtorEq, Nat.reduceAdd, Nat.reduceMul, Nat.reduceSub, Nat.reduceEqDiff, Nat.reduceLT, Nat.reduceLeDiff, Nat.reduceBEq, Int.reduceLT, Int.reduceLE, Int.reduceEq,
    Int.reduceNe, Int.reduceAdd, Int.reduceSub, Int.reduceMul, Int.reduceToNat, push_cast, pairsOk, locGet, locSet, nextGen, p2_int, intBin, e0, e1, e2, e3, p9]
      rw [if_pos qc] at e3
      simp only [if_pos qc, Option.bind_some]
      have e4 := f43 (w0 := w0) (t := t) s (c + 8) qc hs h
      rw [← rdV0_eq] at e4
      generalize c + 8 = d at e3 e4 qc ⊢
      generalize nAt s c 8 = ve at e3 ⊢
      cases hV : rdV0 s d with
      | none =>
        rw [hV, vRes] at e4
        simp only [Option.bind_none, GOut]
        dsimp only [Try.f16, Option.getD]
        simp only [reduceIte, reduceCtorEq, Nat.reduceAdd, Nat.reduceMul, Nat.reduceSub, Nat.reduceEqDiff, Nat.reduceLT, Nat.reduceLeDiff, Nat.reduceBEq, Int.reduceLT, Int.reduceLE, Int.reduceEq,
    Int.reduceNe, Int.reduceAdd, Int.reduceSub, Int.reduceMul, Int.reduceToNat, push_cast, pairsOk, locGet, locSet, nextGen, p2_int, intBin, e0, e1, e2, e3, e4, p9]
      | some pv =>
        obtain ⟨v, c5⟩ := pv
        rw [hV, vRes] at e4
        have hle5 := rdV0_le hV
        have e5 := f9 (w0 := w0) (t := t) ok ⟨(2 : Nat), refI tk, q.1, q.2.1, q.2.2, refI ve, v, []⟩ ⟨by simp only; omega, fun e he => (by cases he), by simp⟩ (.val (.slice none 0 0)) h (.inr ⟨rfl, rfl⟩)
        simp only [Option.bind_some, GOut, GOut1]
        generalize hm : (⟨(2 : Nat), refI tk, q.1, q.2.1, q.2.2, refI ve, v, []⟩ : Msg) = m at e5 ⊢
        cases hg : msgGood m
        · rw [hg] at e5
          rw [if_neg (by simp)]
          subst hm
          dsimp only [Try.f16, Option.getD]
          simp only [Int.cast_ofNat_Int] at e0 e5
          simp only [reduceIte, reduceCtorEq, Nat.reduceAdd, Nat.reduceMul, Nat.reduceSub, Nat.reduceEqDiff, Nat.reduceLT, Nat.reduceLeDiff, Nat.reduceBEq, Int.reduceLT, Int.reduceLE, Int.reduceEq,
    Int.reduceNe, Int.reduceAdd, Int.reduceSub, Int.reduceMul, Int.reduceToNat, push_cast, pairsOk, locGet, locSet, nextGen, p2_int, intBin, e0, e1, e2, e3, e4, e5, p9]
        · rw [hg, if_pos rfl] at e5
          by_cases he : bs (encM m) = s
          · rw [if_pos ⟨rfl, he⟩]
            rw [he] at e5
            subst hm
            refine ⟨.val (.slice none 0 0), h, ?_, .inl ⟨rfl, rfl⟩, Nat.le_refl _⟩
            dsimp only [Try.f16, Option.getD]
            simp only [Int.cast_ofNat_Int] at e0 e5 ⊢
            simp only [reduceIte, reduceCtorEq, Nat.reduceAdd, Nat.reduceMul, Nat.reduceSub, Nat.reduceEqDiff, Nat.reduceLT, Nat.reduceLeDiff, Nat.reduceBEq, Int.reduceLT, Int.reduceLE, Int.reduceEq,
    Int.reduceNe, Int.reduceAdd, Int.reduceSub, Int.reduceMul, Int.reduceToNat, push_cast, pairsOk, locGet, locSet, nextGen, p2_int, intBin, p2_str, strBin, e0, e1, e2, e3, e4, e5, p9]
          · rw [if_neg (fun q => he q.2)]
            generalize bs (encM m) = u at e5 he
            subst hm
            dsimp only [Try.f16, Option.getD]
            simp only [Int.cast_ofNat_Int] at e0 e5
            simp only [reduceIte, reduceCtorEq, Nat.reduceAdd, Nat.reduceMul, Nat.reduceSub, Nat.reduceEqDiff, Nat.reduceLT, Nat.reduceLeDiff, Nat.reduceBEq, Int.reduceLT, Int.reduceLE, Int.reduceEq,
    Int.reduceNe, Int.reduceAdd, Int.reduceSub, Int.reduceMul, Int.reduceToNat, push_cast, pairsOk, locGet, locSet, nextGen, p2_int, intBin, p2_str, strBin, e0, e1, e2, e3, e4, e5, p9, he]
  simp only [if_neg k2]
  have k2' : ¬ ((k : Int) = 2) := by omega
  by_cases k3 : k = 3
  · simp only [if_pos k3]
    subst k3
    have e2 := f41_8 (w0 := w0) (t := t) s hs h a9 q1
    have n2 := f41_neg (w0 := w0) (t := t) s 2 h
    have n44 := f44_neg (w0 := w0) (t := t) s h
    by_cases qc : a9 + 8 ≤ s.size
    rotate_left
    · rw [if_neg qc] at e2
      simp only [if_neg qc, Option.bind_none, GOut]
      dsimp only [Try.f16, Option.getD]
      simp only [reduceIte, reduceCtorEq, Nat.reduceAdd, Nat.reduceMul, Nat.reduceSub, Nat.reduceEqDiff, Nat.reduceLT, Nat.reduceLeDiff, Nat.reduceBEq, Int.reduceLT, Int.reduceLE, Int.reduceEq,
    Int.reduceNe, Int.reduceAdd, Int.reduceSub, Int.reduceMul, Int.reduceToNat, push_cast, pairsOk, locGet, locSet, nextGen, p2_int, intBin, e0, e1, e2, n2, n44, p9]
    rw [if_pos qc] at e2
    have e3 := f41_2 (w0 := w0) (t := t) s hs h (a9 + 8) qc
    simp only [if_pos qc, Option.bind_some]
    generalize a9 + 8 = d at e2 e3 qc ⊢
    generalize nAt s a9 8 = ve at e2 ⊢
    by_cases qd : d + 2 ≤ s.size
    rotate_left
    · rw [if_neg qd] at e3
      simp only [if_neg qd, Option.bind_none, GOut]
      dsimp only [Try.f16, Option.getD]
      simp only [reduceIte, reduceCtorEq, Nat.reduceAdd, Nat.reduceMul, Nat.reduceSub, Nat.reduceEqDiff, Nat.reduceLT, Nat.reduceLeDiff, Nat.reduceBEq, Int.reduceLT, Int.reduceLE, Int.reduceEq,
    Int.reduceNe, Int.reduceAdd, Int.reduceSub, Int.reduceMul, Int.reduceToNat, push_cast, pairsOk, locGet, locSet, nextGen, p2_int, intBin, e0, e1, e2, e3, n44, p9]
    rw [if_pos qd] at e3
    have hn := nAt2 s d qd
    simp only [if_pos qd, Option.bind_some]
    generalize d + 2 = d2 at e3 qd ⊢
    generalize nAt s d 2 = n at e3 hn ⊢
    have e4 := f44 ok s hs n hn d2 qd h
    cases hE : rdEs s n d2 with
    | none =>
      rw [hE] at e4
      obtain ⟨xs, h', l, e4, hI, hl⟩ := e4
      have hnb := hI.nb
      simp only [Option.bind_none, GOut]
      dsimp only [Try.f16, Option.getD]
      simp only [reduceIte, reduceCtorEq, Nat.reduceAdd, Nat.reduceMul, Nat.reduceSub, Nat.reduceEqDiff, Nat.reduceLT, Nat.reduceLeDiff, Nat.reduceBEq, Int.reduceLT, Int.reduceLE, Int.reduceEq,
    Int.reduceNe, Int.reduceAdd, Int.reduceSub, Int.reduceMul, Int.reduceToNat, push_cast, pairsOk, locGet, locSet, nextGen, p2_int, intBin, e0, e1, e2, e3, e4, p9, hnb.1, hnb.2, c_one hnb.2]
    | some r =>
      obtain ⟨l, e⟩ := r
      rw [hE] at e4
      obtain ⟨xs, h', e4, hI, hl⟩ := e4
      have hnb := hI.nb
      have hle := rdEs_le qd hE
      have e5 := f9 (w0 := w0) (t := t) ok ⟨(3 : Nat), refI tk, .empty, 0, 0, refI ve, zV, l⟩ ⟨by simp, hle.2.2.2, by simp only; omega⟩ xs h' hI.redsV
      simp only [Option.bind_some, GOut, GOut1]
      generalize hm : (⟨(3 : Nat), refI tk, .empty, 0, 0, refI ve, zV, l⟩ : Msg) = m at e5 ⊢
      cases hg : msgGood m
      · rw [hg] at e5
        rw [if_neg (by simp)]
        subst hm
        dsimp only [Try.f16, Option.getD]
        simp only [Int.cast_ofNat_Int] at e0 e5
        simp only [reduceIte, reduceCtorEq, Nat.reduceAdd, Nat.reduceMul, Nat.reduceSub, Nat.reduceEqDiff, Nat.reduceLT, Nat.reduceLeDiff, Nat.reduceBEq, Int.reduceLT, Int.reduceLE, Int.reduceEq,
    Int.reduceNe, Int.reduceAdd, Int.reduceSub, Int.reduceMul, Int.reduceToNat, push_cast, pairsOk, locGet, locSet, nextGen, p2_int, intBin, e0, e1, e2, e3, e4, e5, p9, hnb.1, hnb.2, c_one hnb.2]
      · rw [hg, if_pos rfl] at e5
        by_cases he : bs (encM m) = s
        · rw [if_pos ⟨rfl, he⟩]
          rw [he] at e5
          subst hm
          dsimp only [Try.f16, Option.getD]
          simp only [Int.cast_ofNat_Int] at e0 e5 ⊢
          simp only [reduceIte, reduceCtorEq, Nat.reduceAdd, Nat.reduceMul, Nat.reduceSub, Nat.reduceEqDiff, Nat.reduceLT, Nat.reduceLeDiff, Nat.reduceBEq, Int.reduceLT, Int.reduceLE, Int.reduceEq,
    Int.reduceNe, Int.reduceAdd, Int.reduceSub, Int.reduceMul, Int.reduceToNat, push_cast, pairsOk, locGet, locSet, nextGen, p2_int, intBin, p2_str, strBin, e0, e1, e2, e3, e4, e5, p9, hnb.1, hnb.2, c_one hnb.2]
          split
          · rename_i hb
            obtain ⟨rfl, rfl⟩ := REdsI.down hI hb
            exact ⟨_, _, rfl, .inl ⟨rfl, rfl⟩, Nat.le_refl _⟩
          · exact ⟨_, _, rfl, hI, hl⟩
        · rw [if_neg (fun q => he q.2)]
          generalize bs (encM m) = u at e5 he
          subst hm
          dsimp only [Try.f16, Option.getD]
          simp only [Int.cast_ofNat_Int] at e0 e5
          simp only [reduceIte, reduceCtorEq, Nat.reduceAdd, Nat.reduceMul, Nat.reduceSub, Nat.reduceEqDiff, Nat.reduceLT, Nat.reduceLeDiff, Nat.reduceBEq, Int.reduceLT, Int.reduceLE, Int.reduceEq,
    Int.reduceNe, Int.reduceAdd, Int.reduceSub, Int.reduceMul, Int.reduceToNat, push_cast, pairsOk, locGet, locSet, nextGen, p2_int, intBin, p2_str, strBin, e0, e1, e2, e3, e4, e5, p9, he, hnb.1, hnb.2, c_one hnb.2]
  simp only [if_neg k3]
  have k3' : ¬ ((k : Int) = 3) := by omega
  have e3 := f9 (w0 := w0) (t := t) ok ⟨k, refI tk, .empty, 0, 0, 0, zV, []⟩ ⟨by simp, fun e he => (by cases he), by simp⟩ (.val (.slice none 0 0)) h (.inr ⟨rfl, rfl⟩)
  simp only [GOut, GOut1]
  generalize hm : (⟨k, refI tk, .empty, 0, 0, 0, zV, []⟩ : Msg) = m at e3 ⊢
  cases hg : msgGood m
  · rw [hg] at e3
    rw [if_neg (by simp)]
    subst hm
    dsimp only [Try.f16, Option.getD]
    simp only [reduceIte, reduceCtorEq, Nat.reduceAdd, Nat.reduceMul, Nat.reduceSub, Nat.reduceEqDiff, Nat.reduceLT, Nat.reduceLeDiff, Nat.reduceBEq, Int.reduceLT, Int.reduceLE, Int.reduceEq,
    Int.reduceNe, Int.reduceAdd, Int.reduceSub, Int.reduceMul, Int.reduceToNat, push_cast, pairsOk, locGet, locSet, nextGen, p2_int, intBin, e0, e1, e3, p9, k0, k1, k2', k3']
  · rw [hg, if_pos rfl] at e3
    by_cases he : bs (encM m) = s
    · rw [if_pos ⟨rfl, he⟩]
      rw [he] at e3
      subst hm
      refine ⟨.val (.slice none 0 0), h, ?_, .inl ⟨rfl, rfl⟩, Nat.le_refl _⟩
      dsimp only [Try.f16, Option.getD]
      simp only [reduceIte, reduceCtorEq, Nat.reduceAdd, Nat.reduceMul, Nat.reduceSub, Nat.reduceEqDiff, Nat.reduceLT, Nat.reduceLeDiff, Nat.reduceBEq, Int.reduceLT, Int.reduceLE, Int.reduceEq,
    Int.reduceNe, Int.reduceAdd, Int.reduceSub, Int.reduceMul, Int.reduceToNat, push_cast, pairsOk, locGet, locSet, nextGen, p2_int, intBin, p2_str, strBin, e0, e1, e3, p9, k0, k1, k2', k3']
    · rw [if_neg (fun q => he q.2)]
      generalize bs (encM m) = u at e3 he
      subst hm
      dsimp only [Try.f16, Option.getD]
      simp only [reduceIte, reduceCtorEq, Nat.reduceAdd, Nat.reduceMul, Nat.reduceSub, Nat.reduceEqDiff, Nat.reduceLT, Nat.reduceLeDiff, Nat.reduceBEq, Int.reduceLT, Int.reduceLE, Int.reduceEq,
    Int.reduceNe, Int.reduceAdd, Int.reduceSub, Int.reduceMul, Int.reduceToNat, push_cast, pairsOk, locGet, locSet, nextGen, p2_int, intBin, p2_str, strBin, e0, e1, e3, p9, he, k0, k1, k2', k3']
end Go.Proofs.Ytmglahnoemgieaa.Ax
namespace Go.Proofs.Ytmglahnoemgieaa.Ax
open Go Go.RowKit
set_option linter.unusedSimpArgs false
set_option linter.unusedVariables false
set_option maxHeartbeats 8000000
set_option maxRecDepth 4000
variable {w0 : World} {t : Option Gf}
abbrev Pk := Bool × Int × Int × ByteArray
/-- the packet that bytes are -/
def openP (s : ByteArray) : Option Pk :=
  if s.size < 17 then none else match bl s with
  | [] => none
  | k :: _ => if k.toNat ≤ 1 ∧ nAt s 1 8 ≤ 9007199254740992 ∧ nAt s 9 8 ≤ 9007199254740992 ∧ (k.toNat = 1 → s.extract 17 s.size = .empty) then some (decide (k.toNat = 1), nAt s 1 8, nAt s 9 8, s.extract 17 s.size) else none
def pkV (p : Pk) : AV := .agg [vB p.1, vI p.2.1, vI p.2.2.1, vS p.2.2.2]
def pkRes : Option Pk → List AV
  | some p => [pkV p, vI 0]
  | none => [pkV (false, 0, 0, .empty), vI 4]
theorem sI_good {n : Nat} (h : n < 18446744073709551616) : (0 ≤ sI n ∧ sI n ≤ 9007199254740992) ↔ n ≤ 9007199254740992 := by
  by_cases hn : n < 9223372036854775808
  · rw [sI_small hn]; omega
  · have : sI n < 0 := by
      unfold sI
      show (if (true && decide ((n : Int) % 18446744073709551616 ≥ 9223372036854775808)) = true then (n : Int) % 18446744073709551616 - 18446744073709551616 else (n : Int) % 18446744073709551616) < 0
      rw [Bool.true_and, if_pos (decide_eq_true (by omega))]
      omega
    omega
theorem refI_good {n : Nat} : (0 ≤ refI n ∧ refI n ≤ 9007199254740992) ↔ n ≤ 9007199254740992 := by
  unfold refI
  split <;> omega
theorem f17 (s : ByteArray) (hs : s.size ≤ 9223372036854775000) (h : H) : acallI (cfg w0 t) 17 [vS s] h = some (.ret (.tup (pkRes (openP s))), h, none) := by
  rw [E17]
  by_cases hsz : s.size < 17
  · have c1 : (s.size : Int) < 17 := by omega
    have ho : openP s = none := by unfold openP; rw [if_pos hsz]
    rw [ho]
    simp only [pkRes, pkV]
    dsimp only [Try.f17, Option.getD]
    simp only [reduceIte, reduceCtorEq, Nat.reduceAdd, Nat.reduceMul, Nat.reduceSub, Nat.reduceEqDiff, Nat.reduceLT, Nat.reduceLeDiff, Nat.reduceBEq, Int.reduceLT, Int.reduceLE, Int.reduceEq,
    Int.reduceNe, Int.reduceAdd, Int.reduceSub, Int.reduceMul, Int.reduceToNat, push_cast, pairsOk, locGet, locSet, nextGen, p2_int, intBin, len_str Try.underlying9, c1]
  have c1 : ¬ ((s.size : Int) < 17) := by omega
  cases hL : bl s with
  | nil => have := sz_eq hL; rw [List.length_nil] at this; omega
  | cons k l =>
    have b0 := by0 hL
    by_cases hk : k.toNat ≤ 1
    rotate_left
    · have c2 : (1 : Int) < (k.toNat : Int) := by omega
      have ho : openP s = none := by unfold openP; rw [if_neg hsz, hL]; simp only; rw [if_neg (fun q => hk q.1)]
      rw [ho]
      simp only [pkRes, pkV]
      dsimp only [Try.f17, Option.getD]
      simp only [reduceIte, reduceCtorEq, Nat.reduceAdd, Nat.reduceMul, Nat.reduceSub, Nat.reduceEqDiff, Nat.reduceLT, Nat.reduceLeDiff, Nat.reduceBEq, Int.reduceLT, Int.reduceLE, Int.reduceEq,
    Int.reduceNe, Int.reduceAdd, Int.reduceSub, Int.reduceMul, Int.reduceToNat, push_cast, pairsOk, locGet, locSet, nextGen, p2_int, intBin, p2_index, len_str Try.underlying9, c1, b0, c2]
    have c2 : ¬ ((1 : Int) < (k.toNat : Int)) := by omega
    have hb : h.length < (h ++ [(⟨[vS s, vI 0], 0⟩ : Blk)]).length := by simp
    have hrd : rdH (h ++ [(⟨[vS s, vI 0], 0⟩ : Blk)]) h.length s 0 = h ++ [(⟨[vS s, vI 0], 0⟩ : Blk)] := rdH_self top_get
    have e1 := f45_1 (w0 := w0) (t := t) (h ++ [(⟨[vS s, vI 0], 0⟩ : Blk)]) h.length s 0 hb (Nat.zero_le _) hs
    have e2 := f45_8 (w0 := w0) (t := t) (h ++ [(⟨[vS s, vI 0], 0⟩ : Blk)]) h.length s 1 hb (by omega) hs
    have e3 := f45_8 (w0 := w0) (t := t) (h ++ [(⟨[vS s, vI 0], 0⟩ : Blk)]) h.length s 9 hb (by omega) hs
    rw [if_pos (show 0 + 1 ≤ s.size by omega), hrd] at e1
    rw [if_pos (show 1 + 8 ≤ s.size by omega)] at e2
    rw [if_pos (show 9 + 8 ≤ s.size by omega)] at e3
    rw [show 0 + 1 = 1 from rfl] at e1
    rw [show 1 + 8 = 9 from rfl] at e2
    rw [show 9 + 8 = 17 from rfl] at e3
    have hg := rdH_get (h := h ++ [(⟨[vS s, vI 0], 0⟩ : Blk)]) (b := h.length) (s := s) (a := 17) hb
    rw [show (((17 : Nat) : Int)) = 17 from rfl] at hg
    have hn1 : nAt s 0 1 = k.toNat := by
      unfold nAt
      have : bl (s.extract 0 (0 + 1)) = [k] := by rw [ext_h, hL]; rfl
      rw [this]
      simp [beN]
    rw [hn1] at e1
    have hsl : p2 Try.prog (.val (.string s)) (.val (.int .i64 17)) (fun x y => Instr.sliceAt 9 x (some y) none none) = some (.done (vS (s.extract 17 s.size))) := sl_str_l (k := .i64) (n := (17 : Int)) Try.underlying9 (by omega) (by omega)
    have h1 := nAt8 s 1 (by omega)
    have h2 := nAt8 s 9 (by omega)
    have g1 := sI_good h1
    have g2 := sI_good h2
    have s1 : nAt s 1 8 ≤ 9007199254740992 → sI (nAt s 1 8) = nAt s 1 8 := fun q => sI_small (by omega)
    have s2 : nAt s 9 8 ≤ 9007199254740992 → sI (nAt s 9 8) = nAt s 9 8 := fun q => sI_small (by omega)
    have ho : openP s = if k.toNat ≤ 1 ∧ nAt s 1 8 ≤ 9007199254740992 ∧ nAt s 9 8 ≤ 9007199254740992 ∧ (k.toNat = 1 → s.extract 17 s.size = .empty) then some (decide (k.toNat = 1), (nAt s 1 8 : Int), (nAt s 9 8 : Int), s.extract 17 s.size) else none := by
      unfold openP; rw [if_neg hsz, hL]
    rw [ho]
    have hd : decide ((k.toNat : Int) = 1) = decide (k.toNat = 1) := by
      by_cases q : k.toNat = 1
      · simp [q]
      · have q' : ¬ (k.toNat : Int) = 1 := by omega
        simp [q, q']
    have e4 := fun hh => f30 (w0 := w0) (t := t) (decide (k.toNat = 1)) (sI (nAt s 1 8)) (sI (nAt s 9 8)) (s.extract 17 s.size) hh
    have hlen : (rdH (h ++ [(⟨[vS s, vI 0], 0⟩ : Blk)]) h.length s 17).length = h.length + 1 := by rw [rdH_len]; simp
    by_cases hgood : k.toNat ≤ 1 ∧ nAt s 1 8 ≤ 9007199254740992 ∧ nAt s 9 8 ≤ 9007199254740992 ∧ (k.toNat = 1 → s.extract 17 s.size = .empty)
    · rw [if_pos hgood]
      have hp : (decide (0 ≤ sI (nAt s 1 8)) && decide (sI (nAt s 1 8) ≤ 9007199254740992) && (decide (0 ≤ sI (nAt s 9 8)) && decide (sI (nAt s 9 8) ≤ 9007199254740992)) && (!decide (k.toNat = 1) || decide (s.extract 17 s.size = .empty))) = true := by
        have a1 := g1.2 hgood.2.1
        have a2 := g2.2 hgood.2.2.1
        rw [decide_eq_true a1.1, decide_eq_true a1.2, decide_eq_true a2.1, decide_eq_true a2.2]
        by_cases q : k.toNat = 1
        · rw [decide_eq_true (hgood.2.2.2 q)]; simp
        · simp [q]
      rw [hp] at e4
      rw [s1 hgood.2.1] at e2 e4
      rw [s2 hgood.2.2.1] at e3 e4
      simp only [pkRes, pkV]
      generalize rdH (h ++ [(⟨[vS s, vI 0], 0⟩ : Blk)]) h.length s 17 = h3 at *
      generalize rdH (h ++ [(⟨[vS s, vI 0], 0⟩ : Blk)]) h.length s 9 = h2 at *
      generalize rdH (h ++ [(⟨[vS s, vI 0], 0⟩ : Blk)]) h.length s 1 = h1 at *
      generalize s.extract 17 s.size = bd at *
      dsimp only [Try.f17, Option.getD]
      simp only [reduceIte, reduceCtorEq, Nat.reduceAdd, Nat.reduceMul, Nat.reduceSub, Nat.reduceEqDiff, Nat.reduceLT, Nat.reduceLeDiff, Nat.reduceBEq, Int.reduceLT, Int.reduceLE, Int.reduceEq,
    Int.reduceNe, Int.reduceAdd, Int.reduceSub, Int.reduceMul, Int.reduceToNat, push_cast, pairsOk, locGet, locSet, nextGen, p2_int, intBin, p2_index, len_str Try.underlying9, c1, b0, c2, e1, e2, e3, hd, hg, hsl, e4, lw_same]
    · rw [if_neg hgood]
      have hp : (decide (0 ≤ sI (nAt s 1 8)) && decide (sI (nAt s 1 8) ≤ 9007199254740992) && (decide (0 ≤ sI (nAt s 9 8)) && decide (sI (nAt s 9 8) ≤ 9007199254740992)) && (!decide (k.toNat = 1) || decide (s.extract 17 s.size = .empty))) = false := by
        rw [Bool.eq_false_iff]
        intro q
        apply hgood
        simp only [Bool.and_eq_true, decide_eq_true_eq, Bool.or_eq_true, Bool.not_eq_true', decide_eq_false_iff_not] at q
        refine ⟨hk, g1.1 q.1.1, g2.1 q.1.2, fun q1 => ?_⟩
        rcases q.2 with q2 | q2
        · exact absurd q1 q2
        · exact q2
      rw [hp] at e4
      simp only [pkRes, pkV]
      generalize sI (nAt s 1 8) = i1 at *
      generalize sI (nAt s 9 8) = i2 at *
      generalize rdH (h ++ [(⟨[vS s, vI 0], 0⟩ : Blk)]) h.length s 17 = h3 at *
      generalize rdH (h ++ [(⟨[vS s, vI 0], 0⟩ : Blk)]) h.length s 9 = h2 at *
      generalize rdH (h ++ [(⟨[vS s, vI 0], 0⟩ : Blk)]) h.length s 1 = h1 at *
      generalize s.extract 17 s.size = bd at *
      dsimp only [Try.f17, Option.getD]
      simp only [reduceIte, reduceCtorEq, Nat.reduceAdd, Nat.reduceMul, Nat.reduceSub, Nat.reduceEqDiff, Nat.reduceLT, Nat.reduceLeDiff, Nat.reduceBEq, Int.reduceLT, Int.reduceLE, Int.reduceEq,
    Int.reduceNe, Int.reduceAdd, Int.reduceSub, Int.reduceMul, Int.reduceToNat, push_cast, pairsOk, locGet, locSet, nextGen, p2_int, intBin, p2_index, len_str Try.underlying9, c1, b0, c2, e1, e2, e3, hd, hg, hsl, e4, lw_same]
end Go.Proofs.Ytmglahnoemgieaa.Ax
namespace Go.Proofs.Ytmglahnoemgieaa.Ax
open Go Go.RowKit
set_option linter.unusedSimpArgs false
set_option linter.unusedVariables false
set_option linter.unnecessarySimpa false
set_option maxHeartbeats 8000000
set_option maxRecDepth 4000
variable {w0 : World} {t : Option Gf}
theorem bl_ext (s : ByteArray) (a k : Nat) : bl (s.extract a (a + k)) = ((bl s).drop a).take k := by
  unfold bl
  rw [ByteArray.data_extract, Array.toList_extract, List.extract_eq_take_drop, Nat.add_sub_cancel_left]
theorem encB_nAt (s : ByteArray) (a k : Nat) (h : a + k ≤ s.size) : encB (nAt s a k) k = ((bl s).drop a).take k := by
  rw [← bl_ext]
  have hl : (bl (s.extract a (a + k))).length = k := by rw [bl_len, ext_size]; omega
  have := encB_beN (bl (s.extract a (a + k)))
  rwa [hl] at this
theorem cut (l : List UInt8) (a k : Nat) : l.drop a = (l.drop a).take k ++ l.drop (a + k) := by
  rw [← List.drop_drop, List.take_append_drop]
theorem pkEnc_eq {s : ByteArray} {k : UInt8} {l : List UInt8} (hL : bl s = k :: l) (hs : 17 ≤ s.size) : pkEnc (decide (k.toNat = 1)) (nAt s 1 8) (nAt s 9 8) (s.extract 17 s.size) = s ↔ k.toNat ≤ 1 := by
  have h1 := encB_nAt s 1 8 (by omega)
  have h2 := encB_nAt s 9 8 (by omega)
  have hb := bl_from s 17
  have hcut : bl s = [k] ++ encB (nAt s 1 8) 8 ++ encB (nAt s 9 8) 8 ++ bl (s.extract 17 s.size) := by
    rw [h1, h2, hb]
    have c0 := cut (bl s) 0 1
    have c1 := cut (bl s) 1 8
    have c9 := cut (bl s) 9 8
    simp only [List.append_assoc]
    rw [← c9, ← c1]
    rw [List.drop_zero, hL] at c0
    rw [hL]
    simpa using c0
  have henc : bl (pkEnc (decide (k.toNat = 1)) (nAt s 1 8) (nAt s 9 8) (s.extract 17 s.size)) = encB (if decide (k.toNat = 1) = true then 1 else 0) 1 ++ encB (nAt s 1 8) 8 ++ encB (nAt s 9 8) 8 ++ bl (s.extract 17 s.size) := by
    unfold pkEnc
    rw [bl_app]
    rfl
  constructor
  · intro e
    rw [e, hcut] at henc
    simp only [List.append_assoc] at henc
    by_cases q : k.toNat = 1
    · omega
    · rw [if_neg (by simpa using q)] at henc
      have : k = byteOf 0 0 := (List.cons.inj henc).1
      rw [this]
      decide
  · intro hk
    have : encB (if decide (k.toNat = 1) = true then 1 else 0) 1 = [k] := by
      by_cases q : k.toNat = 1
      · rw [if_pos (by simpa using q)]
        have : k = 1 := toNat_inj q
        rw [this]; rfl
      · rw [if_neg (by simpa using q)]
        have : k = 0 := toNat_inj (by show k.toNat = 0; omega)
        rw [this]; rfl
    rw [this, ← hcut] at henc
    rw [← bs_bl (pkEnc _ _ _ _), henc, bs_bl]
theorem pk_nil {ds : List Dom} : pairsOk ds [] = true := by
  unfold pairsOk
  exact List.all_nil
theorem f18 (ok : CfgOk (cfg w0 t)) (s : ByteArray) (hs : s.size ≤ 9223372036854775000) (h : H) : acallI (cfg w0 t) 18 [vS s] h = some (.ret (.tup (pkRes (openP s))), h, none) := by
  rw [E18]
  by_cases hsz : s.size < 17
  · have c1 : (s.size : Int) < 17 := by omega
    have ho : openP s = none := by unfold openP; rw [if_pos hsz]
    rw [ho]
    simp only [pkRes, pkV]
    dsimp only [Try.f18, Option.getD]
    simp only [reduceIte, reduceCtorEq, Nat.reduceAdd, Nat.reduceMul, Nat.reduceSub, Nat.reduceEqDiff, Nat.reduceLT, Nat.reduceLeDiff, Nat.reduceBEq, Int.reduceLT, Int.reduceLE, Int.reduceEq,
    Int.reduceNe, Int.reduceAdd, Int.reduceSub, Int.reduceMul, Int.reduceToNat, push_cast, locGet, locSet, nextGen, p2_int, intBin, len_str Try.underlying9, c1]
  have c1 : ¬ ((s.size : Int) < 17) := by omega
  cases hL : bl s with
  | nil => have := sz_eq hL; rw [List.length_nil] at this; omega
  | cons k l =>
    have b0 := by0 hL
    have e1 := f41_8 (w0 := w0) (t := t) s hs h 1 (by omega)
    have e2 := f41_8 (w0 := w0) (t := t) s hs h 9 (by omega)
    rw [if_pos (show 1 + 8 ≤ s.size by omega)] at e1
    rw [if_pos (show 9 + 8 ≤ s.size by omega)] at e2
    rw [show (((1 : Nat) : Int)) = 1 from rfl] at e1
    rw [show (((9 : Nat) : Int)) = 9 from rfl] at e2
    have hsl : p2 Try.prog (.val (.string s)) (.val (.int .i64 17)) (fun x y => Instr.sliceAt 9 x (some y) none none) = some (.done (vS (s.extract 17 s.size))) := sl_str_l (k := .i64) (n := (17 : Int)) Try.underlying9 (by omega) (by omega)
    have hd : decide ((k.toNat : Int) = 1) = decide (k.toNat = 1) := by
      by_cases q : k.toNat = 1
      · simp [q]
      · have q' : ¬ (k.toNat : Int) = 1 := by omega
        simp [q, q']
    have hbs : (s.extract 17 s.size).size ≤ 9223372036854775000 := by rw [ext_size]; omega
    have e3 := f11 (w0 := w0) (t := t) ok (decide (k.toNat = 1)) (refI (nAt s 1 8)) (refI (nAt s 9 8)) (s.extract 17 s.size) hbs h
    have g1 := refI_good (n := nAt s 1 8)
    have g2 := refI_good (n := nAt s 9 8)
    have heq := pkEnc_eq hL (by omega)
    have ho : openP s = if k.toNat ≤ 1 ∧ nAt s 1 8 ≤ 9007199254740992 ∧ nAt s 9 8 ≤ 9007199254740992 ∧ (k.toNat = 1 → s.extract 17 s.size = .empty) then some (decide (k.toNat = 1), (nAt s 1 8 : Int), (nAt s 9 8 : Int), s.extract 17 s.size) else none := by
      unfold openP; rw [if_neg hsz, hL]
    rw [ho]
    have hpg : pkGood (decide (k.toNat = 1)) (refI (nAt s 1 8)) (refI (nAt s 9 8)) (s.extract 17 s.size) = true ↔ (nAt s 1 8 ≤ 9007199254740992 ∧ nAt s 9 8 ≤ 9007199254740992 ∧ (k.toNat = 1 → s.extract 17 s.size = .empty)) := by
      unfold pkGood
      simp only [Bool.and_eq_true, decide_eq_true_eq, Bool.or_eq_true, Bool.not_eq_true', decide_eq_false_iff_not]
      rw [g1, g2]
      constructor
      · rintro ⟨⟨a1, a2⟩, a3⟩
        exact ⟨a1, a2, fun q => a3.resolve_left (fun q' => q' q)⟩
      · rintro ⟨a1, a2, a3⟩
        refine ⟨⟨a1, a2⟩, ?_⟩
        by_cases q : k.toNat = 1
        · exact .inr (a3 q)
        · exact .inl q
    by_cases hp : pkGood (decide (k.toNat = 1)) (refI (nAt s 1 8)) (refI (nAt s 9 8)) (s.extract 17 s.size) = true
    · have hp2 := hpg.1 hp
      rw [hp, if_pos rfl] at e3
      have r1 : refI (nAt s 1 8) = nAt s 1 8 := refI_small (by omega)
      have r2 : refI (nAt s 9 8) = nAt s 9 8 := refI_small (by omega)
      rw [r1] at e1 e3
      rw [r2] at e2 e3
      by_cases hk : k.toNat ≤ 1
      · rw [if_pos ⟨hk, hp2⟩]
        rw [heq.2 hk] at e3
        simp only [pkRes, pkV]
        generalize s.extract 17 s.size = bd at hsl e3 ⊢
        dsimp only [Try.f18, Option.getD]
        simp only [reduceIte, reduceCtorEq, Nat.reduceAdd, Nat.reduceMul, Nat.reduceSub, Nat.reduceEqDiff, Nat.reduceLT, Nat.reduceLeDiff, Nat.reduceBEq, Int.reduceLT, Int.reduceLE, Int.reduceEq,
    Int.reduceNe, Int.reduceAdd, Int.reduceSub, Int.reduceMul, Int.reduceToNat, push_cast, locGet, locSet, nextGen, p2_int, intBin, p2_index, p2_str, strBin, len_str Try.underlying9, c1, b0, e1, e2, e3, hd, pk_nil, hsl]
      · rw [if_neg (fun q => hk q.1)]
        have hne : ¬ (pkEnc (decide (k.toNat = 1)) (nAt s 1 8) (nAt s 9 8) (s.extract 17 s.size) = s) := fun q => hk (heq.1 q)
        generalize pkEnc (decide (k.toNat = 1)) (nAt s 1 8) (nAt s 9 8) (s.extract 17 s.size) = u at e3 hne
        simp only [pkRes, pkV]
        generalize s.extract 17 s.size = bd at hsl e3 ⊢
        dsimp only [Try.f18, Option.getD]
        simp only [reduceIte, reduceCtorEq, Nat.reduceAdd, Nat.reduceMul, Nat.reduceSub, Nat.reduceEqDiff, Nat.reduceLT, Nat.reduceLeDiff, Nat.reduceBEq, Int.reduceLT, Int.reduceLE, Int.reduceEq,
    Int.reduceNe, Int.reduceAdd, Int.reduceSub, Int.reduceMul, Int.reduceToNat, push_cast, locGet, locSet, nextGen, p2_int, intBin, p2_index, p2_str, strBin, len_str Try.underlying9, c1, b0, e1, e2, e3, hd, pk_nil, hsl, hne]
    · have hpf : pkGood (decide (k.toNat = 1)) (refI (nAt s 1 8)) (refI (nAt s 9 8)) (s.extract 17 s.size) = false := by simpa using hp
      rw [hpf] at e3
      rw [if_neg (fun q => hp (hpg.2 q.2))]
      simp only [pkRes, pkV]
      generalize refI (nAt s 1 8) = i1 at *
      generalize refI (nAt s 9 8) = i2 at *
      generalize s.extract 17 s.size = bd at hsl e3 ⊢
      dsimp only [Try.f18, Option.getD]
      simp only [reduceIte, reduceCtorEq, Nat.reduceAdd, Nat.reduceMul, Nat.reduceSub, Nat.reduceEqDiff, Nat.reduceLT, Nat.reduceLeDiff, Nat.reduceBEq, Int.reduceLT, Int.reduceLE, Int.reduceEq,
    Int.reduceNe, Int.reduceAdd, Int.reduceSub, Int.reduceMul, Int.reduceToNat, push_cast, locGet, locSet, nextGen, p2_int, intBin, p2_index, p2_str, strBin, len_str Try.underlying9, c1, b0, e1, e2, e3, hd, pk_nil, hsl]
end Go.Proofs.Ytmglahnoemgieaa.Ax

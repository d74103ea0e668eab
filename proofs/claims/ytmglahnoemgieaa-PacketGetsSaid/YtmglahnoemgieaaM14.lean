/- Plain laws of bytes: what is read is what was put, and the other way round. (And what follows from it, text by text.) -/
import Derived.Test.YtmglahnoemgieaaM13
import Derived.Test.YtmglahnoemgieaaM11
namespace Go.Proofs.Ytmglahnoemgieaa.Ax
open Go Go.RowKit
set_option linter.unusedSimpArgs false
set_option linter.unusedVariables false
set_option linter.unnecessarySimpa false
set_option maxHeartbeats 8000000
set_option maxRecDepth 4000
/-! ### what was read, put again -/
theorem rdN_enc {s : ByteArray} {a k n c : Nat} (h : rdN s a k = some (n, c)) : (bl s).drop a = encB n k ++ (bl s).drop c := by
  obtain ⟨h1, rfl, rfl⟩ := rdN_some h
  rw [encB_nAt s a k h1]
  exact cut _ _ _
theorem rdT_enc {s : ByteArray} {a : Nat} {x : ByteArray} {c : Nat} (h : rdT s a = some (x, c)) : (bl s).drop a = encS x ++ (bl s).drop c := by
  have hle := rdT_le h
  unfold rdT at h
  cases h1 : rdN s a 1 with
  | none => rw [h1] at h; cases h
  | some p =>
    obtain ⟨n, d⟩ := p
    rw [h1, Option.bind_some] at h
    simp only at h
    split at h
    · rename_i hd
      have e1 := rdN_enc h1
      cases h
      have hx : (s.extract d (d + n)).size = n := by rw [ext_size]; omega
      unfold encS
      rw [hx, e1, List.append_assoc, bl_ext, ← cut]
    · cases h
theorem rdP_enc {s : ByteArray} {a : Nat} {q : ByteArray × Nat × Nat} {c : Nat} (h : rdP s a = some (q, c)) : (bl s).drop a = encP q.1 q.2.1 q.2.2 ++ (bl s).drop c := by
  unfold rdP at h
  cases h1 : rdT s a with
  | none => rw [h1] at h; cases h
  | some p =>
    obtain ⟨x, c1⟩ := p
    rw [h1, Option.bind_some] at h
    simp only at h
    cases h2 : rdN s c1 1 with
    | none => rw [h2] at h; cases h
    | some p2 =>
      obtain ⟨n2, c2⟩ := p2
      rw [h2, Option.bind_some] at h
      simp only at h
      cases h3 : rdN s c2 2 with
      | none => rw [h3] at h; cases h
      | some p3 =>
        obtain ⟨n3, c3⟩ := p3
        rw [h3, Option.bind_some] at h
        cases h
        rw [rdT_enc h1, rdN_enc h2, rdN_enc h3]
        simp [encP]
theorem rdL_enc {s : ByteArray} {a : Nat} {p : Pl} {c : Nat} (h : rdL s a = some (p, c)) : (bl s).drop a = encL p ++ (bl s).drop c := by
  obtain ⟨bk, c1, q, h1, h2, rfl⟩ := rdL_some h
  rw [rdT_enc h1, rdP_enc h2]
  simp [encL]
theorem rdLs_enc {s : ByteArray} : ∀ {n a : Nat} {l : List Pl} {c : Nat}, rdLs s n a = some (l, c) → (bl s).drop a = encLs l ++ (bl s).drop c
  | 0, a, l, c, h => by cases h; simp [encLs]
  | n + 1, a, l, c, h => by
    unfold rdLs at h
    cases h1 : rdL s a with
    | none => rw [h1] at h; cases h
    | some p =>
      obtain ⟨p, c1⟩ := p
      rw [h1, Option.bind_some] at h
      simp only at h
      cases h2 : rdLs s n c1 with
      | none => rw [h2] at h; cases h
      | some r =>
        obtain ⟨l2, c2⟩ := r
        rw [h2, Option.bind_some] at h
        cases h
        rw [rdL_enc h1, rdLs_enc h2]
        simp [encLs]
theorem rdE_enc {s : ByteArray} {a : Nat} {e : Ed} {c : Nat} (h : rdE s a = some (e, c)) : (bl s).drop a = encE e ++ (bl s).drop c := by
  unfold rdE at h
  cases h1 : rdP s a with
  | none => rw [h1] at h; cases h
  | some p =>
    obtain ⟨q, c1⟩ := p
    rw [h1, Option.bind_some] at h
    simp only at h
    have s1 := rdP_le h1
    cases h2 : rdN s c1 2 with
    | none => rw [h2] at h; cases h
    | some r =>
      obtain ⟨n, c2⟩ := r
      rw [h2, Option.bind_some] at h
      simp only at h
      have s2 := rdN_some h2
      cases h3 : rdLs s n c2 with
      | none => rw [h3] at h; cases h
      | some u =>
        obtain ⟨l, c3⟩ := u
        rw [h3, Option.bind_some] at h
        cases h
        have s3 := rdLs_le (by omega) h3
        rw [rdP_enc h1, rdN_enc h2, rdLs_enc h3]
        simp [encE, s3.2.2.1]
theorem rdEs_enc {s : ByteArray} : ∀ {n a : Nat} {l : List Ed} {c : Nat}, rdEs s n a = some (l, c) → (bl s).drop a = encEs l ++ (bl s).drop c
  | 0, a, l, c, h => by cases h; simp [encEs]
  | n + 1, a, l, c, h => by
    unfold rdEs at h
    cases h1 : rdE s a with
    | none => rw [h1] at h; cases h
    | some p =>
      obtain ⟨p, c1⟩ := p
      rw [h1, Option.bind_some] at h
      simp only at h
      cases h2 : rdEs s n c1 with
      | none => rw [h2] at h; cases h
      | some r =>
        obtain ⟨l2, c2⟩ := r
        rw [h2, Option.bind_some] at h
        cases h
        rw [rdE_enc h1, rdEs_enc h2]
        simp [encEs]
theorem rdV0_enc {s : ByteArray} {a : Nat} {v : Val} {c : Nat} (h : rdV0 s a = some (v, c)) : (bl s).drop a = encV v ++ (bl s).drop c := by
  unfold rdV0 at h
  split at h
  · cases h
  · rename_i k l hd
    split at h
    · split at h
      · cases h
      · rename_i hlt
        split at h
        · rename_i hg
          have h2 := hg.2
          cases h
          rw [h2]
          generalize (longS k l).1.toNat = n at *
          have e := cut (bl s) a (1 + n)
          rw [hd, Nat.add_comm 1 n, List.take_succ_cons] at e
          rw [hd, show a + 1 + n = a + (n + 1) from by omega]
          exact e
        · cases h
    · cases h
theorem sI_toNat {n : Nat} (hn : n < 18446744073709551616) (h : 0 ≤ sI n) : (sI n).toNat = n := by
  by_cases hb : n < 9223372036854775808
  · rw [sI_small hb]; simp
  · have : sI n < 0 := by
      unfold sI
      show (if (true && decide ((n : Int) % 18446744073709551616 ≥ 9223372036854775808)) = true then (n : Int) % 18446744073709551616 - 18446744073709551616 else (n : Int) % 18446744073709551616) < 0
      rw [Bool.true_and, if_pos (decide_eq_true (by omega))]
      omega
    omega
theorem rdM_enc {s : ByteArray} {m : Msg} {c : Nat} (h : rdM sI s = some (m, c)) (hg : msgGood m = true) : (bl s).drop 0 = encM m ++ (bl s).drop c := by
  have hnum := good_nums hg
  unfold rdM at h
  cases h1 : rdN s 0 1 with
  | none => rw [h1] at h; cases h
  | some p =>
    obtain ⟨k, a⟩ := p
    rw [h1, Option.bind_some] at h
    simp only at h
    have e1 := rdN_enc h1
    have s1 := rdN_some h1
    cases h2 : rdN s a 8 with
    | none => rw [h2] at h; cases h
    | some p2 =>
      obtain ⟨tk, b⟩ := p2
      rw [h2, Option.bind_some] at h
      simp only at h
      have e2 := rdN_enc h2
      have s2 := rdN_some h2
      have ht : tk < 18446744073709551616 := by rw [s2.2.1]; exact nAt8 s a s2.1
      rw [e1, e2]
      split at h
      · rename_i k01
        cases h3 : rdP s b with
        | none => rw [h3] at h; cases h
        | some p3 =>
          obtain ⟨q, c3⟩ := p3
          rw [h3, Option.bind_some] at h
          cases h
          rw [rdP_enc h3]
          simp only at hnum
          have hk : ((k : Int) = 0 ∨ (k : Int) = 1) := by omega
          simp only [encM, if_pos hk, Int.toNat_natCast, sI_toNat ht hnum.1, List.append_assoc]
      · rename_i k01
        have hk : ¬ ((k : Int) = 0 ∨ (k : Int) = 1) := by omega
        split at h
        · rename_i k2
          cases h3 : rdP s b with
          | none => rw [h3] at h; cases h
          | some p3 =>
            obtain ⟨q, c3⟩ := p3
            rw [h3, Option.bind_some] at h
            simp only at h
            cases h4 : rdN s c3 8 with
            | none => rw [h4] at h; cases h
            | some p4 =>
              obtain ⟨ve, c4⟩ := p4
              rw [h4, Option.bind_some] at h
              simp only at h
              have s4 := rdN_some h4
              have hv : ve < 18446744073709551616 := by rw [s4.2.1]; exact nAt8 s c3 s4.1
              cases h5 : rdV0 s c4 with
              | none => rw [h5] at h; cases h
              | some p5 =>
                obtain ⟨x, c5⟩ := p5
                rw [h5, Option.bind_some] at h
                cases h
                rw [rdP_enc h3, rdN_enc h4, rdV0_enc h5]
                simp only at hnum
                have hk2 : (k : Int) = 2 := by omega
                simp only [encM, if_neg hk, if_pos hk2, Int.toNat_natCast, sI_toNat ht hnum.1, sI_toNat hv hnum.2.2.1, List.append_assoc]
        · rename_i k2
          have hk2 : ¬ (k : Int) = 2 := by omega
          split at h
          · rename_i k3
            cases h3 : rdN s b 8 with
            | none => rw [h3] at h; cases h
            | some p3 =>
              obtain ⟨ve, c3⟩ := p3
              rw [h3, Option.bind_some] at h
              simp only at h
              have s3 := rdN_some h3
              have hv : ve < 18446744073709551616 := by rw [s3.2.1]; exact nAt8 s b s3.1
              cases h4 : rdN s c3 2 with
              | none => rw [h4] at h; cases h
              | some p4 =>
                obtain ⟨n, c4⟩ := p4
                rw [h4, Option.bind_some] at h
                simp only at h
                have s4 := rdN_some h4
                cases h5 : rdEs s n c4 with
                | none => rw [h5] at h; cases h
                | some p5 =>
                  obtain ⟨l, c5⟩ := p5
                  rw [h5, Option.bind_some] at h
                  cases h
                  have s5 := rdEs_le (by omega) h5
                  rw [rdN_enc h3, rdN_enc h4, rdEs_enc h5]
                  simp only at hnum
                  have hk3 : (k : Int) = 3 := by omega
                  simp only [encM, if_neg hk, if_neg hk2, if_pos hk3, Int.toNat_natCast, sI_toNat ht hnum.1, sI_toNat hv hnum.2.2.1, s5.2.2.1, List.append_assoc]
          · rename_i k3
            cases h
            have hk3 : ¬ (k : Int) = 3 := by omega
            simp only at hnum
            simp only [encM, if_neg hk, if_neg hk2, if_neg hk3, Int.toNat_natCast, sI_toNat ht hnum.1, List.append_assoc, List.append_nil]
/-! ### what was put, read again -/
theorem drop_at {s : ByteArray} {a : Nat} {x r : List UInt8} (h : (bl s).drop a = x ++ r) : (bl s).drop (a + x.length) = r ∧ (x ≠ [] → a + x.length ≤ s.size) := by
  constructor
  · rw [← List.drop_drop, h, List.drop_left]
  · intro hx
    have := congrArg List.length h
    rw [List.length_drop, bl_len, List.length_append] at this
    have : 0 < x.length := List.length_pos_iff.2 hx
    omega
theorem enc_rdN {s : ByteArray} {a k n : Nat} {r : List UInt8} (hk : 0 < k) (hn : n < 256 ^ k) (h : (bl s).drop a = encB n k ++ r) : rdN s a k = some (n, a + k) ∧ (bl s).drop (a + k) = r := by
  have hd := drop_at h
  rw [encB_length] at hd
  have hne : encB n k ≠ [] := by
    intro e
    have := congrArg List.length e
    rw [encB_length] at this
    simp at this
    omega
  have hle := hd.2 hne
  refine ⟨?_, hd.1⟩
  unfold rdN
  rw [if_pos hle]
  have hb : nAt s a k = n := by
    unfold nAt
    rw [bl_ext, h]
    have : (encB n k ++ r).take k = encB n k := by
      rw [List.take_append_of_le_length (by rw [encB_length]; exact Nat.le_refl _), List.take_of_length_le (by rw [encB_length]; exact Nat.le_refl _)]
    rw [this, beN_encB, Nat.mod_eq_of_lt hn]
  rw [hb]
theorem enc_rdT {s : ByteArray} {a : Nat} {x : ByteArray} {r : List UInt8} (hx : x.size ≤ 255) (h : (bl s).drop a = encS x ++ r) : rdT s a = some (x, a + (x.size + 1)) ∧ (bl s).drop (a + (x.size + 1)) = r := by
  unfold encS at h
  rw [List.append_assoc] at h
  have h1 := enc_rdN (by decide) (by omega) h
  have h2 := drop_at h1.2
  rw [bl_len] at h2
  have hle : a + 1 + x.size ≤ s.size := by
    have q := rdN_some h1.1
    by_cases hz : x.size = 0
    · omega
    · exact h2.2 (by intro e; have := congrArg List.length e; rw [bl_len, List.length_nil] at this; omega)
  refine ⟨?_, by rw [← h2.1]; congr 1; omega⟩
  unfold rdT
  rw [h1.1, Option.bind_some]
  simp only
  rw [if_pos hle]
  have he : s.extract (a + 1) (a + 1 + x.size) = x := by
    rw [← bs_bl (s.extract (a + 1) (a + 1 + x.size)), bl_ext, h1.2]
    rw [List.take_append_of_le_length (by rw [bl_len]; exact Nat.le_refl _), List.take_of_length_le (by rw [bl_len]; exact Nat.le_refl _), bs_bl]
  rw [he]
  congr 2
  omega
theorem enc_rdP {s : ByteArray} {a : Nat} {x : ByteArray} {col row : Nat} {r : List UInt8} (hx : x.size ≤ 255) (hc : col < 256) (hr : row < 65536) (h : (bl s).drop a = encP x col row ++ r) : rdP s a = some ((x, col, row), a + (x.size + 4)) ∧ (bl s).drop (a + (x.size + 4)) = r := by
  unfold encP at h
  rw [List.append_assoc, List.append_assoc] at h
  have h1 := enc_rdT hx h
  have h2 := enc_rdN (by decide) (by simpa using hc) h1.2
  have h3 := enc_rdN (by decide) (by simpa using hr) h2.2
  unfold rdP
  rw [h1.1, Option.bind_some]
  simp only
  rw [h2.1, Option.bind_some]
  simp only
  rw [h3.1, Option.bind_some]
  exact ⟨by congr 1, by rw [← h3.2]; congr 1⟩
theorem enc_rdL {s : ByteArray} {a : Nat} {p : Pl} {r : List UInt8} (hp : plOk p = true) (h : (bl s).drop a = encL p ++ r) : ∃ c, rdL s a = some (p, c) ∧ (bl s).drop c = r := by
  simp only [plOk, placedOk, nameOk, cellOk, Bool.and_eq_true, decide_eq_true_eq] at hp
  unfold encL at h
  rw [List.append_assoc] at h
  have h1 := enc_rdT (by omega) h
  have h2 := enc_rdP (by omega) (by omega) (by omega) h1.2
  refine ⟨_, ?_, h2.2⟩
  unfold rdL
  rw [h1.1, Option.bind_some]
  simp only
  rw [h2.1, Option.bind_some]
  obtain ⟨bk, sh, c, d⟩ := p
  simp only at hp ⊢
  rw [Int.toNat_of_nonneg (by omega), Int.toNat_of_nonneg (by omega)]
theorem enc_rdLs {s : ByteArray} : ∀ {l : List Pl} {a : Nat} {r : List UInt8}, (∀ p ∈ l, plOk p = true) → (bl s).drop a = encLs l ++ r → ∃ c, rdLs s l.length a = some (l, c) ∧ (bl s).drop c = r
  | [], a, r, _, h => ⟨a, rfl, by simpa [encLs] using h⟩
  | p :: l, a, r, hp, h => by
    have e : encLs (p :: l) = encL p ++ encLs l := rfl
    rw [e, List.append_assoc] at h
    obtain ⟨c, h1, h2⟩ := enc_rdL (hp p List.mem_cons_self) h
    obtain ⟨d, h3, h4⟩ := enc_rdLs (fun q hq => hp q (List.mem_cons_of_mem _ hq)) h2
    refine ⟨d, ?_, h4⟩
    rw [List.length_cons, rdLs, h1, Option.bind_some]
    simp only
    rw [h3, Option.bind_some]
theorem enc_rdE {s : ByteArray} {a : Nat} {e : Ed} {r : List UInt8} (he : edOk e = true) (h : (bl s).drop a = encE e ++ r) : ∃ c, rdE s a = some (e, c) ∧ (bl s).drop c = r := by
  simp only [edOk, Bool.and_eq_true, decide_eq_true_eq, List.all_eq_true] at he
  have hp := placed_nat he.1.2
  unfold encE at h
  rw [List.append_assoc, List.append_assoc] at h
  have h1 := enc_rdP (by omega) (by omega) (by omega) h
  have h2 := enc_rdN (by decide) (by have := he.2; omega) h1.2
  obtain ⟨c, h3, h4⟩ := enc_rdLs he.1.1 h2.2
  refine ⟨c, ?_, h4⟩
  unfold rdE
  rw [h1.1, Option.bind_some]
  simp only
  rw [h2.1, Option.bind_some]
  simp only
  rw [h3, Option.bind_some]
  obtain ⟨sh, co, ro, rs⟩ := e
  simp only at hp ⊢
  rw [Int.toNat_of_nonneg hp.1, Int.toNat_of_nonneg hp.2.2.1]
theorem enc_rdEs {s : ByteArray} : ∀ {l : List Ed} {a : Nat} {r : List UInt8}, (∀ p ∈ l, edOk p = true) → (bl s).drop a = encEs l ++ r → ∃ c, rdEs s l.length a = some (l, c) ∧ (bl s).drop c = r
  | [], a, r, _, h => ⟨a, rfl, by simpa [encEs] using h⟩
  | p :: l, a, r, hp, h => by
    have e : encEs (p :: l) = encE p ++ encEs l := rfl
    rw [e, List.append_assoc] at h
    obtain ⟨c, h1, h2⟩ := enc_rdE (hp p List.mem_cons_self) h
    obtain ⟨d, h3, h4⟩ := enc_rdEs (fun q hq => hp q (List.mem_cons_of_mem _ hq)) h2
    refine ⟨d, ?_, h4⟩
    rw [List.length_cons, rdEs, h1, Option.bind_some]
    simp only
    rw [h3, Option.bind_some]
end Go.Proofs.Ytmglahnoemgieaa.Ax
namespace Go.Proofs.Ytmglahnoemgieaa.Ax
open Go Go.RowKit
set_option linter.unusedSimpArgs false
set_option linter.unusedVariables false
set_option linter.unnecessarySimpa false
set_option maxHeartbeats 8000000
set_option maxRecDepth 4000
theorem u8_toNat (n : Int) : ((u8 n).toNat : Int) = n % 256 := (u8_eq n).symm
theorem enc_rdV {s : ByteArray} {a : Nat} {v : Val} {r : List UInt8} (hv : valOk v = true) (h : (bl s).drop a = encV v ++ r) : ∃ c, rdV s a = some (v, c) ∧ (bl s).drop c = r := by
  obtain ⟨k, n, x, b, f⟩ := v
  have hfin : ∀ (l : List UInt8) (p : Val × Nat), encV (k, n, x, b, f) ++ r = u8 k :: l → rdW (u8 k) l = some p → p.1 = (k, n, x, b, f) → p.2 = (encV (k, n, x, b, f)).length → ∃ c, rdV s a = some ((k, n, x, b, f), c) ∧ (bl s).drop c = r := by
    intro l p hl hw h1 h2
    have hd := (drop_at h).1
    refine ⟨a + p.2, ?_, by rw [h2]; exact hd⟩
    unfold rdV
    rw [h, hl]
    simp only
    rw [hw, Option.map_some, h1]
  unfold valOk vGood at hv
  simp only at hv
  by_cases k0 : k = 0
  · subst k0
    simp only [reduceIte, Bool.and_eq_true, decide_eq_true_eq, Bool.not_eq_true'] at hv
    obtain ⟨⟨⟨rfl, rfl⟩, rfl⟩, rfl⟩ := hv
    exact hfin r ((0, 0, .empty, false, 0), 1) rfl rfl rfl rfl
  rw [if_neg k0] at hv
  by_cases k1 : k = 1
  · subst k1
    simp only [reduceIte, Bool.and_eq_true, decide_eq_true_eq, Bool.not_eq_true'] at hv
    obtain ⟨⟨⟨hn, rfl⟩, rfl⟩, rfl⟩ := hv
    have hf := hn
    simp only [fitN, Bool.and_eq_true, decide_eq_true_eq] at hf
    have ht : (encB (u64 n) 8 ++ r).take 8 = encB (u64 n) 8 := by
      rw [List.take_append_of_le_length (by rw [encB_length]; exact Nat.le_refl _), List.take_of_length_le (by rw [encB_length]; exact Nat.le_refl _)]
    have hb : sI (beN (encB (u64 n) 8)) = n := by
      rw [beN_encB, Nat.mod_eq_of_lt (by simpa using u64_lt n), sI_u64 (by omega) (by omega)]
    have hlen : ¬ ((encB (u64 n) 8 ++ r).length < 8) := by rw [List.length_append, encB_length]; omega
    refine hfin (encB (u64 n) 8 ++ r) ((1, n, .empty, false, 0), 9) rfl ?_ rfl (by simp [encV, encB_length])
    unfold rdW
    rw [if_neg (by decide), if_pos (by decide), if_neg hlen, ht, hb, if_pos hn]
  rw [if_neg k1] at hv
  by_cases k2 : k = 2
  · subst k2
    simp only [reduceIte, Bool.and_eq_true, decide_eq_true_eq, Bool.not_eq_true'] at hv
    obtain ⟨⟨⟨rfl, hsz⟩, rfl⟩, rfl⟩ := hv
    have hc : (u8 x.size).toNat = x.size := by
      have := u8_toNat x.size
      omega
    refine hfin (u8 x.size :: bl x ++ r) ((2, 0, x, false, 0), 2 + x.size) rfl ?_ rfl (by simp [encV, bl_len]; omega)
    unfold rdW
    rw [if_neg (by decide), if_neg (by decide), if_pos (by decide)]
    simp only [List.cons_append]
    rw [if_neg (by rw [hc, List.length_append, bl_len]; omega), hc, List.take_append_of_le_length (by rw [bl_len]; exact Nat.le_refl _), List.take_of_length_le (by rw [bl_len]; exact Nat.le_refl _), bs_bl]
  rw [if_neg k2] at hv
  by_cases k3 : k = 3
  · subst k3
    simp only [reduceIte, Bool.and_eq_true, decide_eq_true_eq, Bool.not_eq_true'] at hv
    obtain ⟨⟨rfl, rfl⟩, rfl⟩ := hv
    cases b
    · exact hfin (u8 0 :: r) ((3, 0, .empty, false, 0), 2) rfl rfl rfl rfl
    · exact hfin (u8 1 :: r) ((3, 0, .empty, true, 0), 2) rfl rfl rfl rfl
  rw [if_neg k3] at hv
  by_cases k4 : k = 4
  · subst k4
    simp only [reduceIte, Bool.and_eq_true, decide_eq_true_eq, Bool.not_eq_true'] at hv
    obtain ⟨⟨⟨rfl, rfl⟩, rfl⟩, hf⟩ := hv
    have hf2 := hf
    simp only [isF, Bool.and_eq_true, decide_eq_true_eq] at hf2
    have hc : ((u8 f).toNat : Int) = f := by
      have := u8_toNat f
      omega
    refine hfin (u8 f :: r) ((4, 0, .empty, false, f), 2) rfl ?_ rfl rfl
    unfold rdW
    rw [if_neg (by decide), if_neg (by decide), if_neg (by decide), if_neg (by decide), if_pos (by decide)]
    simp only
    rw [hc, if_pos hf]
  · rw [if_neg k4] at hv
    cases hv
theorem enc_rdM {c8 : Nat → Int} (hc8 : ∀ n, n ≤ 9007199254740992 → c8 n = n) {s : ByteArray} {m : Msg} {r : List UInt8} (hg : msgGood m = true) (h : bl s = encM m ++ r) : ∃ c, rdM c8 s = some (m, c) ∧ (bl s).drop c = r := by
  have hnum := good_nums hg
  have hk := good_kind hg
  have hd0 : (bl s).drop 0 = encM m ++ r := by rw [List.drop_zero]; exact h
  unfold encM at hd0
  rw [List.append_assoc, List.append_assoc] at hd0
  have h1 := enc_rdN (by decide) (by omega) hd0
  have h2 := enc_rdN (by decide) (by omega) h1.2
  unfold rdM
  rw [h1.1, Option.bind_some]
  simp only
  rw [h2.1, Option.bind_some]
  simp only
  have ht : c8 m.ticket.toNat = m.ticket := by rw [hc8 _ (by omega), Int.toNat_of_nonneg hnum.1]
  have hkk : ((m.kind.toNat : Nat) : Int) = m.kind := Int.toNat_of_nonneg hk.1
  rw [ht, hkk]
  have hg2 := hg
  simp only [msgGood, Bool.and_eq_true] at hg2
  have hg3 := hg2.2
  have h3 := h2.2
  by_cases k01 : m.kind = 0 ∨ m.kind = 1
  · rw [if_pos k01] at h3
    rw [if_pos (by omega)]
    have hpl : placedOk m.sheet m.col m.row = true ∧ bareM m = true := by
      rcases k01 with q | q <;> simpa [q] using hg3
    have hp := placed_nat hpl.1
    have hb := hpl.2
    simp only [bareM, zeroV, Bool.and_eq_true, decide_eq_true_eq] at hb
    have h4 := enc_rdP (by omega) (by omega) (by omega) h3
    rw [h4.1, Option.bind_some]
    refine ⟨_, ?_, h4.2⟩
    obtain ⟨k, tk, sh, co, ro, ve, v, es⟩ := m
    obtain ⟨v1, v2, v3, v4, v5⟩ := v
    simp only at hb hp ⊢
    obtain ⟨⟨rfl, rfl, rfl, rfl, rfl, rfl⟩, hes⟩ := hb
    rw [List.eq_nil_of_length_eq_zero hes, Int.toNat_of_nonneg hp.1, Int.toNat_of_nonneg hp.2.2.1]
  rw [if_neg k01] at h3
  rw [if_neg (by omega)]
  by_cases k2 : m.kind = 2
  · rw [if_pos k2] at h3
    rw [if_pos (by omega)]
    have hpl : (placedOk m.sheet m.col m.row = true ∧ valOk m.v = true) ∧ m.edges.length = 0 := by simpa [k2] using hg3
    have hp := placed_nat hpl.1.1
    rw [List.append_assoc, List.append_assoc] at h3
    have h4 := enc_rdP (by omega) (by omega) (by omega) h3
    have h5 := enc_rdN (by decide) (by omega) h4.2
    obtain ⟨c, h6, h7⟩ := enc_rdV hpl.1.2 h5.2
    rw [h4.1, Option.bind_some]
    simp only
    rw [h5.1, Option.bind_some]
    simp only
    rw [rdV0_eq, h6, Option.bind_some]
    refine ⟨c, ?_, h7⟩
    have hve : c8 m.ver.toNat = m.ver := by rw [hc8 _ (by omega), Int.toNat_of_nonneg hnum.2.2.1]
    rw [hve]
    obtain ⟨k, tk, sh, co, ro, ve, v, es⟩ := m
    simp only at hpl hp ⊢
    rw [List.eq_nil_of_length_eq_zero hpl.2, Int.toNat_of_nonneg hp.1, Int.toNat_of_nonneg hp.2.2.1]
  rw [if_neg k2] at h3
  rw [if_neg (by omega)]
  by_cases k3 : m.kind = 3
  · rw [if_pos k3] at h3
    rw [if_pos (by omega)]
    have hv : ((m.edges.all edOk = true ∧ nowhere m = true) ∧ zeroV m.v = true) ∧ m.edges.length ≤ 4096 := by
      rw [k3] at hg3
      simpa only [Bool.and_eq_true, decide_eq_true_eq, show ¬ ((3:Int) = 0) from by decide, show ¬ ((3:Int) = 1) from by decide, show ¬ ((3:Int) = 2) from by decide, reduceIte] using hg3
    rw [List.append_assoc, List.append_assoc] at h3
    have h4 := enc_rdN (by decide) (by omega) h3
    have h5 := enc_rdN (by decide) (by omega) h4.2
    obtain ⟨c, h6, h7⟩ := enc_rdEs (fun e he => by simpa using List.all_eq_true.1 hv.1.1.1 e he) h5.2
    rw [h4.1, Option.bind_some]
    simp only
    rw [h5.1, Option.bind_some]
    simp only
    rw [h6, Option.bind_some]
    refine ⟨c, ?_, h7⟩
    have hve : c8 m.ver.toNat = m.ver := by rw [hc8 _ (by omega), Int.toNat_of_nonneg hnum.2.2.1]
    rw [hve]
    have hnw := hv.1.1.2
    have hz := hv.1.2
    obtain ⟨k, tk, sh, co, ro, ve, v, es⟩ := m
    obtain ⟨v1, v2, v3, v4, v5⟩ := v
    simp only [nowhere, zeroV, Bool.and_eq_true, decide_eq_true_eq] at hnw hz
    obtain ⟨rfl, rfl, rfl⟩ := hnw
    obtain ⟨rfl, rfl, rfl, rfl, rfl⟩ := hz
    rfl
  · rw [if_neg k3] at h3
    rw [if_neg (by omega)]
    have k4 : m.kind = 4 := by omega
    have hv : nowhere m = true ∧ bareM m = true := by simpa [k4] using hg3
    refine ⟨_, ?_, by simpa using h3⟩
    have hnw := hv.1
    have hb := hv.2
    obtain ⟨k, tk, sh, co, ro, ve, v, es⟩ := m
    obtain ⟨v1, v2, v3, v4, v5⟩ := v
    simp only [nowhere, bareM, zeroV, Bool.and_eq_true, decide_eq_true_eq] at hnw hb
    obtain ⟨rfl, rfl, rfl⟩ := hnw
    obtain ⟨⟨rfl, rfl, rfl, rfl, rfl, rfl⟩, hes⟩ := hb
    simp only
    rw [List.eq_nil_of_length_eq_zero hes]
/-- a message's bytes, and no others, are read as it -/
theorem getM_iff {s : ByteArray} {m : Msg} : getM s = some m ↔ msgGood m = true ∧ bs (encM m) = s := by
  unfold getM
  constructor
  · intro h
    cases hr : rdM sI s with
    | none => rw [hr] at h; cases h
    | some p =>
      obtain ⟨m', c⟩ := p
      rw [hr, Option.bind_some] at h
      simp only at h
      split at h
      · rename_i hc
        cases h
        have := rdM_enc hr hc.2
        rw [List.drop_zero, hc.1, List.drop_eq_nil_of_le (by rw [bl_len]; exact Nat.le_refl _), List.append_nil] at this
        exact ⟨hc.2, by rw [← this, bs_bl]⟩
      · cases h
  · rintro ⟨hg, he⟩
    obtain ⟨c, h1, h2⟩ := enc_rdM (c8 := sI) (s := s) (r := []) (fun n hn => sI_small (by omega)) hg (by rw [← he, bl_bs, List.append_nil])
    rw [h1, Option.bind_some]
    simp only
    have hcs : c = s.size := by
      have hle : s.size ≤ c := by
        have := congrArg List.length h2
        rw [List.length_drop, bl_len, List.length_nil] at this
        omega
      have : c ≤ s.size := by
        unfold rdM at h1
        cases g1 : rdN s 0 1 with
        | none => rw [g1] at h1; cases h1
        | some p1 =>
          obtain ⟨k, a⟩ := p1
          rw [g1, Option.bind_some] at h1
          simp only at h1
          cases g2 : rdN s a 8 with
          | none => rw [g2] at h1; cases h1
          | some p2 =>
            obtain ⟨tk, b⟩ := p2
            rw [g2, Option.bind_some] at h1
            simp only at h1
            have l2 := rdN_le g2
            split at h1
            · cases g3 : rdP s b with
              | none => rw [g3] at h1; cases h1
              | some p3 =>
                obtain ⟨q, d⟩ := p3
                rw [g3, Option.bind_some] at h1
                cases h1
                exact (rdP_le g3).1
            · split at h1
              · cases g3 : rdP s b with
                | none => rw [g3] at h1; cases h1
                | some p3 =>
                  obtain ⟨q, d⟩ := p3
                  rw [g3, Option.bind_some] at h1
                  simp only at h1
                  cases g4 : rdN s d 8 with
                  | none => rw [g4] at h1; cases h1
                  | some p4 =>
                    obtain ⟨ve, d4⟩ := p4
                    rw [g4, Option.bind_some] at h1
                    simp only at h1
                    cases g5 : rdV0 s d4 with
                    | none => rw [g5] at h1; cases h1
                    | some p5 =>
                      obtain ⟨x, d5⟩ := p5
                      rw [g5, Option.bind_some] at h1
                      cases h1
                      exact (rdV0_le g5).1
              · split at h1
                · cases g3 : rdN s b 8 with
                  | none => rw [g3] at h1; cases h1
                  | some p3 =>
                    obtain ⟨ve, d⟩ := p3
                    rw [g3, Option.bind_some] at h1
                    simp only at h1
                    cases g4 : rdN s d 2 with
                    | none => rw [g4] at h1; cases h1
                    | some p4 =>
                      obtain ⟨n, d4⟩ := p4
                      rw [g4, Option.bind_some] at h1
                      simp only at h1
                      cases g5 : rdEs s n d4 with
                      | none => rw [g5] at h1; cases h1
                      | some p5 =>
                        obtain ⟨l, d5⟩ := p5
                        rw [g5, Option.bind_some] at h1
                        cases h1
                        exact (rdEs_le (rdN_le g4).1 g5).1
                · cases h1
                  exact l2.1
      omega
    rw [if_pos ⟨hcs, hg⟩]
/-- the document reads the same -/
theorem getR_iff {s : ByteArray} {m : Msg} : (∃ c, rdM refI s = some (m, c) ∧ msgGood m = true ∧ bs (encM m) = s) ↔ getM s = some m := by
  rw [getM_iff]
  constructor
  · rintro ⟨c, h1, h2, h3⟩; exact ⟨h2, h3⟩
  · rintro ⟨h2, h3⟩
    obtain ⟨c, h1, _⟩ := enc_rdM (c8 := refI) (s := s) (r := []) (fun n hn => refI_small (by omega)) h2 (by rw [← h3, bl_bs, List.append_nil])
    exact ⟨c, h1, h2, h3⟩
end Go.Proofs.Ytmglahnoemgieaa.Ax
namespace Go.Proofs.Ytmglahnoemgieaa.Ax
open Go Go.RowKit
set_option linter.unusedSimpArgs false
set_option linter.unusedVariables false
set_option linter.unnecessarySimpa false
set_option maxHeartbeats 8000000
set_option maxRecDepth 4000
variable {w0 : World} {t : Option Gf}
/-- a text's first bytes -/
def cutN (n : Nat) (s : ByteArray) : ByteArray := s.extract 0 (min s.size n)
theorem cutN_size (n : Nat) (s : ByteArray) : (cutN n s).size = min s.size n := by
  unfold cutN
  rw [ext_size]
  omega
theorem cut_min (n : Nat) (s : ByteArray) : (if (n : Int) < (s.size : Int) then (n : Int) else (s.size : Int)) = ((min s.size n : Nat) : Int) := by
  split <;> omega
theorem cut_sl (n : Nat) (s : ByteArray) : p2 Try.prog (.val (.string s)) (.val (.int .i64 ((min s.size n : Nat) : Int))) (fun x y => Instr.sliceAt 9 x none (some y) none) = some (.done (vS (cutN n s))) :=
  sl_str_h (P := Try.prog) (t := 9) (s := s) (k := .i64) (n := ((min s.size n : Nat) : Int)) Try.underlying9 (by omega) (by omega)
theorem f21 (bk sh : ByteArray) (a c : Int) (h : H) : acallI (cfg w0 t) 21 [.agg [vS bk, vS sh, vI a, vI c]] h = some (.ret (.agg [vS (cutN 20 bk), vS (cutN 20 sh), vI a, vI c]), h, none) := by
  rw [E21]
  have m1 := cut_min 20 bk
  have m2 := cut_min 20 sh
  have s1 := cut_sl 20 bk
  have s2 := cut_sl 20 sh
  rw [show ((20 : Nat) : Int) = 20 from rfl] at m1 m2
  dsimp only [Try.f21, Option.getD]
  simp only [reduceIte, reduceCtorEq, Nat.reduceAdd, Nat.reduceMul, Nat.reduceSub, Nat.reduceEqDiff, Nat.reduceLT, Nat.reduceLeDiff, Nat.reduceBEq, Int.reduceLT, Int.reduceLE, Int.reduceEq,
    Int.reduceNe, Int.reduceAdd, Int.reduceSub, Int.reduceMul, Int.reduceToNat, push_cast, locGet, locSet, nextGen, len_str Try.underlying9, m1, m2, s1, s2, pairsOk]
theorem f20 (k n : Int) (s : ByteArray) (b : Bool) (f : Int) (h : H) : acallI (cfg w0 t) 20 [.agg (vV k n s b f)] h = some (.ret (.tup [.agg (vV k n (cutN 300 s) b f), .agg (vV k n (cutN 300 s) b f)]), h, none) := by
  rw [E20]
  have m1 := cut_min 300 s
  have s1 := cut_sl 300 s
  rw [show ((300 : Nat) : Int) = 300 from rfl] at m1
  dsimp only [Try.f20, Option.getD]
  simp only [reduceIte, reduceCtorEq, Nat.reduceAdd, Nat.reduceMul, Nat.reduceSub, Nat.reduceEqDiff, Nat.reduceLT, Nat.reduceLeDiff, Nat.reduceBEq, Int.reduceLT, Int.reduceLE, Int.reduceEq,
    Int.reduceNe, Int.reduceAdd, Int.reduceSub, Int.reduceMul, Int.reduceToNat, push_cast, locGet, locSet, nextGen, len_str Try.underlying9, m1, s1, pairsOk]
/-- are two values the same? -/
def sameV (v w : Val) : Bool := decide (v.1 = w.1) && (decide (v.2.1 = w.2.1) && (decide (v.2.2.1 = w.2.2.1) && (decide (v.2.2.2.1 = w.2.2.2.1) && decide (v.2.2.2.2 = w.2.2.2.2))))
theorem sameV_iff {v w : Val} : sameV v w = true ↔ v = w := by
  obtain ⟨a, b, c, d, e⟩ := v
  obtain ⟨a', b', c', d', e'⟩ := w
  simp [sameV]
theorem f46 (v w : Val) (h : H) : acallI (cfg w0 t) 46 [vOf v, vOf w] h = some (.ret (vB (sameV v w)), h, none) := by
  rw [E46]
  unfold sameV
  dsimp only [Try.f46, Option.getD]
  by_cases h1 : v.1 = w.1
  · by_cases h2 : v.2.1 = w.2.1
    · by_cases h3 : v.2.2.1 = w.2.2.1
      · by_cases h4 : v.2.2.2.1 = w.2.2.2.1
        · simp only [reduceIte, reduceCtorEq, Nat.reduceAdd, Nat.reduceMul, Nat.reduceSub, Nat.reduceEqDiff, Nat.reduceLT, Nat.reduceLeDiff, Nat.reduceBEq, Int.reduceLT, Int.reduceLE, Int.reduceEq,
    Int.reduceNe, Int.reduceAdd, Int.reduceSub, Int.reduceMul, Int.reduceToNat, push_cast, pairsOk, locGet, locSet, nextGen, p2_int, intBin, p2_str, strBin, p2_bool Try.underlying4, h1, h2, h3, h4]
        · simp only [reduceIte, reduceCtorEq, Nat.reduceAdd, Nat.reduceMul, Nat.reduceSub, Nat.reduceEqDiff, Nat.reduceLT, Nat.reduceLeDiff, Nat.reduceBEq, Int.reduceLT, Int.reduceLE, Int.reduceEq,
    Int.reduceNe, Int.reduceAdd, Int.reduceSub, Int.reduceMul, Int.reduceToNat, push_cast, pairsOk, locGet, locSet, nextGen, p2_int, intBin, p2_str, strBin, p2_bool Try.underlying4, h1, h2, h3, h4]
      · simp only [reduceIte, reduceCtorEq, Nat.reduceAdd, Nat.reduceMul, Nat.reduceSub, Nat.reduceEqDiff, Nat.reduceLT, Nat.reduceLeDiff, Nat.reduceBEq, Int.reduceLT, Int.reduceLE, Int.reduceEq,
    Int.reduceNe, Int.reduceAdd, Int.reduceSub, Int.reduceMul, Int.reduceToNat, push_cast, pairsOk, locGet, locSet, nextGen, p2_int, intBin, p2_str, strBin, p2_bool Try.underlying4, h1, h2, h3]
    · simp only [reduceIte, reduceCtorEq, Nat.reduceAdd, Nat.reduceMul, Nat.reduceSub, Nat.reduceEqDiff, Nat.reduceLT, Nat.reduceLeDiff, Nat.reduceBEq, Int.reduceLT, Int.reduceLE, Int.reduceEq,
    Int.reduceNe, Int.reduceAdd, Int.reduceSub, Int.reduceMul, Int.reduceToNat, push_cast, pairsOk, locGet, locSet, nextGen, p2_int, intBin, p2_str, strBin, p2_bool Try.underlying4, h1, h2]
  · simp only [reduceIte, reduceCtorEq, Nat.reduceAdd, Nat.reduceMul, Nat.reduceSub, Nat.reduceEqDiff, Nat.reduceLT, Nat.reduceLeDiff, Nat.reduceBEq, Int.reduceLT, Int.reduceLE, Int.reduceEq,
    Int.reduceNe, Int.reduceAdd, Int.reduceSub, Int.reduceMul, Int.reduceToNat, push_cast, pairsOk, locGet, locSet, nextGen, p2_int, intBin, p2_str, strBin, p2_bool Try.underlying4, h1]
end Go.Proofs.Ytmglahnoemgieaa.Ax
namespace Go.Proofs.Ytmglahnoemgieaa.Ax
open Go Go.RowKit
set_option linter.unusedSimpArgs false
set_option linter.unusedVariables false
set_option linter.unnecessarySimpa false
set_option maxHeartbeats 8000000
set_option maxRecDepth 4000
variable {w0 : World} {t : Option Gf}
def sameL (p q : Pl) : Bool := decide (p.book = q.book) && (decide (p.sheet = q.sheet) && (decide (p.col = q.col) && decide (p.row = q.row)))
def sameLs : List Pl → List Pl → Bool
  | [], [] => true
  | p :: l, q :: r => sameL p q && sameLs l r
  | _, _ => false
theorem sameL_iff {p q : Pl} : sameL p q = true ↔ p = q := by
  obtain ⟨a, b, c, d⟩ := p
  obtain ⟨a', b', c', d'⟩ := q
  simp [sameL]
theorem sameLs_iff {l r : List Pl} : sameLs l r = true ↔ l = r := by
  induction l generalizing r with
  | nil => cases r <;> simp [sameLs]
  | cons p l ih =>
    cases r with
    | nil => simp [sameLs]
    | cons q r => simp [sameLs, ih, sameL_iff]
def R19i (h : H) (loc0 : Loc) (F : Nat → AV) (ok : Bool) (R : Option (Ex × S)) : Prop :=
  ∃ F' loc', R = some (if ok then .exit 2 else .ret, ⟨fl 162 F', loc', h, none⟩) ∧ (ok = false → F' 4 = vB false) ∧ (ok = true → F' 2 = F 2 ∧ F' 3 = F 3 ∧ F' 74 = F 74 ∧ F' 75 = F 75 ∧ F' 76 = F 76 ∧ locGet loc' 2 = locGet loc0 2 ∧ locGet loc' 3 = locGet loc0 3)
theorem R19i.step {h : H} {loc0 loc : Loc} {F0 F : Nat → AV} {ok : Bool} {R : Option (Ex × S)} (k : R19i h loc F ok R) (h2 : F 2 = F0 2) (h3 : F 3 = F0 3) (h74 : F 74 = F0 74) (h75 : F 75 = F0 75) (h76 : F 76 = F0 76) (l2 : locGet loc 2 = locGet loc0 2) (l3 : locGet loc 3 = locGet loc0 3) : R19i h loc0 F0 ok R := by
  obtain ⟨F', loc', k1, k2, k3⟩ := k
  refine ⟨F', loc', k1, k2, fun e => ?_⟩
  obtain ⟨q1, q2, q3, q4, q5, q6, q7⟩ := k3 e
  exact ⟨q1.trans h2, q2.trans h3, q3.trans h74, q4.trans h75, q5.trans h76, q6.trans l2, q7.trans l3⟩
theorem L19i (h : H) (l1 l2 : List Pl) (hlen : l2.length = l1.length) (hsm : l1.length ≤ 9223372036854775807) (b1 g1 b2 g2 : Nat) (k1 k2 : Blk) (hb1 : h[b1]? = some k1) (hg1 : k1.gen = g1) (hk1 : k1.cells = plsC l1) (hb2 : h[b2]? = some k2) (hg2 : k2.gen = g2) (hk2 : k2.cells = plsC l2)
    (g : Nat) (c0 c1 c2 c3 : AV) : ∀ (n j : Nat) (F : Nat → AV) (loc : Loc), j + n = l1.length →
    F 7 = .bx 7 g 0 → locGet loc 7 = some (g, .cells [c0, c1, c2, c3, .sl b2 g2 0 l2.length 4]) → F 120 = .sl b1 g1 0 l1.length 4 → F 121 = vI l1.length → F 122 = vI j →
    R19i h loc F (sameLs (l1.drop j) (l2.drop j)) (acodeI (cfg w0 t) 19 (.loop (lp Try.f19 1)) ⟨fl 162 F, loc, h, none⟩) := by
  dsimp only [lp, loopsOf, Try.f19, Option.getD, List.append_eq, List.nil_append, List.cons_append, List.getElem?_cons_zero, List.getElem?_cons_succ]
  intro n
  induction n with
  | zero =>
    intro j F loc hj h7 hl h120 h121 h122
    have e : ¬ ((j : Int) < l1.length) := by omega
    have hn1 : l1.drop j = [] := List.drop_eq_nil_of_le (by omega)
    have hn2 : l2.drop j = [] := List.drop_eq_nil_of_le (by omega)
    rw [hn1, hn2, X_loop, show sameLs [] [] = true from rfl]
    simp only [reduceIte, reduceCtorEq, Nat.reduceAdd, Nat.reduceMul, Nat.reduceSub, Nat.reduceEqDiff, Nat.reduceLT, Nat.reduceLeDiff, Nat.reduceBEq, Int.reduceLT, Int.reduceLE, Int.reduceEq,
    Int.reduceNe, Int.reduceAdd, Int.reduceSub, Int.reduceMul, Int.reduceToNat, push_cast, pairsOk, locGet_set, p2_int, intBin, h7, h120, h121, h122, e]
    exact ⟨_, _, rfl, fun k => (by cases k), fun _ => ⟨by simp only [reduceIte, reduceCtorEq, Nat.reduceAdd, Nat.reduceMul, Nat.reduceSub, Nat.reduceEqDiff, Nat.reduceLT, Nat.reduceLeDiff, Nat.reduceBEq, Int.reduceLT, Int.reduceLE, Int.reduceEq,
    Int.reduceNe, Int.reduceAdd, Int.reduceSub, Int.reduceMul, Int.reduceToNat, push_cast, pairsOk, locGet_set], by simp only [reduceIte, reduceCtorEq, Nat.reduceAdd, Nat.reduceMul, Nat.reduceSub, Nat.reduceEqDiff, Nat.reduceLT, Nat.reduceLeDiff, Nat.reduceBEq, Int.reduceLT, Int.reduceLE, Int.reduceEq,
    Int.reduceNe, Int.reduceAdd, Int.reduceSub, Int.reduceMul, Int.reduceToNat, push_cast, pairsOk, locGet_set], by simp only [reduceIte, reduceCtorEq, Nat.reduceAdd, Nat.reduceMul, Nat.reduceSub, Nat.reduceEqDiff, Nat.reduceLT, Nat.reduceLeDiff, Nat.reduceBEq, Int.reduceLT, Int.reduceLE, Int.reduceEq,
    Int.reduceNe, Int.reduceAdd, Int.reduceSub, Int.reduceMul, Int.reduceToNat, push_cast, pairsOk, locGet_set], by simp only [reduceIte, reduceCtorEq, Nat.reduceAdd, Nat.reduceMul, Nat.reduceSub, Nat.reduceEqDiff, Nat.reduceLT, Nat.reduceLeDiff, Nat.reduceBEq, Int.reduceLT, Int.reduceLE, Int.reduceEq,
    Int.reduceNe, Int.reduceAdd, Int.reduceSub, Int.reduceMul, Int.reduceToNat, push_cast, pairsOk, locGet_set], by simp only [reduceIte, reduceCtorEq, Nat.reduceAdd, Nat.reduceMul, Nat.reduceSub, Nat.reduceEqDiff, Nat.reduceLT, Nat.reduceLeDiff, Nat.reduceBEq, Int.reduceLT, Int.reduceLE, Int.reduceEq,
    Int.reduceNe, Int.reduceAdd, Int.reduceSub, Int.reduceMul, Int.reduceToNat, push_cast, pairsOk, locGet_set], rfl, rfl⟩⟩
  | succ n ih =>
    intro j F loc hj h7 hl h120 h121 h122
    have e : (j : Int) < l1.length := by omega
    have e2 : (j : Int) < l2.length := by omega
    have hlt : j < l1.length := by omega
    have hlt2 : j < l2.length := by omega
    have hp : l1[j]? = some l1[j] := List.getElem?_eq_getElem hlt
    have hq : l2[j]? = some l2[j] := List.getElem?_eq_getElem hlt2
    have hdr := List.drop_eq_getElem_cons hlt
    have hdr2 := List.drop_eq_getElem_cons hlt2
    obtain ⟨hld1, hld⟩ := load_pl hb1 hk1 hp
    obtain ⟨hld3, hld4⟩ := load_pl hb2 hk2 hq
    have hw : IntKind.i64.wrap ((j : Int) + 1) = ((j + 1 : Nat) : Int) := by rw [wrap_i64] <;> omega
    have hn : (0 : Int) ≤ j := by omega
    have ih := ih (j + 1)
    rw [hdr, hdr2, show ∀ (p q : Pl) l r, sameLs (p :: l) (q :: r) = (sameL p q && sameLs l r) from fun _ _ _ _ => rfl, X_loop]
    generalize l1[j] = p at hld
    generalize l2[j] = q at hld4
    unfold plC at hld hld4
    unfold sameL
    by_cases a1 : p.book = q.book
    · by_cases a2 : p.sheet = q.sheet
      · by_cases a3 : p.col = q.col
        · by_cases a4 : p.row = q.row
          · simp only [reduceIte, reduceCtorEq, Nat.reduceAdd, Nat.reduceMul, Nat.reduceSub, Nat.reduceEqDiff, Nat.reduceLT, Nat.reduceLeDiff, Nat.reduceBEq, Int.reduceLT, Int.reduceLE, Int.reduceEq,
    Int.reduceNe, Int.reduceAdd, Int.reduceSub, Int.reduceMul, Int.reduceToNat, push_cast, pairsOk, locGet_set, p2_int, intBin, p2_str, strBin, idx_sl elemSize_83, idx_sl elemSize_86, hn, h7, hl, h120, h121, h122, e, e2, hb1, hg1, hb2, hg2, hld1, hld, hld3, hld4, a1, a2, a3, a4, hw]
            refine R19i.step (ih _ _ (by omega) ?_ ?_ ?_ ?_ ?_) ?_ ?_ ?_ ?_ ?_ ?_ ?_ <;> simp only [reduceIte, reduceCtorEq, Nat.reduceAdd, Nat.reduceMul, Nat.reduceSub, Nat.reduceEqDiff, Nat.reduceLT, Nat.reduceLeDiff, Nat.reduceBEq, Int.reduceLT, Int.reduceLE, Int.reduceEq,
    Int.reduceNe, Int.reduceAdd, Int.reduceSub, Int.reduceMul, Int.reduceToNat, push_cast, pairsOk, locGet_set, h7, hl, h120, h121]
          · simp only [reduceIte, reduceCtorEq, Nat.reduceAdd, Nat.reduceMul, Nat.reduceSub, Nat.reduceEqDiff, Nat.reduceLT, Nat.reduceLeDiff, Nat.reduceBEq, Int.reduceLT, Int.reduceLE, Int.reduceEq,
    Int.reduceNe, Int.reduceAdd, Int.reduceSub, Int.reduceMul, Int.reduceToNat, push_cast, pairsOk, locGet_set, p2_int, intBin, p2_str, strBin, idx_sl elemSize_83, idx_sl elemSize_86, hn, h7, hl, h120, h121, h122, e, e2, hb1, hg1, hb2, hg2, hld1, hld, hld3, hld4, a1, a2, a3, a4]
            exact ⟨_, _, rfl, fun _ => by simp only [reduceIte, reduceCtorEq, Nat.reduceAdd, Nat.reduceMul, Nat.reduceSub, Nat.reduceEqDiff, Nat.reduceLT, Nat.reduceLeDiff, Nat.reduceBEq, Int.reduceLT, Int.reduceLE, Int.reduceEq,
    Int.reduceNe, Int.reduceAdd, Int.reduceSub, Int.reduceMul, Int.reduceToNat, push_cast, pairsOk, locGet_set], fun k => (by cases k)⟩
        · simp only [reduceIte, reduceCtorEq, Nat.reduceAdd, Nat.reduceMul, Nat.reduceSub, Nat.reduceEqDiff, Nat.reduceLT, Nat.reduceLeDiff, Nat.reduceBEq, Int.reduceLT, Int.reduceLE, Int.reduceEq,
    Int.reduceNe, Int.reduceAdd, Int.reduceSub, Int.reduceMul, Int.reduceToNat, push_cast, pairsOk, locGet_set, p2_int, intBin, p2_str, strBin, idx_sl elemSize_83, idx_sl elemSize_86, hn, h7, hl, h120, h121, h122, e, e2, hb1, hg1, hb2, hg2, hld1, hld, hld3, hld4, a1, a2, a3]
          exact ⟨_, _, rfl, fun _ => by simp only [reduceIte, reduceCtorEq, Nat.reduceAdd, Nat.reduceMul, Nat.reduceSub, Nat.reduceEqDiff, Nat.reduceLT, Nat.reduceLeDiff, Nat.reduceBEq, Int.reduceLT, Int.reduceLE, Int.reduceEq,
    Int.reduceNe, Int.reduceAdd, Int.reduceSub, Int.reduceMul, Int.reduceToNat, push_cast, pairsOk, locGet_set], fun k => (by cases k)⟩
      · simp only [reduceIte, reduceCtorEq, Nat.reduceAdd, Nat.reduceMul, Nat.reduceSub, Nat.reduceEqDiff, Nat.reduceLT, Nat.reduceLeDiff, Nat.reduceBEq, Int.reduceLT, Int.reduceLE, Int.reduceEq,
    Int.reduceNe, Int.reduceAdd, Int.reduceSub, Int.reduceMul, Int.reduceToNat, push_cast, pairsOk, locGet_set, p2_int, intBin, p2_str, strBin, idx_sl elemSize_83, idx_sl elemSize_86, hn, h7, hl, h120, h121, h122, e, e2, hb1, hg1, hb2, hg2, hld1, hld, hld3, hld4, a1, a2]
        exact ⟨_, _, rfl, fun _ => by simp only [reduceIte, reduceCtorEq, Nat.reduceAdd, Nat.reduceMul, Nat.reduceSub, Nat.reduceEqDiff, Nat.reduceLT, Nat.reduceLeDiff, Nat.reduceBEq, Int.reduceLT, Int.reduceLE, Int.reduceEq,
    Int.reduceNe, Int.reduceAdd, Int.reduceSub, Int.reduceMul, Int.reduceToNat, push_cast, pairsOk, locGet_set], fun k => (by cases k)⟩
    · simp only [reduceIte, reduceCtorEq, Nat.reduceAdd, Nat.reduceMul, Nat.reduceSub, Nat.reduceEqDiff, Nat.reduceLT, Nat.reduceLeDiff, Nat.reduceBEq, Int.reduceLT, Int.reduceLE, Int.reduceEq,
    Int.reduceNe, Int.reduceAdd, Int.reduceSub, Int.reduceMul, Int.reduceToNat, push_cast, pairsOk, locGet_set, p2_int, intBin, p2_str, strBin, idx_sl elemSize_83, idx_sl elemSize_86, hn, h7, hl, h120, h121, h122, e, e2, hb1, hg1, hb2, hg2, hld1, hld, hld3, hld4, a1]
      exact ⟨_, _, rfl, fun _ => by simp only [reduceIte, reduceCtorEq, Nat.reduceAdd, Nat.reduceMul, Nat.reduceSub, Nat.reduceEqDiff, Nat.reduceLT, Nat.reduceLeDiff, Nat.reduceBEq, Int.reduceLT, Int.reduceLE, Int.reduceEq,
    Int.reduceNe, Int.reduceAdd, Int.reduceSub, Int.reduceMul, Int.reduceToNat, push_cast, pairsOk, locGet_set], fun k => (by cases k)⟩
theorem L19z (h : H) (F : Nat → AV) (loc : Loc) (h121 : F 121 = vI 0) (h122 : F 122 = vI 0) : R19i h loc F true (acodeI (cfg w0 t) 19 (.loop (lp Try.f19 1)) ⟨fl 162 F, loc, h, none⟩) := by
  dsimp only [lp, loopsOf, Try.f19, Option.getD, List.append_eq, List.nil_append, List.cons_append, List.getElem?_cons_zero, List.getElem?_cons_succ]
  rw [X_loop]
  simp only [reduceIte, reduceCtorEq, Nat.reduceAdd, Nat.reduceMul, Nat.reduceSub, Nat.reduceEqDiff, Nat.reduceLT, Nat.reduceLeDiff, Nat.reduceBEq, Int.reduceLT, Int.reduceLE, Int.reduceEq,
    Int.reduceNe, Int.reduceAdd, Int.reduceSub, Int.reduceMul, Int.reduceToNat, push_cast, pairsOk, locGet_set, p2_int, intBin, h121, h122]
  exact ⟨_, _, rfl, fun k => (by cases k), fun _ => ⟨by simp only [reduceIte, reduceCtorEq, Nat.reduceAdd, Nat.reduceMul, Nat.reduceSub, Nat.reduceEqDiff, Nat.reduceLT, Nat.reduceLeDiff, Nat.reduceBEq, Int.reduceLT, Int.reduceLE, Int.reduceEq,
    Int.reduceNe, Int.reduceAdd, Int.reduceSub, Int.reduceMul, Int.reduceToNat, push_cast, pairsOk, locGet_set], by simp only [reduceIte, reduceCtorEq, Nat.reduceAdd, Nat.reduceMul, Nat.reduceSub, Nat.reduceEqDiff, Nat.reduceLT, Nat.reduceLeDiff, Nat.reduceBEq, Int.reduceLT, Int.reduceLE, Int.reduceEq,
    Int.reduceNe, Int.reduceAdd, Int.reduceSub, Int.reduceMul, Int.reduceToNat, push_cast, pairsOk, locGet_set], by simp only [reduceIte, reduceCtorEq, Nat.reduceAdd, Nat.reduceMul, Nat.reduceSub, Nat.reduceEqDiff, Nat.reduceLT, Nat.reduceLeDiff, Nat.reduceBEq, Int.reduceLT, Int.reduceLE, Int.reduceEq,
    Int.reduceNe, Int.reduceAdd, Int.reduceSub, Int.reduceMul, Int.reduceToNat, push_cast, pairsOk, locGet_set], by simp only [reduceIte, reduceCtorEq, Nat.reduceAdd, Nat.reduceMul, Nat.reduceSub, Nat.reduceEqDiff, Nat.reduceLT, Nat.reduceLeDiff, Nat.reduceBEq, Int.reduceLT, Int.reduceLE, Int.reduceEq,
    Int.reduceNe, Int.reduceAdd, Int.reduceSub, Int.reduceMul, Int.reduceToNat, push_cast, pairsOk, locGet_set], by simp only [reduceIte, reduceCtorEq, Nat.reduceAdd, Nat.reduceMul, Nat.reduceSub, Nat.reduceEqDiff, Nat.reduceLT, Nat.reduceLeDiff, Nat.reduceBEq, Int.reduceLT, Int.reduceLE, Int.reduceEq,
    Int.reduceNe, Int.reduceAdd, Int.reduceSub, Int.reduceMul, Int.reduceToNat, push_cast, pairsOk, locGet_set], rfl, rfl⟩⟩
theorem L19 (h : H) (l1 l2 : List Pl) (hlen : l2.length = l1.length) (hsm : l1.length ≤ 9223372036854775807) (rv1 rv2 : AV) (hS1 : SlR h rv1 (plsC l1) l1.length 4) (hS2 : SlR h rv2 (plsC l2) l2.length 4)
    (g : Nat) (c0 c1 c2 c3 : AV) (F : Nat → AV) (loc : Loc) (h7 : F 7 = .bx 7 g 0) (hl : locGet loc 7 = some (g, .cells [c0, c1, c2, c3, rv2])) (h120 : F 120 = rv1) (h121 : F 121 = vI l1.length) (h122 : F 122 = vI 0) :
    R19i h loc F (sameLs l1 l2) (acodeI (cfg w0 t) 19 (.loop (lp Try.f19 1)) ⟨fl 162 F, loc, h, none⟩) := by
  by_cases hz : l1.length = 0
  · have e1 := List.eq_nil_of_length_eq_zero hz
    have e2 := List.eq_nil_of_length_eq_zero (hlen.trans hz)
    subst e1 e2
    exact L19z h F loc h121 h122
  · rcases hS1 with ⟨b1, g1, k1, rfl, p1, p2, p3⟩ | ⟨q, _⟩
    · rcases hS2 with ⟨b2, g2, k2, rfl, q1, q2, q3⟩ | ⟨q, _⟩
      · exact L19i h l1 l2 hlen hsm b1 g1 b2 g2 k1 k2 p1 p2 p3 q1 q2 q3 g c0 c1 c2 c3 l1.length 0 F loc (by omega) h7 hl h120 h121 h122
      · exact absurd (hlen ▸ q) hz
    · exact absurd q hz
end Go.Proofs.Ytmglahnoemgieaa.Ax
namespace Go.Proofs.Ytmglahnoemgieaa.Ax
open Go Go.RowKit
set_option linter.unusedSimpArgs false
set_option linter.unusedVariables false
set_option linter.unnecessarySimpa false
set_option maxHeartbeats 8000000
set_option maxRecDepth 4000
variable {w0 : World} {t : Option Gf}
def sameE (e f : Ed) : Bool := decide (e.sheet = f.sheet) && (decide (e.col = f.col) && (decide (e.row = f.row) && (decide (e.reads.length = f.reads.length) && sameLs e.reads f.reads)))
def sameEs : List Ed → List Ed → Bool
  | [], [] => true
  | p :: l, q :: r => sameE p q && sameEs l r
  | _, _ => false
theorem sameE_iff {p q : Ed} : sameE p q = true ↔ p = q := by
  obtain ⟨a, b, c, d⟩ := p
  obtain ⟨a', b', c', d'⟩ := q
  simp only [sameE, Bool.and_eq_true, decide_eq_true_eq, sameLs_iff, Ed.mk.injEq]
  constructor
  · rintro ⟨h1, h2, h3, _, h5⟩; exact ⟨h1, h2, h3, h5⟩
  · rintro ⟨h1, h2, h3, h5⟩; exact ⟨h1, h2, h3, by rw [h5], h5⟩
theorem sameEs_iff {l r : List Ed} : sameEs l r = true ↔ l = r := by
  induction l generalizing r with
  | nil => cases r <;> simp [sameEs]
  | cons p l ih =>
    cases r with
    | nil => simp [sameEs]
    | cons q r => simp [sameEs, ih, sameE_iff]
theorem take5 {cs : List AV} {n : Nat} {a b c d e : AV} (h1 : (cs.drop n).take 4 = [a, b, c, d]) (h2 : cs[n + 4]? = some e) : (cs.drop n).take 5 = [a, b, c, d, e] := by
  rw [show 5 = 4 + 1 from rfl, List.take_add_one, h1, List.getElem?_drop, h2]
  rfl
def R19o (h : H) (ok : Bool) (R : Option (Ex × S)) : Prop :=
  ∃ F' loc', R = some (if ok then .exit 0 else .ret, ⟨fl 162 F', loc', h, none⟩) ∧ (ok = false → F' 4 = vB false)
theorem L19o (h : H) (e1 e2 : List Ed) (hlen : e2.length = e1.length) (hsm : ∀ e ∈ e1, e.reads.length ≤ 9223372036854775807) (hle : e1.length ≤ 9223372036854775807) (b1 g1 b2 g2 : Nat) (k1 k2 : Blk) (hb1 : h[b1]? = some k1) (hg1 : k1.gen = g1) (hk1 : EdsC h e1 k1.cells) (hb2 : h[b2]? = some k2) (hg2 : k2.gen = g2) (hk2 : REdsC h e2 k2.cells)
    (c0 c1 c2 c3 c4 c5 c6 c7 c8 c9 c10 c11 : AV) : ∀ (n i : Nat) (F : Nat → AV) (loc : Loc), i + n = e1.length →
    F 3 = .bx 3 1 0 → locGet loc 3 = some (1, .cells [c0, c1, c2, c3, c4, c5, c6, c7, c8, c9, c10, c11, .sl b2 g2 0 e2.length 5]) → F 74 = .sl b1 g1 0 e1.length 4 → F 75 = vI e1.length → F 76 = vI i →
    R19o h (sameEs (e1.drop i) (e2.drop i)) (acodeI (cfg w0 t) 19 (.loop (lp Try.f19 0)) ⟨fl 162 F, loc, h, none⟩) := by
  intro n
  induction n with
  | zero =>
    intro i F loc hi h3 hl h74 h75 h76
    have e : ¬ ((i : Int) < e1.length) := by omega
    have hn1 : e1.drop i = [] := List.drop_eq_nil_of_le (by omega)
    have hn2 : e2.drop i = [] := List.drop_eq_nil_of_le (by omega)
    dsimp only [lp, loopsOf, Try.f19, Option.getD, List.append_eq, List.nil_append, List.cons_append, List.getElem?_cons_zero, List.getElem?_cons_succ]
    rw [hn1, hn2, X_loop, show sameEs [] [] = true from rfl]
    simp only [reduceIte, reduceCtorEq, Nat.reduceAdd, Nat.reduceMul, Nat.reduceSub, Nat.reduceEqDiff, Nat.reduceLT, Nat.reduceLeDiff, Nat.reduceBEq, Int.reduceLT, Int.reduceLE, Int.reduceEq,
    Int.reduceNe, Int.reduceAdd, Int.reduceSub, Int.reduceMul, Int.reduceToNat, push_cast, pairsOk, locGet_set, p2_int, intBin, h3, h74, h75, h76, e]
    exact ⟨_, _, rfl, fun k => (by cases k)⟩
  | succ n ih =>
    intro i F loc hi h3 hl h74 h75 h76
    have e : (i : Int) < e1.length := by omega
    have e' : (i : Int) < e2.length := by omega
    have hlt : i < e1.length := by omega
    have hlt2 : i < e2.length := by omega
    have hp : e1[i]? = some e1[i] := List.getElem?_eq_getElem hlt
    have hq : e2[i]? = some e2[i] := List.getElem?_eq_getElem hlt2
    have hdr := List.drop_eq_getElem_cons hlt
    have hdr2 := List.drop_eq_getElem_cons hlt2
    have hsp := hsm e1[i] (List.getElem_mem hlt)
    obtain ⟨hld1, rv1, hld, hS1⟩ := load_ed hb1 hk1 hp
    obtain ⟨rv2, hP, hrv, hS2⟩ := hk2.2 i _ hq
    have hld3 : i * 5 + 5 ≤ k2.cells.length := by rw [hk2.1]; omega
    have hld4 := take5 hP hrv
    have hw : IntKind.i64.wrap ((i : Int) + 1) = ((i + 1 : Nat) : Int) := by rw [wrap_i64] <;> omega
    have hn : (0 : Int) ≤ i := by omega
    have ih := ih (i + 1)
    rw [hdr, hdr2, show ∀ (p q : Ed) l r, sameEs (p :: l) (q :: r) = (sameE p q && sameEs l r) from fun _ _ _ _ => rfl]
    generalize e1[i] = p at hld hS1 hsp
    generalize e2[i] = q at hld4 hS2
    have hnb1 : noBx rv1 = true ∧ oneA rv1 = true := by rcases hS1 with ⟨_, _, _, rfl, _⟩ | ⟨_, rfl⟩ <;> exact ⟨rfl, rfl⟩
    have hnb2 : noBx rv2 = true ∧ oneA rv2 = true := by rcases hS2 with ⟨_, _, _, rfl, _⟩ | ⟨_, rfl⟩ <;> exact ⟨rfl, rfl⟩
    have hL1 := hS1.len.lenA (P := Try.prog) Try.underlying83
    have hL2 := hS2.len.lenA (P := Try.prog) Try.underlying86
    unfold sameE
    by_cases a1 : p.sheet = q.sheet
    rotate_left
    · dsimp only [lp, loopsOf, Try.f19, Option.getD, List.append_eq, List.nil_append, List.cons_append, List.getElem?_cons_zero, List.getElem?_cons_succ]
      rw [X_loop]
      simp only [reduceIte, reduceCtorEq, Nat.reduceAdd, Nat.reduceMul, Nat.reduceSub, Nat.reduceEqDiff, Nat.reduceLT, Nat.reduceLeDiff, Nat.reduceBEq, Int.reduceLT, Int.reduceLE, Int.reduceEq,
    Int.reduceNe, Int.reduceAdd, Int.reduceSub, Int.reduceMul, Int.reduceToNat, push_cast, pairsOk, locGet_set, p2_int, intBin, p2_str, strBin, idx_sl elemSize_37, idx_sl elemSize_42, hn, h3, hl, h74, h75, h76, e, e', hb1, hg1, hb2, hg2, hld1, hld, hld3, hld4, hnb1.1, hnb1.2, hnb2.1, hnb2.2, hL1, hL2, a1]
      exact ⟨_, _, rfl, fun _ => by simp only [reduceIte, reduceCtorEq, Nat.reduceAdd, Nat.reduceMul, Nat.reduceSub, Nat.reduceEqDiff, Nat.reduceLT, Nat.reduceLeDiff, Nat.reduceBEq, Int.reduceLT, Int.reduceLE, Int.reduceEq,
    Int.reduceNe, Int.reduceAdd, Int.reduceSub, Int.reduceMul, Int.reduceToNat, push_cast, pairsOk, locGet_set]⟩
    by_cases a2 : p.col = q.col
    rotate_left
    · dsimp only [lp, loopsOf, Try.f19, Option.getD, List.append_eq, List.nil_append, List.cons_append, List.getElem?_cons_zero, List.getElem?_cons_succ]
      rw [X_loop]
      simp only [reduceIte, reduceCtorEq, Nat.reduceAdd, Nat.reduceMul, Nat.reduceSub, Nat.reduceEqDiff, Nat.reduceLT, Nat.reduceLeDiff, Nat.reduceBEq, Int.reduceLT, Int.reduceLE, Int.reduceEq,
    Int.reduceNe, Int.reduceAdd, Int.reduceSub, Int.reduceMul, Int.reduceToNat, push_cast, pairsOk, locGet_set, p2_int, intBin, p2_str, strBin, idx_sl elemSize_37, idx_sl elemSize_42, hn, h3, hl, h74, h75, h76, e, e', hb1, hg1, hb2, hg2, hld1, hld, hld3, hld4, hnb1.1, hnb1.2, hnb2.1, hnb2.2, hL1, hL2, a1, a2]
      exact ⟨_, _, rfl, fun _ => by simp only [reduceIte, reduceCtorEq, Nat.reduceAdd, Nat.reduceMul, Nat.reduceSub, Nat.reduceEqDiff, Nat.reduceLT, Nat.reduceLeDiff, Nat.reduceBEq, Int.reduceLT, Int.reduceLE, Int.reduceEq,
    Int.reduceNe, Int.reduceAdd, Int.reduceSub, Int.reduceMul, Int.reduceToNat, push_cast, pairsOk, locGet_set]⟩
    by_cases a3 : p.row = q.row
    rotate_left
    · dsimp only [lp, loopsOf, Try.f19, Option.getD, List.append_eq, List.nil_append, List.cons_append, List.getElem?_cons_zero, List.getElem?_cons_succ]
      rw [X_loop]
      simp only [reduceIte, reduceCtorEq, Nat.reduceAdd, Nat.reduceMul, Nat.reduceSub, Nat.reduceEqDiff, Nat.reduceLT, Nat.reduceLeDiff, Nat.reduceBEq, Int.reduceLT, Int.reduceLE, Int.reduceEq,
    Int.reduceNe, Int.reduceAdd, Int.reduceSub, Int.reduceMul, Int.reduceToNat, push_cast, pairsOk, locGet_set, p2_int, intBin, p2_str, strBin, idx_sl elemSize_37, idx_sl elemSize_42, hn, h3, hl, h74, h75, h76, e, e', hb1, hg1, hb2, hg2, hld1, hld, hld3, hld4, hnb1.1, hnb1.2, hnb2.1, hnb2.2, hL1, hL2, a1, a2, a3]
      exact ⟨_, _, rfl, fun _ => by simp only [reduceIte, reduceCtorEq, Nat.reduceAdd, Nat.reduceMul, Nat.reduceSub, Nat.reduceEqDiff, Nat.reduceLT, Nat.reduceLeDiff, Nat.reduceBEq, Int.reduceLT, Int.reduceLE, Int.reduceEq,
    Int.reduceNe, Int.reduceAdd, Int.reduceSub, Int.reduceMul, Int.reduceToNat, push_cast, pairsOk, locGet_set]⟩
    by_cases a4 : p.reads.length = q.reads.length
    rotate_left
    · have a4' : ¬ ((p.reads.length : Int) = q.reads.length) := by omega
      dsimp only [lp, loopsOf, Try.f19, Option.getD, List.append_eq, List.nil_append, List.cons_append, List.getElem?_cons_zero, List.getElem?_cons_succ]
      rw [X_loop]
      simp only [reduceIte, reduceCtorEq, Nat.reduceAdd, Nat.reduceMul, Nat.reduceSub, Nat.reduceEqDiff, Nat.reduceLT, Nat.reduceLeDiff, Nat.reduceBEq, Int.reduceLT, Int.reduceLE, Int.reduceEq,
    Int.reduceNe, Int.reduceAdd, Int.reduceSub, Int.reduceMul, Int.reduceToNat, push_cast, pairsOk, locGet_set, p2_int, intBin, p2_str, strBin, idx_sl elemSize_37, idx_sl elemSize_42, hn, h3, hl, h74, h75, h76, e, e', hb1, hg1, hb2, hg2, hld1, hld, hld3, hld4, hnb1.1, hnb1.2, hnb2.1, hnb2.2, hL1, hL2, a1, a2, a3, a4, a4']
      exact ⟨_, _, rfl, fun _ => by simp only [reduceIte, reduceCtorEq, Nat.reduceAdd, Nat.reduceMul, Nat.reduceSub, Nat.reduceEqDiff, Nat.reduceLT, Nat.reduceLeDiff, Nat.reduceBEq, Int.reduceLT, Int.reduceLE, Int.reduceEq,
    Int.reduceNe, Int.reduceAdd, Int.reduceSub, Int.reduceMul, Int.reduceToNat, push_cast, pairsOk, locGet_set]⟩
    have a4' : ((p.reads.length : Int) = q.reads.length) := by omega
    obtain ⟨G, hG⟩ := skol (P := fun a : (Nat → AV) × Loc => a.1 7 = .bx 7 (genOf (a.1 7)) 0 ∧ locGet a.2 7 = some (genOf (a.1 7), .cells [vS .empty, vS q.sheet, vI q.col, vI q.row, rv2]) ∧ a.1 120 = rv1 ∧ a.1 121 = vI p.reads.length ∧ a.1 122 = vI 0)
      (Q := fun a c => acodeI (cfg w0 t) 19 (.loop (lp Try.f19 1)) ⟨fl 162 a.1, a.2, h, none⟩ = some (if sameLs p.reads q.reads then .exit 2 else .ret, ⟨fl 162 c.1, c.2, h, none⟩) ∧ (sameLs p.reads q.reads = false → c.1 4 = vB false) ∧ (sameLs p.reads q.reads = true → c.1 2 = a.1 2 ∧ c.1 3 = a.1 3 ∧ c.1 74 = a.1 74 ∧ c.1 75 = a.1 75 ∧ c.1 76 = a.1 76 ∧ locGet c.2 2 = locGet a.2 2 ∧ locGet c.2 3 = locGet a.2 3)) (β := (Nat → AV) × Loc) (fun a ha => by
        obtain ⟨F', loc', k1, k2, k3⟩ := L19 (w0 := w0) (t := t) h p.reads q.reads a4.symm hsp rv1 rv2 hS1 hS2 (genOf (a.1 7)) _ _ _ _ a.1 a.2 ha.1 ha.2.1 ha.2.2.1 ha.2.2.2.1 ha.2.2.2.2
        exact ⟨(F', loc'), k1, k2, k3⟩)
    have G1 := fun F loc hc => (hG (F, loc) hc).1
    have G2 := fun F loc hc => (hG (F, loc) hc).2.1
    have G3 := fun F loc hc => (hG (F, loc) hc).2.2
    clear hG
    dsimp only [lp, loopsOf, Try.f19, Option.getD, List.append_eq, List.nil_append, List.cons_append, List.getElem?_cons_zero, List.getElem?_cons_succ] at G1 ih ⊢
    rw [X_loop]
    cases ho : sameLs p.reads q.reads
    · rw [ho] at G1 G2
      have G2 := fun F loc hc => G2 F loc hc rfl
      simp only [reduceIte, reduceCtorEq, Nat.reduceAdd, Nat.reduceMul, Nat.reduceSub, Nat.reduceEqDiff, Nat.reduceLT, Nat.reduceLeDiff, Nat.reduceBEq, Int.reduceLT, Int.reduceLE, Int.reduceEq,
    Int.reduceNe, Int.reduceAdd, Int.reduceSub, Int.reduceMul, Int.reduceToNat, push_cast, pairsOk, locGet_set, p2_int, intBin, p2_str, strBin, idx_sl elemSize_37, idx_sl elemSize_42, genOf_bx, hn, h3, hl, h74, h75, h76, e, e', hb1, hg1, hb2, hg2, hld1, hld, hld3, hld4, hnb1.1, hnb1.2, hnb2.1, hnb2.2, hL1, hL2, a1, a2, a3, a4, a4', G1, G2]
      refine ⟨_, _, rfl, fun _ => ?_⟩
      simp only [reduceIte, reduceCtorEq, Nat.reduceAdd, Nat.reduceMul, Nat.reduceSub, Nat.reduceEqDiff, Nat.reduceLT, Nat.reduceLeDiff, Nat.reduceBEq, Int.reduceLT, Int.reduceLE, Int.reduceEq,
    Int.reduceNe, Int.reduceAdd, Int.reduceSub, Int.reduceMul, Int.reduceToNat, push_cast, pairsOk, locGet_set, genOf_bx, hl, a1, a2, a3, a4, a4', G2]
    · rw [ho] at G1 G3
      have Ga := fun F loc hc => (G3 F loc hc rfl).2.1
      have Gb := fun F loc hc => (G3 F loc hc rfl).2.2.1
      have Gc := fun F loc hc => (G3 F loc hc rfl).2.2.2.1
      have Gd := fun F loc hc => (G3 F loc hc rfl).2.2.2.2.1
      have Ge := fun F loc hc => (G3 F loc hc rfl).2.2.2.2.2.2
      simp only [reduceIte, reduceCtorEq, Nat.reduceAdd, Nat.reduceMul, Nat.reduceSub, Nat.reduceEqDiff, Nat.reduceLT, Nat.reduceLeDiff, Nat.reduceBEq, Int.reduceLT, Int.reduceLE, Int.reduceEq,
    Int.reduceNe, Int.reduceAdd, Int.reduceSub, Int.reduceMul, Int.reduceToNat, push_cast, pairsOk, locGet_set, p2_int, intBin, p2_str, strBin, idx_sl elemSize_37, idx_sl elemSize_42, genOf_bx, hn, h3, hl, h74, h75, h76, e, e', hb1, hg1, hb2, hg2, hld1, hld, hld3, hld4, hnb1.1, hnb1.2, hnb2.1, hnb2.2, hL1, hL2, a1, a2, a3, a4, a4', G1, Ga, Gb, Gc, Gd, hw]
      refine ih _ _ (by omega) ?_ ?_ ?_ ?_ ?_ <;> simp only [reduceIte, reduceCtorEq, Nat.reduceAdd, Nat.reduceMul, Nat.reduceSub, Nat.reduceEqDiff, Nat.reduceLT, Nat.reduceLeDiff, Nat.reduceBEq, Int.reduceLT, Int.reduceLE, Int.reduceEq,
    Int.reduceNe, Int.reduceAdd, Int.reduceSub, Int.reduceMul, Int.reduceToNat, push_cast, pairsOk, locGet_set, genOf_bx, h3, hl, h74, h75, h76, a1, a2, a3, a4, a4', Ga, Gb, Gc, Gd, Ge]
end Go.Proofs.Ytmglahnoemgieaa.Ax
namespace Go.Proofs.Ytmglahnoemgieaa.Ax
open Go Go.RowKit
set_option linter.unusedSimpArgs false
set_option linter.unusedVariables false
set_option linter.unnecessarySimpa false
set_option maxHeartbeats 8000000
set_option maxRecDepth 4000
variable {w0 : World} {t : Option Gf}
def sameM (a b : Msg) : Bool := decide (a.kind = b.kind) && (decide (a.ticket = b.ticket) && (decide (a.ver = b.ver) && (decide (a.sheet = b.sheet) && (decide (a.col = b.col) && (decide (a.row = b.row) && (sameV a.v b.v && (decide (a.edges.length = b.edges.length) && sameEs a.edges b.edges)))))))
theorem sameM_iff {a b : Msg} : sameM a b = true ↔ a = b := by
  obtain ⟨a1, a2, a3, a4, a5, a6, a7, a8⟩ := a
  obtain ⟨b1, b2, b3, b4, b5, b6, b7, b8⟩ := b
  simp only [sameM, Bool.and_eq_true, decide_eq_true_eq, sameEs_iff, sameV_iff, Msg.mk.injEq]
  constructor
  · rintro ⟨h1, h2, h3, h4, h5, h6, h7, _, h9⟩; exact ⟨h1, h2, h4, h5, h6, h3, h7, h9⟩
  · rintro ⟨h1, h2, h4, h5, h6, h3, h7, h9⟩; exact ⟨h1, h2, h3, h4, h5, h6, h7, by rw [h9], h9⟩
theorem f19 (a b : Msg) (hsm : ∀ e ∈ a.edges, e.reads.length ≤ 9223372036854775807) (hle : a.edges.length ≤ 9223372036854775807) (xs ys : AV) (h : H) (hx : EdsV h a.edges xs) (hy : REdsV h b.edges ys) :
    acallI (cfg w0 t) 19 [.agg (vM a.kind a.ticket a.sheet a.col a.row a.ver a.v xs), .agg (vN b.kind b.ticket b.ver b.sheet b.col b.row b.v ys)] h = some (.ret (vB (sameM a b)), h, none) := by
  rw [E19]
  have hnb1 : noBx xs = true ∧ oneA xs = true := by rcases hx.len with ⟨_, _, rfl⟩ | ⟨_, rfl⟩ <;> exact ⟨rfl, rfl⟩
  have hnb2 : noBx ys = true ∧ oneA ys = true := by rcases hy.len with ⟨_, _, rfl⟩ | ⟨_, rfl⟩ <;> exact ⟨rfl, rfl⟩
  have hL1 := hx.len.lenA (P := Try.prog) Try.underlying37
  have hL2 := hy.len.lenA (P := Try.prog) Try.underlying42
  have e46 := f46 (w0 := w0) (t := t) a.v b.v h
  unfold sameM
  by_cases a1 : a.kind = b.kind
  rotate_left
  · dsimp only [Try.f19, Option.getD]
    simp only [reduceIte, reduceCtorEq, Nat.reduceAdd, Nat.reduceMul, Nat.reduceSub, Nat.reduceEqDiff, Nat.reduceLT, Nat.reduceLeDiff, Nat.reduceBEq, Int.reduceLT, Int.reduceLE, Int.reduceEq,
    Int.reduceNe, Int.reduceAdd, Int.reduceSub, Int.reduceMul, Int.reduceToNat, push_cast, pairsOk, locGet, locSet, nextGen, p2_int, intBin, p2_str, strBin, e46, hnb1.1, hnb1.2, hnb2.1, hnb2.2, hL1, hL2, a1]
  by_cases a2 : a.ticket = b.ticket
  rotate_left
  · dsimp only [Try.f19, Option.getD]
    simp only [reduceIte, reduceCtorEq, Nat.reduceAdd, Nat.reduceMul, Nat.reduceSub, Nat.reduceEqDiff, Nat.reduceLT, Nat.reduceLeDiff, Nat.reduceBEq, Int.reduceLT, Int.reduceLE, Int.reduceEq,
    Int.reduceNe, Int.reduceAdd, Int.reduceSub, Int.reduceMul, Int.reduceToNat, push_cast, pairsOk, locGet, locSet, nextGen, p2_int, intBin, p2_str, strBin, e46, hnb1.1, hnb1.2, hnb2.1, hnb2.2, hL1, hL2, a1, a2]
  by_cases a3 : a.ver = b.ver
  rotate_left
  · dsimp only [Try.f19, Option.getD]
    simp only [reduceIte, reduceCtorEq, Nat.reduceAdd, Nat.reduceMul, Nat.reduceSub, Nat.reduceEqDiff, Nat.reduceLT, Nat.reduceLeDiff, Nat.reduceBEq, Int.reduceLT, Int.reduceLE, Int.reduceEq,
    Int.reduceNe, Int.reduceAdd, Int.reduceSub, Int.reduceMul, Int.reduceToNat, push_cast, pairsOk, locGet, locSet, nextGen, p2_int, intBin, p2_str, strBin, e46, hnb1.1, hnb1.2, hnb2.1, hnb2.2, hL1, hL2, a1, a2, a3]
  by_cases a4 : a.sheet = b.sheet
  rotate_left
  · dsimp only [Try.f19, Option.getD]
    simp only [reduceIte, reduceCtorEq, Nat.reduceAdd, Nat.reduceMul, Nat.reduceSub, Nat.reduceEqDiff, Nat.reduceLT, Nat.reduceLeDiff, Nat.reduceBEq, Int.reduceLT, Int.reduceLE, Int.reduceEq,
    Int.reduceNe, Int.reduceAdd, Int.reduceSub, Int.reduceMul, Int.reduceToNat, push_cast, pairsOk, locGet, locSet, nextGen, p2_int, intBin, p2_str, strBin, e46, hnb1.1, hnb1.2, hnb2.1, hnb2.2, hL1, hL2, a1, a2, a3, a4]
  by_cases a5 : a.col = b.col
  rotate_left
  · dsimp only [Try.f19, Option.getD]
    simp only [reduceIte, reduceCtorEq, Nat.reduceAdd, Nat.reduceMul, Nat.reduceSub, Nat.reduceEqDiff, Nat.reduceLT, Nat.reduceLeDiff, Nat.reduceBEq, Int.reduceLT, Int.reduceLE, Int.reduceEq,
    Int.reduceNe, Int.reduceAdd, Int.reduceSub, Int.reduceMul, Int.reduceToNat, push_cast, pairsOk, locGet, locSet, nextGen, p2_int, intBin, p2_str, strBin, e46, hnb1.1, hnb1.2, hnb2.1, hnb2.2, hL1, hL2, a1, a2, a3, a4, a5]
  by_cases a6 : a.row = b.row
  rotate_left
  · dsimp only [Try.f19, Option.getD]
    simp only [reduceIte, reduceCtorEq, Nat.reduceAdd, Nat.reduceMul, Nat.reduceSub, Nat.reduceEqDiff, Nat.reduceLT, Nat.reduceLeDiff, Nat.reduceBEq, Int.reduceLT, Int.reduceLE, Int.reduceEq,
    Int.reduceNe, Int.reduceAdd, Int.reduceSub, Int.reduceMul, Int.reduceToNat, push_cast, pairsOk, locGet, locSet, nextGen, p2_int, intBin, p2_str, strBin, e46, hnb1.1, hnb1.2, hnb2.1, hnb2.2, hL1, hL2, a1, a2, a3, a4, a5, a6]
  cases a7 : sameV a.v b.v
  · rw [a7] at e46
    dsimp only [Try.f19, Option.getD]
    simp only [reduceIte, reduceCtorEq, Nat.reduceAdd, Nat.reduceMul, Nat.reduceSub, Nat.reduceEqDiff, Nat.reduceLT, Nat.reduceLeDiff, Nat.reduceBEq, Int.reduceLT, Int.reduceLE, Int.reduceEq,
    Int.reduceNe, Int.reduceAdd, Int.reduceSub, Int.reduceMul, Int.reduceToNat, push_cast, pairsOk, locGet, locSet, nextGen, p2_int, intBin, p2_str, strBin, e46, hnb1.1, hnb1.2, hnb2.1, hnb2.2, hL1, hL2, a1, a2, a3, a4, a5, a6]
  rw [a7] at e46
  by_cases a8 : a.edges.length = b.edges.length
  rotate_left
  · have a8' : ¬ ((a.edges.length : Int) = b.edges.length) := by omega
    dsimp only [Try.f19, Option.getD]
    simp only [reduceIte, reduceCtorEq, Nat.reduceAdd, Nat.reduceMul, Nat.reduceSub, Nat.reduceEqDiff, Nat.reduceLT, Nat.reduceLeDiff, Nat.reduceBEq, Int.reduceLT, Int.reduceLE, Int.reduceEq,
    Int.reduceNe, Int.reduceAdd, Int.reduceSub, Int.reduceMul, Int.reduceToNat, push_cast, pairsOk, locGet, locSet, nextGen, p2_int, intBin, p2_str, strBin, e46, hnb1.1, hnb1.2, hnb2.1, hnb2.2, hL1, hL2, a1, a2, a3, a4, a5, a6, a8, a8']
  by_cases hz : b.edges.length = 0
  · have h1 := List.eq_nil_of_length_eq_zero (a8.trans hz)
    have h2 := List.eq_nil_of_length_eq_zero hz
    rw [h1] at hL1
    rw [h2] at hL2
    rw [h1, h2]
    simp only [List.length_nil, Int.cast_ofNat_Int] at hL1 hL2
    dsimp only [Try.f19, Option.getD]
    simp only [reduceIte, reduceCtorEq, Nat.reduceAdd, Nat.reduceMul, Nat.reduceSub, Nat.reduceEqDiff, Nat.reduceLT, Nat.reduceLeDiff, Nat.reduceBEq, Int.reduceLT, Int.reduceLE, Int.reduceEq,
    Int.reduceNe, Int.reduceAdd, Int.reduceSub, Int.reduceMul, Int.reduceToNat, push_cast, pairsOk, locGet, locSet, nextGen, X_loop, p2_int, intBin, p2_str, strBin, e46, hnb1.1, hnb1.2, hnb2.1, hnb2.2, hL1, hL2, a1, a2, a3, a4, a5, a6, sameEs]
  rcases hx with ⟨b1, g1, k1, rfl, p1, p2, p3⟩ | ⟨q, _⟩
  rotate_left
  · rw [q] at a8; exact absurd a8.symm hz
  rcases hy with ⟨b2, g2, k2, rfl, q1, q2, q3⟩ | ⟨q, _⟩
  rotate_left
  · rw [q] at hz; exact absurd rfl hz
  have a8' : ((a.edges.length : Int) = b.edges.length) := by omega
  have hdec : decide (a.edges.length = b.edges.length) = true := decide_eq_true a8
  obtain ⟨G, hG⟩ := skol (P := fun a' : (Nat → AV) × Loc => a'.1 3 = .bx 3 1 0 ∧ locGet a'.2 3 = some (1, .cells (vN b.kind b.ticket b.ver b.sheet b.col b.row b.v (.sl b2 g2 0 b.edges.length 5))) ∧ a'.1 74 = .sl b1 g1 0 a.edges.length 4 ∧ a'.1 75 = vI a.edges.length ∧ a'.1 76 = vI 0)
    (Q := fun a' c => acodeI (cfg w0 t) 19 (.loop (lp Try.f19 0)) ⟨fl 162 a'.1, a'.2, h, none⟩ = some (if sameEs a.edges b.edges then .exit 0 else .ret, ⟨fl 162 c.1, c.2, h, none⟩) ∧ (sameEs a.edges b.edges = false → c.1 4 = vB false)) (β := (Nat → AV) × Loc) (fun a' ha => by
      obtain ⟨F', loc', k1', k2'⟩ := L19o (w0 := w0) (t := t) h a.edges b.edges a8.symm hsm hle b1 g1 b2 g2 k1 k2 p1 p2 p3 q1 q2 q3 _ _ _ _ _ _ _ _ _ _ _ _ a.edges.length 0 a'.1 a'.2 (by omega) ha.1 ha.2.1 ha.2.2.1 ha.2.2.2.1 ha.2.2.2.2
      exact ⟨(F', loc'), k1', k2'⟩)
  have G1 := fun F loc hc => (hG (F, loc) hc).1
  have G2 := fun F loc hc => (hG (F, loc) hc).2
  clear hG
  dsimp only [lp, loopsOf, Try.f19, Option.getD, List.append_eq, List.nil_append, List.cons_append, List.getElem?_cons_zero, List.getElem?_cons_succ] at G1 ⊢
  cases ho : sameEs a.edges b.edges
  · rw [ho] at G1 G2
    have G2 := fun F loc hc => G2 F loc hc rfl
    simp only [reduceIte, reduceCtorEq, Nat.reduceAdd, Nat.reduceMul, Nat.reduceSub, Nat.reduceEqDiff, Nat.reduceLT, Nat.reduceLeDiff, Nat.reduceBEq, Int.reduceLT, Int.reduceLE, Int.reduceEq,
    Int.reduceNe, Int.reduceAdd, Int.reduceSub, Int.reduceMul, Int.reduceToNat, push_cast, pairsOk, locGet, locSet, nextGen, p2_int, intBin, p2_str, strBin, e46, hL1, hL2, a1, a2, a3, a4, a5, a6, hdec, a8', G1, G2]
  · rw [ho] at G1
    simp only [reduceIte, reduceCtorEq, Nat.reduceAdd, Nat.reduceMul, Nat.reduceSub, Nat.reduceEqDiff, Nat.reduceLT, Nat.reduceLeDiff, Nat.reduceBEq, Int.reduceLT, Int.reduceLE, Int.reduceEq,
    Int.reduceNe, Int.reduceAdd, Int.reduceSub, Int.reduceMul, Int.reduceToNat, push_cast, pairsOk, locGet, locSet, nextGen, p2_int, intBin, p2_str, strBin, e46, hL1, hL2, a1, a2, a3, a4, a5, a6, hdec, a8', G1]
end Go.Proofs.Ytmglahnoemgieaa.Ax
namespace Go.Proofs.Ytmglahnoemgieaa.Ax
open Go Go.RowKit
set_option linter.unusedSimpArgs false
set_option linter.unusedVariables false
set_option linter.unnecessarySimpa false
set_option maxHeartbeats 8000000
set_option maxRecDepth 4000
variable {w0 : World} {t : Option Gf}
theorem nAt_of {s : ByteArray} {a k n : Nat} {r : List UInt8} (hk : 0 < k) (hn : n < 256 ^ k) (h : (bl s).drop a = encB n k ++ r) : nAt s a k = n ∧ (bl s).drop (a + k) = r := by
  have h1 := enc_rdN hk hn h
  have h2 := rdN_some h1.1
  exact ⟨h2.2.1.symm, h1.2⟩
theorem bl_pkEnc (ack : Bool) (inc seq : Int) (body : ByteArray) : bl (pkEnc ack inc seq body) = encB (if ack then 1 else 0) 1 ++ (encB inc.toNat 8 ++ (encB seq.toNat 8 ++ bl body)) := by
  unfold pkEnc
  rw [bl_app]
  show pkHead ack inc seq ++ bl body = _
  unfold pkHead
  simp only [List.append_assoc]
theorem pkEnc_size (ack : Bool) (inc seq : Int) (body : ByteArray) : (pkEnc ack inc seq body).size = 17 + body.size := by
  rw [← bl_len, bl_pkEnc]
  simp only [List.length_append, encB_length, bl_len]
  omega
theorem openP_enc {ack : Bool} {inc seq : Int} {body : ByteArray} (hg : pkGood ack inc seq body = true) : openP (pkEnc ack inc seq body) = some (ack, inc, seq, body) := by
  have hb := bl_pkEnc ack inc seq body
  have hsz := pkEnc_size ack inc seq body
  generalize pkEnc ack inc seq body = s at hb hsz
  simp only [pkGood, Bool.and_eq_true, decide_eq_true_eq, Bool.or_eq_true, Bool.not_eq_true'] at hg
  obtain ⟨⟨⟨g1, g2⟩, g3, g4⟩, g5⟩ := hg
  have d0 : (bl s).drop 0 = encB (if ack then 1 else 0) 1 ++ (encB inc.toNat 8 ++ (encB seq.toNat 8 ++ bl body)) := by rw [List.drop_zero]; exact hb
  have n0 := nAt_of (by decide) (by cases ack <;> decide) d0
  have n1 := nAt_of (n := inc.toNat) (by decide) (by omega) n0.2
  have n2 := nAt_of (n := seq.toNat) (by decide) (by omega) n1.2
  have hbody : s.extract 17 s.size = body := by
    rw [← bs_bl (s.extract 17 s.size), bl_from]
    have := n2.2
    rw [show 0 + 1 + 8 + 8 = 17 from rfl] at this
    rw [this, bs_bl]
  unfold openP
  rw [if_neg (by omega)]
  have hL : ∃ k l, bl s = k :: l ∧ k = byteOf (if ack then 1 else 0) 0 := ⟨_, _, hb, rfl⟩
  obtain ⟨k, l, hL, hk⟩ := hL
  rw [hL]
  simp only
  have e1 : nAt s 1 8 = inc.toNat := n1.1
  have e2 : nAt s 9 8 = seq.toNat := n2.1
  rw [e1, e2, hbody, Int.toNat_of_nonneg g1, Int.toNat_of_nonneg g3]
  cases ack
  · have : k.toNat = 0 := by rw [hk]; rfl
    rw [if_pos ⟨by omega, by omega, by omega, by omega⟩]
    simp [this]
  · have : k.toNat = 1 := by rw [hk]; rfl
    rw [if_pos ⟨by omega, by omega, by omega, fun _ => g5.resolve_left (by simp)⟩]
    simp [this]
def m0 : Msg := ⟨4, 5, .empty, 0, 0, 0, zV, []⟩
theorem m0_good : msgGood m0 = true := by decide
theorem m0_enc : bs (encM m0) = ⟨#[4, 0, 0, 0, 0, 0, 0, 0, 5]⟩ := by
  have : encM m0 = [4, 0, 0, 0, 0, 0, 0, 0, 5] := by decide
  rw [this]; rfl
theorem f12 (h : H) : acallI (cfg w0 (some (g15 w0))) 12 [] h = some (.ret (vB true), h, none) := by
  rw [E12]
  have ok := cfg_ok w0
  have e1 := f8 ok m0 ⟨by decide, fun e he => (by cases he), by decide⟩ (.val (.slice none 0 0)) h (.inr ⟨rfl, rfl⟩) (by decide)
  rw [m0_good, if_pos rfl, bs_eq, m0_enc] at e1
  have hm : getM (⟨#[4, 0, 0, 0, 0, 0, 0, 0, 5]⟩ : ByteArray) = some m0 := getM_iff.2 ⟨m0_good, m0_enc⟩
  obtain ⟨xs, h', e2, hI, ht, hl⟩ := f15_some (w0 := w0) (by decide) h hm
  have hnb := hI.nb
  have e3 := f10 (w0 := w0) (t := some (g15 w0)) ok false 1 2 ⟨#[4, 0, 0, 0, 0, 0, 0, 0, 5]⟩ (by decide) h'
  have hpg : pkGood false 1 2 (⟨#[4, 0, 0, 0, 0, 0, 0, 0, 5]⟩ : ByteArray) = true := by decide
  rw [hpg, if_pos rfl] at e3
  have hsz := pkEnc_size false 1 2 (⟨#[4, 0, 0, 0, 0, 0, 0, 0, 5]⟩ : ByteArray)
  have e4 := f17 (w0 := w0) (t := some (g15 w0)) (pkEnc false 1 2 ⟨#[4, 0, 0, 0, 0, 0, 0, 0, 5]⟩) (by rw [hsz]; decide) h'
  rw [openP_enc hpg] at e4
  simp only [pkRes, pkV] at e4
  generalize pkEnc false 1 2 (⟨#[4, 0, 0, 0, 0, 0, 0, 0, 5]⟩ : ByteArray) = u at e3 e4
  simp only [m0] at e1 e2
  dsimp only [Try.f12, Option.getD]
  simp only [reduceIte, reduceCtorEq, Nat.reduceAdd, Nat.reduceMul, Nat.reduceSub, Nat.reduceEqDiff, Nat.reduceLT, Nat.reduceLeDiff, Nat.reduceBEq, Int.reduceLT, Int.reduceLE, Int.reduceEq,
    Int.reduceNe, Int.reduceAdd, Int.reduceSub, Int.reduceMul, Int.reduceToNat, push_cast, pairsOk, locGet, locSet, nextGen, p2_int, intBin, p2_str, strBin, e1, e2, e3, e4, hnb.1, hnb.2]
end Go.Proofs.Ytmglahnoemgieaa.Ax

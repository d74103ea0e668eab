/- What single functions of the program come to: bytes that are put together. (And what follows from it, text by text.) -/
import Derived.Test.YtmglahnoemgieaaM5
import Derived.Test.YtmglahnoemgieaaM6
namespace Go.Proofs.Ytmglahnoemgieaa.Ax
open Go Go.RowKit
set_option linter.unusedSimpArgs false
set_option linter.unusedVariables false
set_option maxHeartbeats 8000000
variable {w0 : World} {t : Option Gf}
def byteCells (l : List UInt8) : List AV := l.map vU
theorem byteCells_length (l : List UInt8) : (byteCells l).length = l.length := by simp [byteCells]
theorem bytesA_eq (s : ByteArray) : bytesA s = byteCells (bl s) := rfl
theorem unbytes_cells (l : List UInt8) : unbytes (byteCells l) = some l := unbytes_bytes l
theorem one_cells (l : List UInt8) : (byteCells l).all oneA = true := by simp [byteCells, oneA, oneV]
/-- a slice of bytes of our own, or none, that lies above a block -/
def SlB (h : H) (b : Nat) (v : AV) (l : List UInt8) : Prop :=
  (l = [] ∧ v = .val (.slice none 0 0)) ∨ ∃ b2 k, v = .sl b2 k.gen 0 l.length 1 ∧ b < b2 ∧ h[b2]? = some k ∧ k.cells = byteCells l
/-- a writer at a block, with what it has -/
def WR (h : H) (b : Nat) (l : List UInt8) : Prop := ∃ v, h[b]? = some ⟨[v], 0⟩ ∧ SlB h b v l
theorem room5 {n : Nat} (hn : n ≤ 1099511627776) : roomOk Try.prog 5 n = true := by
  have h1 : ∃ i z, Try.prog.info? 5 = some i ∧ i.zero = some z ∧ (z.cells.size == i.size) = true ∧ i.bytes = 1 := by
    refine ⟨Try.t5, .int .u8 0, by kernel_rfl, by kernel_rfl, by kernel_rfl, by kernel_rfl⟩
  obtain ⟨i, z, e1, e2, e3, e4⟩ := h1
  unfold roomOk
  simp only [e1, e2, e3, e4]
  simp
  omega
theorem app_bytes {call : CallF} {h : H} {b : Nat} {v : AV} {l xs : List UInt8} (hv : SlB h b v l) (hb : b < h.length) {src : AV} (hs : ((srcCells h 1 src).orElse fun _ => srcForeign w0 1 src) = some (byteCells xs, xs.length))
    (hlen : l.length + xs.length ≤ 1099511627776) : ∃ v' h' lw, doHeap (cfg w0 t) call h (.app 5 v src) = some (.val v' h' lw) ∧ SlB h' b v' (l ++ xs) ∧ h'.take (b + 1) = h.take (b + 1) ∧ h.length ≤ h'.length ∧ lwOver lw b = true ∧ noBx v' = true ∧ oneA v' = true := by
  rcases hv with ⟨rfl, rfl⟩ | ⟨b2, k, rfl, hlt, hk, hc⟩
  · by_cases hx : xs.length = 0
    · have : xs = [] := List.eq_nil_of_length_eq_zero hx
      subst this
      refine ⟨.val (.slice none 0 0), h, none, ?_, .inl ⟨rfl, rfl⟩, rfl, Nat.le_refl _, rfl, rfl, rfl⟩
      simp only [doHeap, cfg_P, cfg_w0, sizeT_5, hs, one_cells]
      rfl
    · refine ⟨.sl h.length 0 0 xs.length 1, h ++ [⟨byteCells xs, 0⟩], none, ?_, .inr ⟨h.length, ⟨byteCells xs, 0⟩, by simp, hb, by simp, by simp⟩, ?_, by simp, rfl, rfl, rfl⟩
      · simp only [doHeap, cfg_P, cfg_w0, sizeT_5, hs, one_cells, room5 (n := xs.length) (by simpa using hlen), hx]
        rfl
      · rw [List.take_append_of_le_length (by omega)]
  · have hb2 : b2 < h.length := (List.getElem?_eq_some_iff.1 hk).1
    have hkl : k.cells.length = l.length := by rw [hc, byteCells_length]
    by_cases hx : xs.length = 0
    · have : xs = [] := List.eq_nil_of_length_eq_zero hx
      subst this
      refine ⟨.sl b2 k.gen 0 l.length 1, h, none, ?_, .inr ⟨b2, k, by simp, hlt, hk, by simpa using hc⟩, rfl, Nat.le_refl _, rfl, rfl, rfl⟩
      simp only [doHeap, cfg_P, cfg_w0, sizeT_5, hs, one_cells, hk, hkl]
      simp
    · refine ⟨.sl b2 (k.gen + 1) 0 (l.length + xs.length) 1, h.set b2 ⟨byteCells l ++ byteCells xs, k.gen + 1⟩, some b2, ?_, .inr ⟨b2, ⟨byteCells l ++ byteCells xs, k.gen + 1⟩, by simp, hlt, by simp [hb2], by simp [byteCells]⟩, ?_, by simp, by simp [lwOver]; omega, rfl, rfl⟩
      · have hroom := room5 (n := l.length + xs.length) hlen
        have hno : ¬ (0 + (l.length + xs.length) * 1 ≤ k.cells.length) := by omega
        simp only [doHeap, cfg_P, cfg_w0, sizeT_5, hs, one_cells, hk, hkl, hx, hroom]
        have e1 : List.take l.length k.cells = byteCells l := by rw [hc, ← byteCells_length, List.take_length]
        have e2 : ¬ (l.length + xs.length ≤ l.length) := by omega
        simp [e1, e2]
      · rw [List.take_set_of_le (by omega)]
end Go.Proofs.Ytmglahnoemgieaa.Ax
namespace Go.Proofs.Ytmglahnoemgieaa.Ax
open Go Go.RowKit
set_option linter.unusedSimpArgs false
set_option linter.unusedVariables false
set_option maxHeartbeats 8000000
variable {w0 : World} {t : Option Gf}
def byteOf (n i : Nat) : UInt8 := UInt8.ofNat (n / 2 ^ (8 * i) % 256)
def encB (n : Nat) : Nat → List UInt8
  | 0 => []
  | k + 1 => byteOf n k :: encB n k
theorem encB_length (n : Nat) : ∀ k, (encB n k).length = k
  | 0 => rfl
  | k + 1 => by simp [encB, encB_length n k]
theorem shr_byte (n i : Nat) (hi : i < 8) : ((n : Int).fdiv (2 ^ (min ((8 * (i : Int)).toNat) IntKind.i64.bits))) % 256 = ((byteOf n i).toNat : Int) := by
  have h1 : (8 * (i : Int)).toNat = 8 * i := by omega
  have h2 : min (8 * i) IntKind.i64.bits = 8 * i := by
    show min (8 * i) 64 = 8 * i
    omega
  rw [h1, h2]
  have h3 : (n : Int).fdiv (2 ^ (8 * i)) = ((n / 2 ^ (8 * i) : Nat) : Int) := by
    rw [Int.fdiv_eq_ediv_of_nonneg _ (Int.le_of_lt (Int.pow_pos (by decide)))]
    simp
  rw [h3]
  have h4 : (byteOf n i).toNat = n / 2 ^ (8 * i) % 256 := by
    unfold byteOf
    rw [UInt8.toNat_ofNat']
    omega
  rw [h4]
  omega
theorem wr_block {h : H} {b : Nat} {l : List UInt8} (k : WR h b l) : b < h.length := by
  obtain ⟨v, h1, _⟩ := k
  exact (List.getElem?_eq_some_iff.1 h1).1
/-- the writer's slice is laid back -/
theorem wr_store {h' : H} {b : Nat} {v' : AV} {l : List UInt8} (hv : SlB h' b v' l) (hb : b < h'.length) : WR (h'.set b ⟨[v'], 0⟩) b l := by
  refine ⟨v', by simp [hb], ?_⟩
  rcases hv with ⟨rfl, rfl⟩ | ⟨b2, k, rfl, hlt, hk, hc⟩
  · exact .inl ⟨rfl, rfl⟩
  · refine .inr ⟨b2, k, rfl, hlt, ?_, hc⟩
    rw [List.getElem?_set_ne (by omega)]
    exact hk
def R22 (b : Nat) (l : List UInt8) (n k : Nat) (lw : Option Nat) (R : Option (Ex × S)) : Prop :=
  ∃ F' loc' h' lw', R = some (.exit 0, ⟨fl 27 F', loc', h', lw'⟩) ∧ WR h' b (l ++ encB n k) ∧ (lwOver lw b = true → lwOver lw' b = true)
theorem R22.step {b : Nat} {l : List UInt8} {n k : Nat} {lw lw2 : Option Nat} {R : Option (Ex × S)} (q : R22 b (l ++ [byteOf n k]) n k lw2 R) (hl : lwOver lw b = true → lwOver lw2 b = true) : R22 b l n (k + 1) lw R := by
  obtain ⟨F', loc', h', lw', q1, q2, q3⟩ := q
  exact ⟨F', loc', h', lw', q1, by simpa [encB] using q2, fun e => q3 (hl e)⟩
theorem L22 (n b : Nat) (hn : n ≤ 9223372036854775807) : ∀ (k : Nat) (l : List UInt8) (h : H) (F : Nat → AV) (loc : Loc) (lw : Option Nat), k ≤ 8 → WR h b l → l.length + k ≤ 1099511627776 →
    F 0 = .ptr b 0 0 → F 1 = vI n → F 6 = vI ((k : Int) - 1) →
    R22 b l n k lw (acodeI (cfg w0 t) 22 (.loop (lp Try.f22 0)) ⟨fl 27 F, loc, h, lw⟩) := by
  dsimp only [lp, loopsOf, Try.f22, Option.getD, List.append_eq, List.nil_append, List.cons_append, List.getElem?_cons_zero, List.getElem?_cons_succ]
  intro k
  induction k with
  | zero =>
    intro l h F loc lw hk hw hlen h0 h1 h6
    rw [X_loop]
    simp only [reduceIte, reduceCtorEq, Nat.reduceAdd, Nat.reduceMul, Nat.reduceSub, Nat.reduceEqDiff, Nat.reduceLT, Nat.reduceLeDiff, Nat.reduceBEq, Int.reduceLT, Int.reduceLE, Int.reduceEq,
    Int.reduceNe, Int.reduceAdd, Int.reduceSub, Int.reduceMul, Int.reduceToNat, push_cast, pairsOk, locGet_set, p2_int, intBin, h0, h1, h6]
    exact ⟨_, _, _, _, rfl, by simpa [encB] using hw, fun e => e⟩
  | succ k ih =>
    intro l h F loc lw hk hw hlen h0 h1 h6
    have hbl := wr_block hw
    obtain ⟨v, hb, hv⟩ := hw
    have hkk : ((k + 1 : Nat) : Int) - 1 = (k : Int) := by omega
    rw [hkk] at h6
    have hge : (0 : Int) ≤ k := by omega
    have hm : IntKind.i64.wrap (8 * (k : Int)) = 8 * (k : Int) := by rw [wrap_i64] <;> omega
    have hnn : ¬ (8 * (k : Int) < 0) := by omega
    have hs := shr_byte n k (by omega)
    have hw1 : IntKind.i64.wrap ((k : Int) - 1) = (k : Int) - 1 := by rw [wrap_i64] <;> omega
    obtain ⟨v', h', lw', hd, hv', htk, hlh, hlw, hnb, hone⟩ := app_bytes (w0 := w0) (t := t) (call := acallI (cfg w0 t)) (xs := [byteOf n k]) hv hbl (src := .lit [vU (byteOf n k)] 1) rfl (by simp; omega)
    have hb' : h'[b]? = some ⟨[v], 0⟩ := by
      have e : (List.take (b + 1) h')[b]? = (List.take (b + 1) h)[b]? := by rw [htk]
      rw [List.getElem?_take_of_lt (by omega), List.getElem?_take_of_lt (by omega)] at e
      exact e.trans hb
    have hnv : noBx v = true ∧ nonInt (Try.prog.underlying 62) = true := by
      refine ⟨?_, by kernel_rfl⟩
      rcases hv with ⟨_, rfl⟩ | ⟨_, _, rfl, _⟩ <;> rfl
    have hbl' : b < h'.length := by omega
    have key : WR (h'.set b ⟨[v'], 0⟩) b (l ++ [byteOf n k]) := wr_store hv' hbl'
    rw [X_loop]
    simp only [reduceIte, reduceCtorEq, Nat.reduceAdd, Nat.reduceMul, Nat.reduceSub, Nat.reduceEqDiff, Nat.reduceLT, Nat.reduceLeDiff, Nat.reduceBEq, Int.reduceLT, Int.reduceLE, Int.reduceEq,
    Int.reduceNe, Int.reduceAdd, Int.reduceSub, Int.reduceMul, Int.reduceToNat, push_cast, pairsOk, locGet_set, p2_int, intBin, wrap_u8, zerosA, List.range, List.range.loop, Nat.zero_mod, getT, h0, h1, h6, hge, hb, hm, hnn, hs, hnv.1, hnv.2, hd, hb', hnb, hone, c_one hone, hw1]
    refine R22.step (ih (l ++ [byteOf n k]) _ _ _ _ (by omega) key (by simp; omega) ?_ ?_ ?_) ?_ <;> simp only [reduceIte, reduceCtorEq, Nat.reduceAdd, Nat.reduceMul, Nat.reduceSub, Nat.reduceEqDiff, Nat.reduceLT, Nat.reduceLeDiff, Nat.reduceBEq, Int.reduceLT, Int.reduceLE, Int.reduceEq,
    Int.reduceNe, Int.reduceAdd, Int.reduceSub, Int.reduceMul, Int.reduceToNat, push_cast, pairsOk, locGet_set, h0, h1, hlw, implies_true, imp_self]
theorem runI_lw {c : Cfg} (ok : CfgOk c) : RunLw (acodeI c) := by
  intro f code s x s' e h0 h
  obtain ⟨n, hn⟩ := codeI_ex e
  exact (codeN_ok ok n).1 f code s x s' hn h0 h
theorem wr_back {h h' : H} {b : Nat} {l l' : List UInt8} (k : WR h b l) (k' : WR h' b l') (ht : h'.take h.length = h) : WR h b l' := by
  have hget : ∀ (j : Nat) (x : Blk), h[j]? = some x → h'[j]? = some x := by
    intro j x hj
    rw [← ht, List.getElem?_take] at hj
    split at hj
    · exact hj
    · cases hj
  obtain ⟨v, h1, h2⟩ := k
  obtain ⟨v', h1', h2'⟩ := k'
  have e := (hget b _ h1).symm.trans h1'
  have : v = v' := by
    have e := Option.some.inj e
    injection e with e1 e2
    exact List.head_eq_of_cons_eq e1
  subst this
  refine ⟨v, h1, ?_⟩
  rcases h2 with ⟨_, rfl⟩ | ⟨b2, k, rfl, hlt, hk, hc⟩
  · rcases h2' with ⟨rfl, _⟩ | ⟨_, _, q, _⟩
    · exact .inl ⟨rfl, rfl⟩
    · cases q
  · rcases h2' with ⟨_, q⟩ | ⟨b3, k3, q, hlt3, hk3, hc3⟩
    · cases q
    · injection q with q1 q2 q3 q4 q5
      subst q1
      have e2 := (hget b2 k hk).symm.trans hk3
      cases e2
      exact .inr ⟨b2, k, by rw [q4], hlt, hk, hc3⟩
/-- what a call that puts bytes leaves -/
theorem leave_wr {h : H} {b : Nat} {l l' : List UInt8} (k : WR h b l) {s : S} (hl : LwP h s.h s.lw) (k' : WR s.h b l') (hb : lwOver s.lw b = true) {v : AV} (hv : noBx v = true) :
    ∃ h' lw, leave h (.ret v) s = some (.ret v, h', lw) ∧ WR h' b l' ∧ lwOver lw b = true := by
  unfold leave
  rw [if_pos (show noBx (outV (.ret v)) = true from hv)]
  by_cases hc : (lwOver s.lw h.length && belowA h.length (outV (.ret v))) = true
  · rw [if_pos hc]
    rw [Bool.and_eq_true] at hc
    refine ⟨h, none, rfl, wr_back k k' ?_, rfl⟩
    have := hl.2 h.length (Nat.le_refl _) hc.1
    rw [this, List.take_length]
  · rw [if_neg hc]
    refine ⟨s.h, _, rfl, k', ?_⟩
    split
    · rfl
    · exact hb
theorem f22 (ok : CfgOk (cfg w0 t)) (n b k : Nat) (hn : n ≤ 9223372036854775807) (hk : k ≤ 8) (l : List UInt8) (h : H) (hw : WR h b l) (hlen : l.length + k ≤ 1099511627776) :
    ∃ h' lw, acallI (cfg w0 t) 22 [.ptr b 0 0, vI n, vI k] h = some (.ret (.tup []), h', lw) ∧ WR h' b (l ++ encB n k) ∧ lwOver lw b = true := by
  have hw1 : IntKind.i64.wrap ((k : Int) - 1) = (k : Int) - 1 := by rw [wrap_i64] <;> omega
  have body : ∃ s, acodeI (cfg w0 t) 22 (Try.f22.body.getD .skip) ⟨fl ([AV.ptr b 0 0, vI n, vI k].length + (Try.f22.ntmps - [AV.ptr b 0 0, vI n, vI k].length)) (ini [.ptr b 0 0, vI n, vI k]), [], h, none⟩ = some (.normal, s) ∧ WR s.h b (l ++ encB n k) ∧ lwOver s.lw b = true := by
    obtain ⟨G, hG⟩ := skol (P := fun a : (Nat → AV) × Loc × Option Nat => a.1 0 = .ptr b 0 0 ∧ a.1 1 = vI n ∧ a.1 6 = vI ((k : Int) - 1))
      (Q := fun a b' => acodeI (cfg w0 t) 22 (.loop (lp Try.f22 0)) ⟨fl 27 a.1, a.2.1, h, a.2.2⟩ = some (.exit 0, ⟨fl 27 b'.1, b'.2.1, b'.2.2.1, b'.2.2.2⟩) ∧ WR b'.2.2.1 b (l ++ encB n k) ∧ (lwOver a.2.2 b = true → lwOver b'.2.2.2 b = true)) (β := (Nat → AV) × Loc × H × Option Nat) (fun a ha => by
        obtain ⟨F', loc', h', lw', q1, q2, q3⟩ := L22 (w0 := w0) (t := t) n b hn k l h a.1 a.2.1 a.2.2 hk hw hlen ha.1 ha.2.1 ha.2.2
        exact ⟨(F', loc', h', lw'), q1, q2, q3⟩)
    have G1 := fun F loc lw hc => (hG (F, loc, lw) hc).1
    have G2 := fun F loc lw hc => (hG (F, loc, lw) hc).2.1
    have G3 := fun F loc lw hc => (hG (F, loc, lw) hc).2.2
    clear hG
    dsimp only [lp, loopsOf, Try.f22, Option.getD, List.append_eq, List.nil_append, List.cons_append, List.getElem?_cons_zero, List.getElem?_cons_succ] at G1 G2 G3 ⊢
    simp only [reduceIte, reduceCtorEq, Nat.reduceAdd, Nat.reduceMul, Nat.reduceSub, Nat.reduceEqDiff, Nat.reduceLT, Nat.reduceLeDiff, Nat.reduceBEq, Int.reduceLT, Int.reduceLE, Int.reduceEq,
    Int.reduceNe, Int.reduceAdd, Int.reduceSub, Int.reduceMul, Int.reduceToNat, push_cast, pairsOk, locGet_set, p2_int, intBin, hw1, G1]
    refine ⟨_, rfl, ?_, ?_⟩
    · exact G2 _ _ _ (by simp only [reduceIte, reduceCtorEq, Nat.reduceAdd, Nat.reduceMul, Nat.reduceSub, Nat.reduceEqDiff, Nat.reduceLT, Nat.reduceLeDiff, Nat.reduceBEq, Int.reduceLT, Int.reduceLE, Int.reduceEq,
    Int.reduceNe, Int.reduceAdd, Int.reduceSub, Int.reduceMul, Int.reduceToNat, push_cast, pairsOk, locGet_set])
    · exact G3 _ _ _ (by simp only [reduceIte, reduceCtorEq, Nat.reduceAdd, Nat.reduceMul, Nat.reduceSub, Nat.reduceEqDiff, Nat.reduceLT, Nat.reduceLeDiff, Nat.reduceBEq, Int.reduceLT, Int.reduceLE, Int.reduceEq,
    Int.reduceNe, Int.reduceAdd, Int.reduceSub, Int.reduceMul, Int.reduceToNat, push_cast, pairsOk, locGet_set]) rfl
  obtain ⟨s, h1, h2, h3⟩ := body
  have hl := runI_lw ok _ _ _ _ _ h1 h (LwP.refl _ _)
  obtain ⟨h', lw, q1, q2, q3⟩ := leave_wr hw hl h2 h3 (v := .tup []) rfl
  refine ⟨h', lw, ?_, q2, q3⟩
  rw [E22, h1]
  exact q1
end Go.Proofs.Ytmglahnoemgieaa.Ax
namespace Go.Proofs.Ytmglahnoemgieaa.Ax
open Go Go.RowKit
set_option linter.unusedSimpArgs false
set_option linter.unusedVariables false
set_option maxHeartbeats 8000000
variable {w0 : World} {t : Option Gf}
def encS (s : ByteArray) : List UInt8 := encB s.size 1 ++ bl s
theorem wr_read {h : H} {b : Nat} {l : List UInt8} (k : WR h b l) : ∃ v, h[b]? = some ⟨[v], 0⟩ ∧ SlB h b v l ∧ noBx v = true := by
  obtain ⟨v, h1, h2⟩ := k
  refine ⟨v, h1, h2, ?_⟩
  rcases h2 with ⟨_, rfl⟩ | ⟨_, _, rfl, _⟩ <;> rfl
/-- one append to the writer's slice, and the store back -/
theorem wr_app {call : CallF} {h : H} {b : Nat} {v : AV} {l xs : List UInt8} (hb : h[b]? = some ⟨[v], 0⟩) (hv : SlB h b v l) {src : AV} (hs : ((srcCells h 1 src).orElse fun _ => srcForeign w0 1 src) = some (byteCells xs, xs.length))
    (hlen : l.length + xs.length ≤ 1099511627776) : ∃ v' h' lw, doHeap (cfg w0 t) call h (.app 5 v src) = some (.val v' h' lw) ∧ h'[b]? = some ⟨[v], 0⟩ ∧ WR (h'.set b ⟨[v'], 0⟩) b (l ++ xs) ∧ lwOver lw b = true ∧ noBx v' = true ∧ oneA v' = true := by
  have hbl : b < h.length := (List.getElem?_eq_some_iff.1 hb).1
  obtain ⟨v', h', lw', hd, hv', htk, hlh, hlw, hnb, hone⟩ := app_bytes (w0 := w0) (t := t) (call := call) hv hbl hs hlen
  have hb' : h'[b]? = some ⟨[v], 0⟩ := by
    have e : (List.take (b + 1) h')[b]? = (List.take (b + 1) h)[b]? := by rw [htk]
    rw [List.getElem?_take_of_lt (by omega), List.getElem?_take_of_lt (by omega)] at e
    exact e.trans hb
  exact ⟨v', h', lw', hd, hb', wr_store hv' (by omega), hlw, hnb, hone⟩
theorem f47 (ok : CfgOk (cfg w0 t)) (b : Nat) (s : ByteArray) (hs : s.size ≤ 1099511627775) (l : List UInt8) (h : H) (hw : WR h b l) (hlen : l.length + s.size + 1 ≤ 1099511627776) :
    ∃ h' lw, acallI (cfg w0 t) 47 [.ptr b 0 0, vS s] h = some (.ret (.tup []), h', lw) ∧ WR h' b (l ++ encS s) ∧ lwOver lw b = true := by
  obtain ⟨h1, lw1, e1, w1, o1⟩ := f22 ok s.size b 1 (by omega) (by omega) l h hw (by omega)
  rw [show ((1 : Nat) : Int) = 1 from rfl] at e1
  obtain ⟨v, hb, hv, hnv⟩ := wr_read w1
  obtain ⟨v', h2, lw2, hd, hb2, hw2, ho2, hnb, hone⟩ := wr_app (w0 := w0) (t := t) (call := acallI (cfg w0 t)) (xs := bl s) hb hv (src := vS s) (by rw [bl_len]; rfl) (by rw [bl_len, List.length_append, encB_length]; omega)
  have body : ∃ st, acodeI (cfg w0 t) 47 (Try.f47.body.getD .skip) ⟨fl ([AV.ptr b 0 0, vS s].length + (Try.f47.ntmps - [AV.ptr b 0 0, vS s].length)) (ini [.ptr b 0 0, vS s]), [], h, none⟩ = some (.normal, st) ∧ WR st.h b (l ++ encS s) ∧ lwOver st.lw b = true := by
    dsimp only [Try.f47, Option.getD]
    simp only [reduceIte, reduceCtorEq, Nat.reduceAdd, Nat.reduceMul, Nat.reduceSub, Nat.reduceEqDiff, Nat.reduceLT, Nat.reduceLeDiff, Nat.reduceBEq, Int.reduceLT, Int.reduceLE, Int.reduceEq,
    Int.reduceNe, Int.reduceAdd, Int.reduceSub, Int.reduceMul, Int.reduceToNat, push_cast, pairsOk, locGet_set, len_str Try.underlying9, e1, hb, hnv, hd, hb2, hnb, hone, c_one hone]
    refine ⟨_, rfl, ?_, ?_⟩
    · rw [List.append_assoc] at hw2
      exact hw2
    · simp only [lwOver_min, o1, ho2, lwo_some, Bool.true_and, Nat.le_refl, decide_true]
  obtain ⟨st, q1, q2, q3⟩ := body
  have hl := runI_lw ok _ _ _ _ _ q1 h (LwP.refl _ _)
  obtain ⟨h', lw, r1, r2, r3⟩ := leave_wr hw hl q2 q3 (v := .tup []) rfl
  refine ⟨h', lw, ?_, r2, r3⟩
  rw [E47, q1]
  exact r1
def encP (s : ByteArray) (a c : Nat) : List UInt8 := encS s ++ encB a 1 ++ encB c 2
theorem encS_length (s : ByteArray) : (encS s).length = s.size + 1 := by unfold encS; rw [List.length_append, encB_length, bl_len]; omega
theorem encP_length (s : ByteArray) (a c : Nat) : (encP s a c).length = s.size + 4 := by unfold encP; rw [List.length_append, List.length_append, encB_length, encB_length, encS_length]
theorem f23 (ok : CfgOk (cfg w0 t)) (b : Nat) (s : ByteArray) (a c : Nat) (ha : a ≤ 9223372036854775807) (hc : c ≤ 9223372036854775807) (hs : s.size ≤ 1099511627775) (l : List UInt8) (h : H) (hw : WR h b l) (hlen : l.length + s.size + 4 ≤ 1099511627776) :
    ∃ h' lw, acallI (cfg w0 t) 23 [.ptr b 0 0, vS s, .agg [vI a, vI c]] h = some (.ret (.tup []), h', lw) ∧ WR h' b (l ++ encP s a c) ∧ lwOver lw b = true := by
  obtain ⟨h1, lw1, e1, w1, o1⟩ := f47 ok b s hs l h hw (by omega)
  obtain ⟨h2, lw2, e2, w2, o2⟩ := f22 ok a b 1 ha (by omega) _ h1 w1 (by rw [List.length_append, encS_length]; omega)
  obtain ⟨h3, lw3, e3, w3, o3⟩ := f22 ok c b 2 hc (by omega) _ h2 w2 (by rw [List.length_append, List.length_append, encB_length, encS_length]; omega)
  rw [show ((1 : Nat) : Int) = 1 from rfl] at e2
  rw [show ((2 : Nat) : Int) = 2 from rfl] at e3
  have body : ∃ st, acodeI (cfg w0 t) 23 (Try.f23.body.getD .skip) ⟨fl ([AV.ptr b 0 0, vS s, .agg [vI a, vI c]].length + (Try.f23.ntmps - [AV.ptr b 0 0, vS s, .agg [vI a, vI c]].length)) (ini [.ptr b 0 0, vS s, .agg [vI a, vI c]]), [], h, none⟩ = some (.normal, st) ∧ WR st.h b (l ++ encP s a c) ∧ lwOver st.lw b = true := by
    dsimp only [Try.f23, Option.getD]
    simp only [reduceIte, reduceCtorEq, Nat.reduceAdd, Nat.reduceMul, Nat.reduceSub, Nat.reduceEqDiff, Nat.reduceLT, Nat.reduceLeDiff, Nat.reduceBEq, Int.reduceLT, Int.reduceLE, Int.reduceEq,
    Int.reduceNe, Int.reduceAdd, Int.reduceSub, Int.reduceMul, Int.reduceToNat, push_cast, pairsOk, locGet, locSet, nextGen, e1, e2, e3]
    refine ⟨_, rfl, ?_, ?_⟩
    · simpa [encP, List.append_assoc] using w3
    · simp only [lwOver_min, o1, o2, o3, Bool.and_self]
  obtain ⟨st, q1, q2, q3⟩ := body
  have hl := runI_lw ok _ _ _ _ _ q1 h (LwP.refl _ _)
  obtain ⟨h', lw, r1, r2, r3⟩ := leave_wr hw hl q2 q3 (v := .tup []) rfl
  refine ⟨h', lw, ?_, r2, r3⟩
  rw [E23, q1]
  exact r1
end Go.Proofs.Ytmglahnoemgieaa.Ax
namespace Go.Proofs.Ytmglahnoemgieaa.Ax
open Go Go.RowKit
set_option linter.unusedSimpArgs false
set_option linter.unusedVariables false
set_option maxHeartbeats 8000000
variable {w0 : World} {t : Option Gf}
/-- what lies below a mark stays -/
theorem call_low (ok : CfgOk (cfg w0 t)) {f : FuncId} {args : List AV} {h h' : H} {out : Out} {lw : Option Nat} (e : acallI (cfg w0 t) f args h = some (out, h', lw)) {b : Nat} (hl : lwOver lw b = true) (hb : b ≤ h.length) : h'.take b = h.take b :=
  ((lw_acall (runI_lw ok) (tab_lw ok)) _ _ _ _ _ _ e).1.2 b hb hl
theorem low_get {h h' : H} {b j : Nat} (ht : h'.take b = h.take b) (hj : j < b) : h'[j]? = h[j]? := by
  have e : (List.take b h')[j]? = (List.take b h)[j]? := by rw [ht]
  rwa [List.getElem?_take_of_lt hj, List.getElem?_take_of_lt hj] at e
theorem SlR.keep {h h' : H} {v : AV} {cells : List AV} {n es b : Nat} (k : SlR h v cells n es) (hv : belowA b v = true) (ht : h'.take b = h.take b) : SlR h' v cells n es := by
  rcases k with ⟨b2, g, k, rfl, h1, h2, h3⟩ | ⟨h1, h2⟩
  · simp only [belowA, decide_eq_true_eq] at hv
    exact .inl ⟨b2, g, k, rfl, (low_get ht hv).trans h1, h2, h3⟩
  · exact .inr ⟨h1, h2⟩
/-- the bytes of a step -/
def nat (n : Int) : Nat := n.toNat
def encL (p : Pl) : List UInt8 := encS p.book ++ encP p.sheet p.col.toNat p.row.toNat
def encLs (l : List Pl) : List UInt8 := l.flatMap encL
def encE (e : Ed) : List UInt8 := encP e.sheet e.col.toNat e.row.toNat ++ encB e.reads.length 2 ++ encLs e.reads
def plNat (p : Pl) : Prop := 0 ≤ p.col ∧ p.col ≤ 9223372036854775807 ∧ 0 ≤ p.row ∧ p.row ≤ 9223372036854775807 ∧ p.book.size ≤ 1000 ∧ p.sheet.size ≤ 1000
theorem encL_length (p : Pl) : (encL p).length = p.book.size + p.sheet.size + 5 := by unfold encL; rw [List.length_append, encS_length, encP_length]; omega
def R25 (b : Nat) (out : List UInt8) (R : Option (Ex × S)) : Prop :=
  ∃ F' loc' h' lw', R = some (.exit 0, ⟨fl 35 F', loc', h', lw'⟩) ∧ WR h' b out ∧ lwOver lw' b = true
theorem L25 (ok : CfgOk (cfg w0 t)) (b : Nat) (ls : List Pl) (hnat : ∀ p ∈ ls, plNat p) (b2 g : Nat) (K : Blk) (hlow : b2 < b) (hKg : K.gen = g) (hK : K.cells = plsC ls) (hlen : ls.length ≤ 4096) : ∀ (n i : Nat) (l : List UInt8) (h : H) (F : Nat → AV) (loc : Loc) (lw : Option Nat), i + n = ls.length →
    WR h b l → h[b2]? = some K → l.length + n * 3000 ≤ 1000000000 → lwOver lw b = true → F 0 = .ptr b 0 0 → F 18 = .sl b2 g 0 ls.length 4 → F 19 = vI ls.length → F 20 = vI i →
    R25 b (l ++ encLs (ls.drop i)) (acodeI (cfg w0 t) 25 (.loop (lp Try.f25 0)) ⟨fl 35 F, loc, h, lw⟩) := by
  dsimp only [lp, loopsOf, Try.f25, Option.getD, List.append_eq, List.nil_append, List.cons_append, List.getElem?_cons_zero, List.getElem?_cons_succ]
  intro n
  induction n with
  | zero =>
    intro i l h F loc lw hi hw hb2 hll hlw h0 h18 h19 h20
    have e : ¬ ((i : Int) < ls.length) := by omega
    have hnil : ls.drop i = [] := List.drop_eq_nil_of_le (by omega)
    rw [hnil, X_loop]
    simp only [reduceIte, reduceCtorEq, Nat.reduceAdd, Nat.reduceMul, Nat.reduceSub, Nat.reduceEqDiff, Nat.reduceLT, Nat.reduceLeDiff, Nat.reduceBEq, Int.reduceLT, Int.reduceLE, Int.reduceEq,
    Int.reduceNe, Int.reduceAdd, Int.reduceSub, Int.reduceMul, Int.reduceToNat, push_cast, pairsOk, locGet_set, p2_int, intBin, h18, h19, h20, e]
    exact ⟨_, _, _, _, rfl, by simpa [encLs] using hw, hlw⟩
  | succ n ih =>
    intro i l h F loc lw hi hw hb2 hll hlw h0 h18 h19 h20
    have e : (i : Int) < ls.length := by omega
    have hlt : i < ls.length := by omega
    have hp : ls[i]? = some ls[i] := List.getElem?_eq_getElem hlt
    have hdr := List.drop_eq_getElem_cons hlt
    have hpn := hnat ls[i] (List.getElem_mem hlt)
    obtain ⟨hld1, hld⟩ := load_pl hb2 hK hp
    have hwr : IntKind.i64.wrap ((i : Int) + 1) = ((i + 1 : Nat) : Int) := by rw [wrap_i64] <;> omega
    generalize ls[i] = p at hp hdr hld hpn
    have hn : (0 : Int) ≤ i := by omega
    obtain ⟨p1, p2, p3, p4, p5, p6⟩ := hpn
    obtain ⟨h1, lw1, e1, w1, o1⟩ := f47 ok b p.book (by omega) l h hw (by omega)
    obtain ⟨h2, lw2, e2, w2, o2⟩ := f23 ok b p.sheet p.col.toNat p.row.toNat (by omega) (by omega) (by omega) _ h1 w1 (by rw [List.length_append, encS_length]; omega)
    rw [Int.toNat_of_nonneg p1, Int.toNat_of_nonneg p3] at e2
    have t1 := call_low ok e1 o1 (Nat.le_of_lt (wr_block hw))
    have t2 := call_low ok e2 o2 (Nat.le_of_lt (wr_block w1))
    have hb22 : h2[b2]? = some K := (low_get t2 hlow).trans ((low_get t1 hlow).trans hb2)
    rw [hdr]
    have henc : l ++ encLs (p :: ls.drop (i + 1)) = (l ++ encS p.book ++ encP p.sheet p.col.toNat p.row.toNat) ++ encLs (ls.drop (i + 1)) := by
      simp [encLs, encL, List.append_assoc]
    rw [henc, X_loop]
    unfold plC at hld
    generalize hout : (l ++ encS p.book ++ encP p.sheet p.col.toNat p.row.toNat) ++ encLs (ls.drop (i + 1)) = out
    simp only [reduceIte, reduceCtorEq, Nat.reduceAdd, Nat.reduceMul, Nat.reduceSub, Nat.reduceEqDiff, Nat.reduceLT, Nat.reduceLeDiff, Nat.reduceBEq, Int.reduceLT, Int.reduceLE, Int.reduceEq,
    Int.reduceNe, Int.reduceAdd, Int.reduceSub, Int.reduceMul, Int.reduceToNat, push_cast, pairsOk, locGet_set, p2_int, intBin, idx_sl elemSize_83, h0, h18, h19, h20, e, hn, hb2, hKg, hld1, hld, e1, e2, hwr]
    subst hout
    refine ih (i + 1) _ _ _ _ _ (by omega) w2 hb22 ?_ ?_ ?_ ?_ ?_ ?_
    · rw [List.length_append, List.length_append, encS_length, encP_length]; omega
    · simp only [lwOver_min, hlw, o1, o2, Bool.and_self]
    all_goals simp only [reduceIte, reduceCtorEq, Nat.reduceAdd, Nat.reduceMul, Nat.reduceSub, Nat.reduceEqDiff, Nat.reduceLT, Nat.reduceLeDiff, Nat.reduceBEq, Int.reduceLT, Int.reduceLE, Int.reduceEq,
    Int.reduceNe, Int.reduceAdd, Int.reduceSub, Int.reduceMul, Int.reduceToNat, push_cast, pairsOk, locGet_set, h0, h18, h19]
theorem L25z (b : Nat) (l : List UInt8) (h : H) (F : Nat → AV) (loc : Loc) (lw : Option Nat) (hw : WR h b l) (hlw : lwOver lw b = true) (h19 : F 19 = vI 0) (h20 : F 20 = vI 0) :
    R25 b l (acodeI (cfg w0 t) 25 (.loop (lp Try.f25 0)) ⟨fl 35 F, loc, h, lw⟩) := by
  dsimp only [lp, loopsOf, Try.f25, Option.getD, List.append_eq, List.nil_append, List.cons_append, List.getElem?_cons_zero, List.getElem?_cons_succ]
  rw [X_loop]
  simp only [reduceIte, reduceCtorEq, Nat.reduceAdd, Nat.reduceMul, Nat.reduceSub, Nat.reduceEqDiff, Nat.reduceLT, Nat.reduceLeDiff, Nat.reduceBEq, Int.reduceLT, Int.reduceLE, Int.reduceEq,
    Int.reduceNe, Int.reduceAdd, Int.reduceSub, Int.reduceMul, Int.reduceToNat, push_cast, pairsOk, locGet_set, p2_int, intBin, h19, h20]
  exact ⟨_, _, _, _, rfl, hw, hlw⟩
theorem L25' (ok : CfgOk (cfg w0 t)) (b : Nat) (ls : List Pl) (hnat : ∀ p ∈ ls, plNat p) (rv : AV) (hlen : ls.length ≤ 4096) (l : List UInt8) (h : H) (hS : SlR h rv (plsC ls) ls.length 4) (hlow : belowA b rv = true) (F : Nat → AV) (loc : Loc) (lw : Option Nat)
    (hw : WR h b l) (hll : l.length + ls.length * 3000 ≤ 1000000000) (hlw : lwOver lw b = true) (h0 : F 0 = .ptr b 0 0) (h18 : F 18 = rv) (h19 : F 19 = vI ls.length) (h20 : F 20 = vI 0) :
    R25 b (l ++ encLs ls) (acodeI (cfg w0 t) 25 (.loop (lp Try.f25 0)) ⟨fl 35 F, loc, h, lw⟩) := by
  rcases hS with ⟨b2, g, K, rfl, hb2, hg, hK⟩ | ⟨hz, rfl⟩
  · simp only [belowA, decide_eq_true_eq] at hlow
    exact L25 ok b ls hnat b2 g K hlow hg hK hlen ls.length 0 l h F loc lw (by omega) hw hb2 hll hlw h0 h18 h19 h20
  · have hnil := List.eq_nil_of_length_eq_zero hz
    subst hnil
    rw [show l ++ encLs [] = l from by simp [encLs]]
    exact L25z b l h F loc lw hw hlw h19 h20
def edNat (e : Ed) : Prop := 0 ≤ e.col ∧ e.col ≤ 9223372036854775807 ∧ 0 ≤ e.row ∧ e.row ≤ 9223372036854775807 ∧ e.sheet.size ≤ 1000 ∧ (∀ p ∈ e.reads, plNat p) ∧ e.reads.length ≤ 4096
theorem encE_length (e : Ed) : (encE e).length = e.sheet.size + 6 + (encLs e.reads).length := by unfold encE; rw [List.length_append, List.length_append, encP_length, encB_length]
theorem f25 (ok : CfgOk (cfg w0 t)) (b : Nat) (e : Ed) (he : edNat e) (rv : AV) (l : List UInt8) (h : H) (hS : SlR h rv (plsC e.reads) e.reads.length 4) (hlow : belowA b rv = true) (hw : WR h b l) (hll : l.length + 3000 + e.reads.length * 3000 ≤ 1000000000) :
    ∃ h' lw, acallI (cfg w0 t) 25 [.ptr b 0 0, .agg [vS e.sheet, vI e.col, vI e.row, rv]] h = some (.ret (.tup []), h', lw) ∧ WR h' b (l ++ encE e) ∧ lwOver lw b = true := by
  obtain ⟨p1, p2, p3, p4, p5, p6, p7⟩ := he
  obtain ⟨h1, lw1, e1, w1, o1⟩ := f23 ok b e.sheet e.col.toNat e.row.toNat (by omega) (by omega) (by omega) l h hw (by omega)
  obtain ⟨h2, lw2, e2, w2, o2⟩ := f22 ok e.reads.length b 2 (by omega) (by omega) _ h1 w1 (by rw [List.length_append, encP_length]; omega)
  rw [Int.toNat_of_nonneg p1, Int.toNat_of_nonneg p3] at e1
  rw [show ((2 : Nat) : Int) = 2 from rfl] at e2
  have t1 := call_low ok e1 o1 (Nat.le_of_lt (wr_block hw))
  have t2 := call_low ok e2 o2 (Nat.le_of_lt (wr_block w1))
  have hS2 := (hS.keep hlow t1).keep hlow t2
  have hLn := hS.len.lenA (P := Try.prog) Try.underlying83
  have hnb : noBx rv = true ∧ oneA rv = true := by rcases hS with ⟨_, _, _, rfl, _⟩ | ⟨_, rfl⟩ <;> exact ⟨rfl, rfl⟩
  have body : ∃ st, acodeI (cfg w0 t) 25 (Try.f25.body.getD .skip) ⟨fl ([AV.ptr b 0 0, .agg [vS e.sheet, vI e.col, vI e.row, rv]].length + (Try.f25.ntmps - [AV.ptr b 0 0, .agg [vS e.sheet, vI e.col, vI e.row, rv]].length)) (ini [.ptr b 0 0, .agg [vS e.sheet, vI e.col, vI e.row, rv]]), [], h, none⟩ = some (.normal, st) ∧ WR st.h b (l ++ encE e) ∧ lwOver st.lw b = true := by
    obtain ⟨G, hG⟩ := skol (P := fun a : (Nat → AV) × Loc × Option Nat => a.1 0 = .ptr b 0 0 ∧ a.1 18 = rv ∧ a.1 19 = vI e.reads.length ∧ a.1 20 = vI 0 ∧ lwOver a.2.2 b = true)
      (Q := fun a b' => acodeI (cfg w0 t) 25 (.loop (lp Try.f25 0)) ⟨fl 35 a.1, a.2.1, h2, a.2.2⟩ = some (.exit 0, ⟨fl 35 b'.1, b'.2.1, b'.2.2.1, b'.2.2.2⟩) ∧ WR b'.2.2.1 b (l ++ encP e.sheet e.col.toNat e.row.toNat ++ encB e.reads.length 2 ++ encLs e.reads) ∧ lwOver b'.2.2.2 b = true) (β := (Nat → AV) × Loc × H × Option Nat) (fun a ha => by
        obtain ⟨F', loc', h', lw', q1, q2, q3⟩ := L25' ok b e.reads p6 rv p7 _ h2 hS2 hlow a.1 a.2.1 a.2.2 w2 (by rw [List.length_append, List.length_append, encP_length, encB_length]; omega) ha.2.2.2.2 ha.1 ha.2.1 ha.2.2.1 ha.2.2.2.1
        exact ⟨(F', loc', h', lw'), q1, q2, q3⟩)
    have G1 := fun F loc lw hc => (hG (F, loc, lw) hc).1
    have G2 := fun F loc lw hc => (hG (F, loc, lw) hc).2.1
    have G3 := fun F loc lw hc => (hG (F, loc, lw) hc).2.2
    clear hG
    dsimp only [lp, loopsOf, Try.f25, Option.getD, List.append_eq, List.nil_append, List.cons_append, List.getElem?_cons_zero, List.getElem?_cons_succ] at G1 G2 G3 ⊢
    simp only [reduceIte, reduceCtorEq, Nat.reduceAdd, Nat.reduceMul, Nat.reduceSub, Nat.reduceEqDiff, Nat.reduceLT, Nat.reduceLeDiff, Nat.reduceBEq, Int.reduceLT, Int.reduceLE, Int.reduceEq,
    Int.reduceNe, Int.reduceAdd, Int.reduceSub, Int.reduceMul, Int.reduceToNat, push_cast, pairsOk, locGet_set, hnb.1, hnb.2, e1, e2, o1, o2, hLn, G1]
    refine ⟨_, rfl, ?_, ?_⟩
    · have hfin : ∀ x, WR x b (l ++ encP e.sheet e.col.toNat e.row.toNat ++ encB e.reads.length 2 ++ encLs e.reads) → WR x b (l ++ encE e) := by
        intro x hx
        simpa [encE, List.append_assoc] using hx
      exact hfin _ (G2 _ _ _ (by simp only [reduceIte, reduceCtorEq, Nat.reduceAdd, Nat.reduceMul, Nat.reduceSub, Nat.reduceEqDiff, Nat.reduceLT, Nat.reduceLeDiff, Nat.reduceBEq, Int.reduceLT, Int.reduceLE, Int.reduceEq,
    Int.reduceNe, Int.reduceAdd, Int.reduceSub, Int.reduceMul, Int.reduceToNat, push_cast, pairsOk, locGet_set, o1, o2]))
    · exact G3 _ _ _ (by simp only [reduceIte, reduceCtorEq, Nat.reduceAdd, Nat.reduceMul, Nat.reduceSub, Nat.reduceEqDiff, Nat.reduceLT, Nat.reduceLeDiff, Nat.reduceBEq, Int.reduceLT, Int.reduceLE, Int.reduceEq,
    Int.reduceNe, Int.reduceAdd, Int.reduceSub, Int.reduceMul, Int.reduceToNat, push_cast, pairsOk, locGet_set, o1, o2])
  obtain ⟨st, q1, q2, q3⟩ := body
  have hl := runI_lw ok _ _ _ _ _ q1 h (LwP.refl _ _)
  obtain ⟨h', lw, r1, r2, r3⟩ := leave_wr hw hl q2 q3 (v := .tup []) rfl
  refine ⟨h', lw, ?_, r2, r3⟩
  rw [E25, q1]
  exact r1
end Go.Proofs.Ytmglahnoemgieaa.Ax
namespace Go.Proofs.Ytmglahnoemgieaa.Ax
open Go Go.RowKit
set_option linter.unusedSimpArgs false
set_option linter.unusedVariables false
set_option maxHeartbeats 8000000
set_option maxRecDepth 4000
variable {w0 : World} {t : Option Gf}
theorem top_get {h : H} {k : Blk} : (h ++ [k])[h.length]? = some k := by simp
theorem top_set {h : H} {k k' : Blk} : (h ++ [k]).set h.length k' = h ++ [k'] := by simp
/-- bytes appended to a slice of our own, the newest -/
theorem app_top {call : CallF} {h : H} {l xs : List UInt8} {g : Nat} {src : AV} (hs : ((srcCells (h ++ [⟨byteCells l, g⟩]) 1 src).orElse fun _ => srcForeign w0 1 src) = some (byteCells xs, xs.length))
    (hlen : l.length + xs.length ≤ 1099511627776) : ∃ g' lw, doHeap (cfg w0 t) call (h ++ [⟨byteCells l, g⟩]) (.app 5 (.sl h.length g 0 l.length 1) src) = some (.val (.sl h.length g' 0 (l ++ xs).length 1) (h ++ [⟨byteCells (l ++ xs), g'⟩]) lw) ∧ lwOver lw h.length = true := by
  have hkl : (byteCells l).length = l.length := byteCells_length l
  by_cases hx : xs.length = 0
  · have : xs = [] := List.eq_nil_of_length_eq_zero hx
    subst this
    refine ⟨g, none, ?_, rfl⟩
    rw [List.append_nil]
    simp only [doHeap, cfg_P, cfg_w0, sizeT_5, hs, one_cells, top_get, hkl]
    simp
  · refine ⟨g + 1, some h.length, ?_, by simp [lwOver]⟩
    have hroom := room5 (n := l.length + xs.length) hlen
    simp only [doHeap, cfg_P, cfg_w0, sizeT_5, hs, one_cells, top_get, hkl, hx, hroom, top_set]
    have e1 : List.take l.length (byteCells l) = byteCells l := by rw [← byteCells_length, List.take_length]
    have e2 : ¬ (l.length + xs.length ≤ l.length) := by omega
    have e3 : byteCells (l ++ xs) = byteCells l ++ byteCells xs := by simp [byteCells]
    simp [e1, e2, e3]
theorem unb_take {l : List UInt8} : unbytes (List.take l.length (byteCells l)) = some l := by
  rw [← byteCells_length, List.take_length, unbytes_cells]
def u8 (n : Int) : UInt8 := UInt8.ofNat (n % 256).toNat
theorem u8_eq (n : Int) : n % 256 = ((u8 n).toNat : Int) := by
  unfold u8
  rw [UInt8.toNat_ofNat']
  have : (0 : Int) ≤ n % 256 ∧ n % 256 < 256 := by omega
  omega
/-- a number as 64 bits -/
def u64 (n : Int) : Nat := (n % 18446744073709551616).toNat
theorem u64_eq (n : Int) : n % 18446744073709551616 = (u64 n : Int) := by unfold u64; omega
theorem u64_lt (n : Int) : u64 n < 18446744073709551616 := by unfold u64; omega
def encV (v : Val) : List UInt8 := u8 v.1 ::
  (if v.1 = 1 then encB (u64 v.2.1) 8
   else if v.1 = 2 then u8 v.2.2.1.size :: bl v.2.2.1
   else if v.1 = 3 then [u8 (if v.2.2.2.1 then 1 else 0)]
   else if v.1 = 4 then [u8 v.2.2.2.2] else [])
theorem u8_cells (x : UInt8) : [AV.val (.int .u8 x.toNat)] = byteCells [x] := rfl
def R24 (h : H) (out : List UInt8) (R : Option (Ex × S)) : Prop :=
  ∃ F' loc' g' lw', R = some (.exit 1, ⟨fl 62 F', loc', h ++ [⟨byteCells out, g'⟩], lw'⟩) ∧ F' 4 = .sl h.length g' 0 out.length 1 ∧ lwOver lw' h.length = true
theorem L24 (h : H) (k n : Int) (s : ByteArray) (b : Bool) (f : Int) : ∀ (i : Nat) (l : List UInt8) (g : Nat) (F : Nat → AV) (loc : Loc) (lw : Option Nat), i ≤ 8 → l.length + i ≤ 100 → lwOver lw h.length = true →
    F 1 = .bx 1 1 0 → F 4 = .sl h.length g 0 l.length 1 → F 5 = vI ((i : Int) - 1) → locGet loc 1 = some (1, .cells (vV k n s b f)) →
    R24 h (l ++ encB (u64 n) i) (acodeI (cfg w0 t) 24 (.loop (lp Try.f24 0)) ⟨fl 62 F, loc, h ++ [⟨byteCells l, g⟩], lw⟩) := by
  dsimp only [lp, loopsOf, Try.f24, Option.getD, List.append_eq, List.nil_append, List.cons_append, List.getElem?_cons_zero, List.getElem?_cons_succ]
  intro i
  induction i with
  | zero =>
    intro l g F loc lw hi hl hlw h1 h4 h5 hb
    rw [X_loop, encB, List.append_nil]
    simp only [reduceIte, reduceCtorEq, Nat.reduceAdd, Nat.reduceMul, Nat.reduceSub, Nat.reduceEqDiff, Nat.reduceLT, Nat.reduceLeDiff, Nat.reduceBEq, Int.reduceLT, Int.reduceLE, Int.reduceEq,
    Int.reduceNe, Int.reduceAdd, Int.reduceSub, Int.reduceMul, Int.reduceToNat, push_cast, pairsOk, locGet_set, p2_int, intBin, h1, h4, h5]
    exact ⟨_, _, g, _, rfl, by simp only [reduceIte, reduceCtorEq, Nat.reduceAdd, Nat.reduceMul, Nat.reduceSub, Nat.reduceEqDiff, Nat.reduceLT, Nat.reduceLeDiff, Nat.reduceBEq, Int.reduceLT, Int.reduceLE, Int.reduceEq,
    Int.reduceNe, Int.reduceAdd, Int.reduceSub, Int.reduceMul, Int.reduceToNat, push_cast, pairsOk, locGet_set, h4], hlw⟩
  | succ i ih =>
    intro l g F loc lw hi hl hlw h1 h4 h5 hb
    have hkk : ((i + 1 : Nat) : Int) - 1 = (i : Int) := by omega
    rw [hkk] at h5
    have hge : (0 : Int) ≤ i := by omega
    have hm : IntKind.i64.wrap (8 * (i : Int)) = 8 * (i : Int) := by rw [wrap_i64] <;> omega
    have hnn : ¬ (8 * (i : Int) < 0) := by omega
    have hs : ((u64 n : Int).fdiv (2 ^ (min ((8 * (i : Int)).toNat) IntKind.u64.bits))) % 256 = ((byteOf (u64 n) i).toNat : Int) := shr_byte (u64 n) i (by omega)
    have hw1 : IntKind.i64.wrap ((i : Int) - 1) = (i : Int) - 1 := by rw [wrap_i64] <;> omega
    obtain ⟨g', lw', hd, hlw'⟩ := app_top (w0 := w0) (t := t) (call := acallI (cfg w0 t)) (h := h) (l := l) (g := g) (xs := [byteOf (u64 n) i]) (src := .lit [vU (byteOf (u64 n) i)] 1) rfl (by simp; omega)
    rw [show l ++ encB (u64 n) (i + 1) = (l ++ [byteOf (u64 n) i]) ++ encB (u64 n) i from by simp [encB]]
    generalize hl2 : l ++ [byteOf (u64 n) i] = l2 at hd ⊢
    rw [X_loop]
    simp only [reduceIte, reduceCtorEq, Nat.reduceAdd, Nat.reduceMul, Nat.reduceSub, Nat.reduceEqDiff, Nat.reduceLT, Nat.reduceLeDiff, Nat.reduceBEq, Int.reduceLT, Int.reduceLE, Int.reduceEq,
    Int.reduceNe, Int.reduceAdd, Int.reduceSub, Int.reduceMul, Int.reduceToNat, push_cast, pairsOk, locGet_set, p2_int, intBin, wrap_u8, wrap_u64, u64_eq, zerosA, List.range, List.range.loop, Nat.zero_mod, getT, h1, h4, h5, hb, hge, hm, hnn, hs, hd, hw1]
    refine ih l2 g' _ _ _ (by omega) (by rw [← hl2, List.length_append]; simp; omega) ?_ ?_ ?_ ?_ ?_ <;> simp only [reduceIte, reduceCtorEq, Nat.reduceAdd, Nat.reduceMul, Nat.reduceSub, Nat.reduceEqDiff, Nat.reduceLT, Nat.reduceLeDiff, Nat.reduceBEq, Int.reduceLT, Int.reduceLE, Int.reduceEq,
    Int.reduceNe, Int.reduceAdd, Int.reduceSub, Int.reduceMul, Int.reduceToNat, push_cast, pairsOk, locGet_set, h1, h4, h5, hlw, hlw', hb]
theorem f24 (ok : CfgOk (cfg w0 t)) (k n : Int) (s : ByteArray) (b : Bool) (f : Int) (h : H) : acallI (cfg w0 t) 24 [.agg (vV k n s b f)] h =
    some (.ret (.tup (if vGood k n s b f then [vS ⟨(encV (k, n, s, b, f)).toArray⟩, vI 0] else [vS .empty, vI 4])), h, none) := by
  rw [E24]
  cases hg : vGood k n s b f
  · dsimp only [Try.f24, Option.getD]
    simp only [reduceIte, reduceCtorEq, Nat.reduceAdd, Nat.reduceMul, Nat.reduceSub, Nat.reduceEqDiff, Nat.reduceLT, Nat.reduceLeDiff, Nat.reduceBEq, Int.reduceLT, Int.reduceLE, Int.reduceEq,
    Int.reduceNe, Int.reduceAdd, Int.reduceSub, Int.reduceMul, Int.reduceToNat, push_cast, pairsOk, locGet, locSet, nextGen, f34, hg]
  by_cases k1 : k = 1
  · subst k1
    obtain ⟨G, hG⟩ := skol (P := fun a : (Nat → AV) × Loc × Option Nat => lwOver a.2.2 h.length = true ∧ a.1 1 = .bx 1 1 0 ∧ a.1 4 = .sl h.length 0 0 1 1 ∧ a.1 5 = vI 7 ∧ locGet a.2.1 1 = some (1, .cells (vV 1 n s b f)))
      (Q := fun a c => acodeI (cfg w0 t) 24 (.loop (lp Try.f24 0)) ⟨fl 62 a.1, a.2.1, h ++ [⟨[.val (.int .u8 (u8 1).toNat)], 0⟩], a.2.2⟩ = some (.exit 1, ⟨fl 62 c.1, c.2.1, h ++ [⟨byteCells ([u8 1] ++ encB (u64 n) 8), c.2.2.1⟩], c.2.2.2⟩) ∧ c.1 4 = .sl h.length c.2.2.1 0 ([u8 1] ++ encB (u64 n) 8).length 1 ∧ lwOver c.2.2.2 h.length = true) (β := (Nat → AV) × Loc × Nat × Option Nat) (fun a ha => by
        obtain ⟨F', loc', h', lw', q1, q2, q3⟩ := L24 (w0 := w0) (t := t) h 1 n s b f 8 [u8 1] 0 a.1 a.2.1 a.2.2 (by omega) (by simp) ha.1 ha.2.1 ha.2.2.1 ha.2.2.2.1 ha.2.2.2.2
        exact ⟨(F', loc', h', lw'), q1, q2, q3⟩)
    have G1 := fun F loc lw hc => (hG (F, loc, lw) hc).1
    have G2 := fun F loc lw hc => (hG (F, loc, lw) hc).2.1
    have G3 := fun F loc lw hc => (hG (F, loc, lw) hc).2.2
    clear hG
    generalize hout : [u8 1] ++ encB (u64 n) 8 = out at G1 G2
    dsimp only [lp, loopsOf, Try.f24, Option.getD, List.append_eq, List.nil_append, List.cons_append, List.getElem?_cons_zero, List.getElem?_cons_succ] at G1 G2 G3 ⊢
    simp only [reduceIte, reduceCtorEq, Nat.reduceAdd, Nat.reduceMul, Nat.reduceSub, Nat.reduceEqDiff, Nat.reduceLT, Nat.reduceLeDiff, Nat.reduceBEq, Int.reduceLT, Int.reduceLE, Int.reduceEq,
    Int.reduceNe, Int.reduceAdd, Int.reduceSub, Int.reduceMul, Int.reduceToNat, push_cast, pairsOk, locGet, locSet, nextGen, f34, hg, p2_int, intBin, wrap_u8, u8_eq, zerosA, List.range, List.range.loop, Nat.zero_mod, getT, top_get, byteCells_length, unb_take, G1, G2, G3, encV]
    rw [← hout]
    rfl
  by_cases k2 : k = 2
  · subst k2
    obtain ⟨g1, lw1, hd1, ho1⟩ := app_top (w0 := w0) (t := t) (call := acallI (cfg w0 t)) (h := h) (l := [u8 2]) (g := 0) (xs := [u8 s.size]) (src := .lit [vU (u8 s.size)] 1) rfl (by simp)
    have hsz : s.size ≤ 255 := by
      simp only [vGood] at hg
      simp at hg
      exact hg.1.1.2
    generalize ho : [u8 2] ++ [u8 s.size] = o1 at hd1
    obtain ⟨g2, lw2, hd2, ho2⟩ := app_top (w0 := w0) (t := t) (call := acallI (cfg w0 t)) (h := h) (l := o1) (g := g1) (xs := bl s) (src := vS s) (by rw [bl_len]; rfl) (by rw [bl_len, ← ho]; simp; omega)
    generalize hout : o1 ++ bl s = out at hd2
    simp only [byteCells, List.map_cons, List.map_nil, List.length_cons, List.length_nil, Nat.zero_add] at hd1
    rw [show List.map vU o1 = byteCells o1 from rfl] at hd1
    dsimp only [Try.f24, Option.getD]
    simp only [reduceIte, reduceCtorEq, Nat.reduceAdd, Nat.reduceMul, Nat.reduceSub, Nat.reduceEqDiff, Nat.reduceLT, Nat.reduceLeDiff, Nat.reduceBEq, Int.reduceLT, Int.reduceLE, Int.reduceEq,
    Int.reduceNe, Int.reduceAdd, Int.reduceSub, Int.reduceMul, Int.reduceToNat, push_cast, pairsOk, locGet, locSet, nextGen, f34, hg, p2_int, intBin, wrap_u8, u8_eq, zerosA, List.range, List.range.loop, Nat.zero_mod, getT, len_str Try.underlying9, hd1, ho1, hd2, ho2, top_get, byteCells_length, unb_take, encV]
    rw [← hout, ← ho]
    rfl
  by_cases k3 : k = 3
  · subst k3
    obtain ⟨g1, lw1, hd1, ho1⟩ := app_top (w0 := w0) (t := t) (call := acallI (cfg w0 t)) (h := h) (l := [u8 3]) (g := 0) (xs := [u8 (if b then 1 else 0)]) (src := .lit [vU (u8 (if b then 1 else 0))] 1) rfl (by simp)
    generalize hout : [u8 3] ++ [u8 (if b then 1 else 0)] = out at hd1
    simp only [byteCells, List.map_cons, List.map_nil, List.length_cons, List.length_nil, Nat.zero_add] at hd1
    rw [show List.map vU out = byteCells out from rfl] at hd1
    dsimp only [Try.f24, Option.getD]
    simp only [reduceIte, reduceCtorEq, Nat.reduceAdd, Nat.reduceMul, Nat.reduceSub, Nat.reduceEqDiff, Nat.reduceLT, Nat.reduceLeDiff, Nat.reduceBEq, Int.reduceLT, Int.reduceLE, Int.reduceEq,
    Int.reduceNe, Int.reduceAdd, Int.reduceSub, Int.reduceMul, Int.reduceToNat, push_cast, pairsOk, locGet, locSet, nextGen, f34, f48, hg, p2_int, intBin, wrap_u8, u8_eq, zerosA, List.range, List.range.loop, Nat.zero_mod, getT, hd1, ho1, top_get, byteCells_length, unb_take, encV]
    rw [← hout]
    rfl
  by_cases k4 : k = 4
  · subst k4
    obtain ⟨g1, lw1, hd1, ho1⟩ := app_top (w0 := w0) (t := t) (call := acallI (cfg w0 t)) (h := h) (l := [u8 4]) (g := 0) (xs := [u8 f]) (src := .lit [vU (u8 f)] 1) rfl (by simp)
    generalize hout : [u8 4] ++ [u8 f] = out at hd1
    simp only [byteCells, List.map_cons, List.map_nil, List.length_cons, List.length_nil, Nat.zero_add] at hd1
    rw [show List.map vU out = byteCells out from rfl] at hd1
    dsimp only [Try.f24, Option.getD]
    simp only [reduceIte, reduceCtorEq, Nat.reduceAdd, Nat.reduceMul, Nat.reduceSub, Nat.reduceEqDiff, Nat.reduceLT, Nat.reduceLeDiff, Nat.reduceBEq, Int.reduceLT, Int.reduceLE, Int.reduceEq,
    Int.reduceNe, Int.reduceAdd, Int.reduceSub, Int.reduceMul, Int.reduceToNat, push_cast, pairsOk, locGet, locSet, nextGen, f34, hg, p2_int, intBin, wrap_u8, u8_eq, zerosA, List.range, List.range.loop, Nat.zero_mod, getT, hd1, ho1, top_get, byteCells_length, unb_take, encV]
    rw [← hout]
    rfl
  · dsimp only [Try.f24, Option.getD]
    simp only [reduceIte, reduceCtorEq, Nat.reduceAdd, Nat.reduceMul, Nat.reduceSub, Nat.reduceEqDiff, Nat.reduceLT, Nat.reduceLeDiff, Nat.reduceBEq, Int.reduceLT, Int.reduceLE, Int.reduceEq,
    Int.reduceNe, Int.reduceAdd, Int.reduceSub, Int.reduceMul, Int.reduceToNat, push_cast, pairsOk, locGet, locSet, nextGen, f34, hg, p2_int, intBin, wrap_u8, u8_eq, k1, k2, k3, k4, zerosA, List.range, List.range.loop, Nat.zero_mod, getT, top_get, encV, UInt8.ofNat_toNat]
end Go.Proofs.Ytmglahnoemgieaa.Ax
namespace Go.Proofs.Ytmglahnoemgieaa.Ax
open Go Go.RowKit
set_option linter.unusedSimpArgs false
set_option linter.unusedVariables false
set_option maxHeartbeats 8000000
set_option maxRecDepth 4000
variable {w0 : World} {t : Option Gf}
theorem wr_new (h : H) : WR (h ++ [⟨[.val (.slice none 0 0)], 0⟩]) h.length [] := ⟨_, by simp, .inl ⟨rfl, rfl⟩⟩
theorem wr_sl {h : H} {b : Nat} {l : List UInt8} (k : WR h b l) (hl : l ≠ []) : ∃ b2 g, h[b]? = some ⟨[.sl b2 g 0 l.length 1], 0⟩ ∧ h[b2]? = some ⟨byteCells l, g⟩ := by
  obtain ⟨v, h1, h2⟩ := k
  rcases h2 with ⟨e, _⟩ | ⟨b2, k, rfl, hlt, hk, hc⟩
  · exact absurd e hl
  · refine ⟨b2, k.gen, h1, ?_⟩
    rw [hk, ← hc]
def pkGood (ack : Bool) (inc seq : Int) (body : ByteArray) : Bool := decide (0 ≤ inc) && decide (inc ≤ 9007199254740992) && (decide (0 ≤ seq) && decide (seq ≤ 9007199254740992)) && (!ack || decide (body = .empty))
def pkHead (ack : Bool) (inc seq : Int) : List UInt8 := encB (if ack then 1 else 0) 1 ++ encB inc.toNat 8 ++ encB seq.toNat 8
theorem pkHead_length (ack : Bool) (inc seq : Int) : (pkHead ack inc seq).length = 17 := by simp [pkHead, encB_length]
def pkEnc (ack : Bool) (inc seq : Int) (body : ByteArray) : ByteArray := ⟨(pkHead ack inc seq).toArray⟩ ++ body
theorem f10 (ok : CfgOk (cfg w0 t)) (ack : Bool) (inc seq : Int) (body : ByteArray) (hbd : body.size ≤ 9223372036854775000) (h : H) : acallI (cfg w0 t) 10 [.agg [vB ack, vI inc, vI seq, vS body]] h =
    some (.ret (.tup (if pkGood ack inc seq body then [vS (pkEnc ack inc seq body), vI 0] else [vS .empty, vI 4])), h, none) := by
  rw [E10]
  have hg0 := f30 (w0 := w0) (t := t) ack inc seq body h
  rw [show (decide (0 ≤ inc) && decide (inc ≤ 9007199254740992) && (decide (0 ≤ seq) && decide (seq ≤ 9007199254740992)) && (!ack || decide (body = .empty))) = pkGood ack inc seq body from rfl] at hg0
  cases hg : pkGood ack inc seq body
  · rw [hg] at hg0
    dsimp only [Try.f10, Option.getD]
    simp only [reduceIte, reduceCtorEq, Nat.reduceAdd, Nat.reduceMul, Nat.reduceSub, Nat.reduceEqDiff, Nat.reduceLT, Nat.reduceLeDiff, Nat.reduceBEq, Int.reduceLT, Int.reduceLE, Int.reduceEq,
    Int.reduceNe, Int.reduceAdd, Int.reduceSub, Int.reduceMul, Int.reduceToNat, push_cast, pairsOk, locGet, locSet, nextGen, hg0]
  · rw [hg] at hg0
    have hr : 0 ≤ inc ∧ inc ≤ 9007199254740992 ∧ 0 ≤ seq ∧ seq ≤ 9007199254740992 := by
      simp only [pkGood, Bool.and_eq_true, decide_eq_true_eq] at hg
      omega
    obtain ⟨h1, lw1, e1, w1, o1⟩ := f22 ok (if ack then 1 else 0) h.length 1 (by cases ack <;> decide) (by omega) _ _ (wr_new h) (by simp)
    obtain ⟨h2, lw2, e2, w2, o2⟩ := f22 ok inc.toNat h.length 8 (by omega) (by omega) _ _ w1 (by simp [encB_length])
    obtain ⟨h3, lw3, e3, w3, o3⟩ := f22 ok seq.toNat h.length 8 (by omega) (by omega) _ _ w2 (by simp [encB_length])
    rw [Int.toNat_of_nonneg hr.1] at e2
    rw [Int.toNat_of_nonneg hr.2.2.1] at e3
    rw [show ((1 : Nat) : Int) = 1 from rfl] at e1
    rw [show ((8 : Nat) : Int) = 8 from rfl] at e2 e3
    rw [show [] ++ encB (if ack then 1 else 0) 1 ++ encB inc.toNat 8 ++ encB seq.toNat 8 = pkHead ack inc seq from rfl] at w3
    obtain ⟨b2, g, r1, r2⟩ := wr_sl w3 (by intro e; have := pkHead_length ack inc seq; rw [e] at this; simp at this)
    unfold pkEnc
    have hsz : (⟨(pkHead ack inc seq).toArray⟩ : ByteArray).size + body.size ≤ 9223372036854775807 := by
      have : (⟨(pkHead ack inc seq).toArray⟩ : ByteArray).size = 17 := (List.size_toArray).trans (pkHead_length ack inc seq)
      omega
    generalize pkHead ack inc seq = out at r1 r2 hsz
    dsimp only [Try.f10, Option.getD]
    cases ack <;>
    simp only [reduceIte, Bool.false_eq_true, Int.cast_ofNat_Int] at e1 <;>
    simp only [reduceIte, reduceCtorEq, Nat.reduceAdd, Nat.reduceMul, Nat.reduceSub, Nat.reduceEqDiff, Nat.reduceLT, Nat.reduceLeDiff, Nat.reduceBEq, Int.reduceLT, Int.reduceLE, Int.reduceEq,
    Int.reduceNe, Int.reduceAdd, Int.reduceSub, Int.reduceMul, Int.reduceToNat, push_cast, pairsOk, locGet, locSet, nextGen, hg0, e1, e2, e3, r1, r2, o1, o2, o3, byteCells_length, unb_take, p2_str, strBin, hsz]
end Go.Proofs.Ytmglahnoemgieaa.Ax

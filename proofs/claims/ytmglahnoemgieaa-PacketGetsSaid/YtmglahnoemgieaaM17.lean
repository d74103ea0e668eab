/- Bytes of a message with some more, or one less, are no message's; how long they are. (And what follows from it, text by text.) -/
import Derived.Test.YtmglahnoemgieaaM15
namespace Go.Proofs.Ytmglahnoemgieaa.Ax
open Go Go.RowKit
set_option linter.unusedSimpArgs false
set_option linter.unusedVariables false
set_option linter.unnecessarySimpa false
set_option maxHeartbeats 8000000
set_option maxRecDepth 4000
theorem no_more {a b : Msg} (ha : msgGood a = true) (hb : msgGood b = true) {r : List UInt8} (h : encM b = encM a ++ r) : r = [] := by
  obtain ⟨c, h1, h2⟩ := enc_rdM (c8 := sI) (s := bs (encM b)) (r := []) (fun n hn => sI_small (by omega)) hb (by rw [bl_bs, List.append_nil])
  obtain ⟨c', h3, h4⟩ := enc_rdM (c8 := sI) (s := bs (encM b)) (r := r) (fun n hn => sI_small (by omega)) ha (by rw [bl_bs, h])
  rw [h1] at h3
  cases h3
  rw [← h4, h2]
theorem get_more {m : Msg} (hg : msgGood m = true) (x : UInt8) : getM (bs (encM m) ++ bs [x]) = none := by
  cases hc : getM (bs (encM m) ++ bs [x]) with
  | none => rfl
  | some m' =>
    obtain ⟨h1, h2⟩ := getM_iff.1 hc
    rw [bs_app] at h2
    have := no_more hg h1 (bs_inj h2)
    cases this
theorem get_less {m : Msg} (hg : msgGood m = true) : getM ((bs (encM m)).extract 0 ((bs (encM m)).size - 1)) = none := by
  cases hc : getM ((bs (encM m)).extract 0 ((bs (encM m)).size - 1)) with
  | none => rfl
  | some m' =>
    obtain ⟨h1, h2⟩ := getM_iff.1 hc
    have hne := encM_ne m
    have hpos : 0 < (encM m).length := List.length_pos_iff.2 hne
    have h3 : encM m' = (encM m).take ((encM m).length - 1) := by
      have := congrArg bl h2
      rw [bl_bs] at this
      rw [this, bs_size]
      show (bl (ByteArray.extract _ _ _)) = _
      unfold bl
      rw [ByteArray.data_extract]
      simp [bs, List.dropLast_eq_take]
    have h4 : encM m = encM m' ++ (encM m).drop ((encM m).length - 1) := by rw [h3, List.take_append_drop]
    have h5 := no_more h1 hg h4
    have := congrArg List.length h5
    rw [List.length_drop] at this
    simp at this
    omega
theorem zeroV_len {v : Val} (h : valOk v = true) : (encV v).length ≤ 10000 := by
  have hs : v.2.2.1.size ≤ 1000 ∨ v.1 ≠ 2 := by
    by_cases k : v.1 = 2
    · left
      simp [valOk, vGood, k] at h
      omega
    · exact .inr k
  unfold encV
  rw [List.length_cons]
  split
  · rw [encB_length]; omega
  · split
    · rw [List.length_cons, bl_len]; rcases hs with hs | hs <;> omega
    · split
      · simp
      · split <;> simp
theorem encM_len {m : Msg} (hg : msgGood m = true) (hw : edsW m.edges ≤ 900000000) : (encM m).length ≤ 1000000000 := by
  have hes : (∀ e ∈ m.edges, edOk e = true) → (encEs m.edges).length ≤ edsW m.edges := by
    intro h
    generalize m.edges = l at h
    clear hw
    induction l with
    | nil => simp [encEs]
    | cons e l ih =>
      have h1 := ih (fun q hq => h q (List.mem_cons_of_mem _ hq))
      have h2 := encE_le (edOk_nat (h e List.mem_cons_self))
      have h3 : encEs (e :: l) = encE e ++ encEs l := rfl
      have h4 : edsW (e :: l) = (3000 + e.reads.length * 3000) + edsW l := by simp [edsW]
      rw [h3, h4, List.length_append]
      omega
  simp only [msgGood, Bool.and_eq_true] at hg
  have hg2 := hg.2
  unfold encM
  simp only [List.length_append, encB_length]
  by_cases k0 : m.kind = 0
  · simp [k0] at hg2
    have := placed_nat hg2.1
    simp [k0, encP_length]
    omega
  by_cases k1 : m.kind = 1
  · simp [k1] at hg2
    have := placed_nat hg2.1
    simp [k1, encP_length]
    omega
  by_cases k2 : m.kind = 2
  · simp [k2] at hg2
    have := placed_nat hg2.1.1
    have := zeroV_len hg2.1.2
    simp [k2, encP_length, encB_length]
    omega
  by_cases k3 : m.kind = 3
  · simp [k3] at hg2
    have := hes (fun e he => hg2.1.1.1 e he)
    simp [k3, encB_length]
    omega
  simp [k0, k1, k2, k3]
end Go.Proofs.Ytmglahnoemgieaa.Ax
namespace Go.Proofs.Ytmglahnoemgieaa.Ax
open Go Go.RowKit
set_option linter.unusedSimpArgs false
set_option linter.unusedVariables false
set_option linter.unnecessarySimpa false
set_option maxHeartbeats 8000000
set_option maxRecDepth 4000
variable {w0 : World} {t : Option Gf}
theorem take_get {h h' : H} (e : h'.take h.length = h) : ∀ j, j < h.length → h'[j]? = h[j]? := by
  intro j hj
  have := congrArg (·[j]?) e
  simp only [List.getElem?_take_of_lt hj] at this
  exact this
theorem f5 (x : XM) (es : Value) (hx : FEds w0 es x.edges) (n0 n1 : Nat) (hn0 : n0 < 4294967296) (hn1 : n1 < 4294967296) (mb : UInt8) (h : H) :
    acallI (cfg w0 (some (g15 w0))) 5 [xArg x es, .agg [.val (.int .u32 n0), .val (.int .u32 n1)], .val (.int .u8 mb.toNat)] h = some (.ret (vB true), h, none) := by
  have ok := cfg_ok w0
  rw [E5]
  obtain ⟨xs1, ys1, h1, e1, I1, l1⟩ := f7 (w0 := w0) (t := some (g15 w0)) x es hx h
  obtain ⟨s1, w1, r1, c1⟩ := msgOf_small x
  have e3 := f8 ok (msgOf x) s1 xs1 h1 I1.left.edsV w1
  rw [bs_eq] at e3
  have e5 := f12 (w0 := w0) h1
  have hb1 := I1.left.nb
  have hb2 := I1.right.nb
  have hargs : noBx (.val es) = true ∧ oneA (.val es) = true := by
    obtain ⟨a, cap, rfl, _⟩ := hx
    exact ⟨rfl, rfl⟩
  have hk0 : IntKind.i64.wrap (n0 : Int) = n0 := by rw [wrap_i64] <;> omega
  have hk1 : IntKind.i64.wrap (n1 : Int) = n1 := by rw [wrap_i64] <;> omega
  generalize hm : msgOf x = m at *
  unfold xArg at e1 ⊢
  dsimp only [Try.f5, Option.getD]
  cases g1 : msgGood m
  · rw [g1] at e3
    simp only [reduceIte, reduceCtorEq, Nat.reduceAdd, Nat.reduceMul, Nat.reduceSub, Nat.reduceEqDiff, Nat.reduceLT, Nat.reduceLeDiff, Nat.reduceBEq, Int.reduceLT, Int.reduceLE, Int.reduceEq,
    Int.reduceNe, Int.reduceAdd, Int.reduceSub, Int.reduceMul, Int.reduceToNat, push_cast, pairsOk, locGet, locSet, nextGen, p2_int, intBin, p2_str, strBin, idx_bx arrSize_74, e1, e3, e5, hb1.1, hb1.2, hb2.1, hb2.2]
  rw [g1] at e3
  have hlen : (bs (encM m)).size ≤ 1000000000 := by rw [bs_size]; exact encM_len g1 w1
  have hpos : 0 < (bs (encM m)).size := by rw [bs_size]; exact List.length_pos_iff.2 (encM_ne m)
  obtain ⟨xs2, h2, e6, I2, t2, l2⟩ := f15_some (w0 := w0) (by omega) h1 (getM_iff.2 ⟨g1, rfl⟩)
  have hmore := get_more g1 mb
  have hless := get_less g1
  have sz1 : (bs (encM m) ++ bs [mb]).size = (bs (encM m)).size + 1 := by rw [bs_app, bs_size, bs_size, List.length_append]; rfl
  have sz2 : ((bs (encM m)).extract 0 ((bs (encM m)).size - 1)).size = (bs (encM m)).size - 1 := by rw [ByteArray.size_extract]; omega
  have e7 := f15_none (w0 := w0) (s := bs (encM m) ++ bs [mb]) (by omega) h2 hmore
  have e8 := f15_none (w0 := w0) (s := (bs (encM m)).extract 0 ((bs (encM m)).size - 1)) (by omega) h2 hless
  have hgood : pkGood false (n0 : Int) (n1 : Int) (bs (encM m)) = true := by
    simp [pkGood]; omega
  have e9 := f10 ok false (n0 : Int) (n1 : Int) (bs (encM m)) (by omega) h2
  rw [hgood] at e9
  have hop := openP_enc hgood
  have hps := pkEnc_size false (n0 : Int) (n1 : Int) (bs (encM m))
  have e10 := f17 (w0 := w0) (t := some (g15 w0)) (pkEnc false (n0 : Int) (n1 : Int) (bs (encM m))) (by omega) h2
  rw [hop] at e10
  have I1q := (I1.right.move (h' := h2) (fun j _ hj => take_get t2 j hj)).redsV
  have e11 := f19 (w0 := w0) (t := some (g15 w0)) m m (fun e he => by have := r1 e he; omega) (by omega) xs2 ys1 h2 I2.edsV I1q
  rw [sameM_iff.2 rfl] at e11
  have hb3 := I2.nb
  have hs1 : (bs (encM m)).size + (bs [mb]).size ≤ 9223372036854775807 := by rw [bs_size [mb]]; simp; omega
  have hsub : IntKind.i64.wrap (((bs (encM m)).size : Int) - 1) = (((bs (encM m)).size - 1 : Nat) : Int) := by rw [wrap_i64] <;> omega
  have hc1 : (0 : Int) ≤ (((bs (encM m)).size - 1 : Nat) : Int) := by omega
  have hc2 : (((bs (encM m)).size - 1 : Nat) : Int) ≤ (bs (encM m)).size := by omega
  generalize hsz : (bs (encM m)).size - 1 = sz at *
  have hemp : bs (encM m) ≠ .empty := by intro k; rw [k] at hpos; simp at hpos
  have hb2' : (⟨#[mb]⟩ : ByteArray) = bs [mb] := rfl
  have hub : UInt8.ofNat mb.toNat = mb := by simp
  generalize bs (encM m) = u at *
  generalize pkEnc false (n0 : Int) (n1 : Int) u = pk at *
  simp only [reduceIte, reduceCtorEq, Nat.reduceAdd, Nat.reduceMul, Nat.reduceSub, Nat.reduceEqDiff, Nat.reduceLT, Nat.reduceLeDiff, Nat.reduceBEq, Int.reduceLT, Int.reduceLE, Int.reduceEq,
    Int.reduceNe, Int.reduceAdd, Int.reduceSub, Int.reduceMul, Int.reduceToNat, push_cast, pairsOk, locGet, locSet, nextGen, p2_int, intBin, p2_str, strBin, idx_bx arrSize_74, e1, e3, e5, e6, e7, e8, e9, e10, e11, hb1.1, hb1.2, hb2.1, hb2.2, hb3.1, hb3.2, hk0, hk1, conv_lit, zerosA, List.range, List.range.loop, Nat.zero_mod, getT, hub, hb2', hs1, len_str Try.underlying9, hsub, sl_str_h (P := Try.prog) Try.underlying9 hc1 hc2, pkV, pkRes, zM12]
end Go.Proofs.Ytmglahnoemgieaa.Ax

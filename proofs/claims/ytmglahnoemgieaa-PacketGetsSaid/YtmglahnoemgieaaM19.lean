/- A text, read by both readers: the same message, or none. (And what follows from it, text by text.) -/
import Derived.Test.YtmglahnoemgieaaM18
namespace Go.Proofs.Ytmglahnoemgieaa.Ax
open Go Go.RowKit
set_option linter.unusedSimpArgs false
set_option linter.unusedVariables false
set_option linter.unnecessarySimpa false
set_option maxHeartbeats 8000000
set_option maxRecDepth 4000
variable {w0 : World} {t : Option Gf}
theorem good_short {m : Msg} (hg : msgGood m = true) : m.edges.length ≤ 4096 ∧ ∀ e ∈ m.edges, e.reads.length ≤ 4096 := by
  simp only [msgGood, Bool.and_eq_true] at hg
  have hg2 := hg.2
  by_cases k0 : m.kind = 0
  · simp [k0, bareM] at hg2
    simp [hg2.2.2]
  by_cases k1 : m.kind = 1
  · simp [k1, bareM] at hg2
    simp [hg2.2.2]
  by_cases k2 : m.kind = 2
  · simp [k2] at hg2
    simp [hg2.2]
  by_cases k3 : m.kind = 3
  · simp [k3] at hg2
    exact ⟨hg2.2, fun e he => (edOk_nat (hg2.1.1.1 e he)).2.2.2.2.2.2⟩
  by_cases k4 : m.kind = 4
  · simp [k4, bareM] at hg2
    simp [hg2.2.2]
  simp [k0, k1, k2, k3, k4] at hg2
theorem f16_some (ok : CfgOk (cfg w0 t)) {s : ByteArray} (hs : s.size ≤ 9223372036854775000) (h : H) {m : Msg} (hm : getM s = some m) :
    ∃ ys h', acallI (cfg w0 t) 16 [vS s] h = some (.ret (.tup [.agg (vN m.kind m.ticket m.ver m.sheet m.col m.row m.v ys), vI 0]), h', none) ∧ REdsI h.length h' m.edges ys ∧ h.length ≤ h'.length := by
  obtain ⟨c, h1, h2⟩ := getR_iff.2 hm
  have := f16 (w0 := w0) (t := t) ok s hs h
  rw [h1] at this
  simp only [GOut, GOut1, if_pos h2] at this
  exact this
theorem f16_none (ok : CfgOk (cfg w0 t)) {s : ByteArray} (hs : s.size ≤ 9223372036854775000) (h : H) (hm : getM s = none) :
    acallI (cfg w0 t) 16 [vS s] h = some (.ret (.tup [zN, vI 4]), h, none) := by
  have := f16 (w0 := w0) (t := t) ok s hs h
  cases hc : rdM refI s with
  | none => rw [hc] at this; exact this
  | some q =>
    obtain ⟨m, c⟩ := q
    rw [hc] at this
    have hn : ¬ (msgGood m = true ∧ bs (encM m) = s) := by
      intro k
      have := getR_iff.1 ⟨c, hc, k⟩
      rw [hm] at this
      cases this
    simp only [GOut, GOut1, if_neg hn] at this
    exact this
def zMsg : Msg := ⟨0, 0, .empty, 0, 0, 0, zV, []⟩
def gM (s : ByteArray) : Msg := (getM s).getD zMsg
def gE (s : ByteArray) : Int := if (getM s).isSome then 0 else 4
theorem both (s : ByteArray) (hs : s.size ≤ 9223372036854775000) (h : H) : ∃ xs h2 ys h3,
    acallI (cfg w0 (some (g15 w0))) 15 [vS s] h = some (.ret (.tup [.agg (vM (gM s).kind (gM s).ticket (gM s).sheet (gM s).col (gM s).row (gM s).ver (gM s).v xs), vI (gE s)]), h2, none) ∧
    acallI (cfg w0 (some (g15 w0))) 16 [vS s] h2 = some (.ret (.tup [.agg (vN (gM s).kind (gM s).ticket (gM s).ver (gM s).sheet (gM s).col (gM s).row (gM s).v ys), vI (gE s)]), h3, none) ∧
    acallI (cfg w0 (some (g15 w0))) 19 [.agg (vM (gM s).kind (gM s).ticket (gM s).sheet (gM s).col (gM s).row (gM s).ver (gM s).v xs), .agg (vN (gM s).kind (gM s).ticket (gM s).ver (gM s).sheet (gM s).col (gM s).row (gM s).v ys)] h3 = some (.ret (vB true), h3, none) ∧
    (noBx xs = true ∧ oneA xs = true) ∧ (noBx ys = true ∧ oneA ys = true) ∧ h.length ≤ h3.length := by
  have ok := cfg_ok w0
  cases hm : getM s with
  | none =>
    have e1 := f15_none (w0 := w0) hs h hm
    have e2 := f16_none (w0 := w0) ok hs h hm
    have e3 := f19 (w0 := w0) (t := some (g15 w0)) zMsg zMsg (fun e he => by cases he) (by simp [zMsg]) (.val (.slice none 0 0)) (.val (.slice none 0 0)) h (.inr ⟨rfl, rfl⟩) (.inr ⟨rfl, rfl⟩)
    rw [sameM_iff.2 rfl] at e3
    have hg : gM s = zMsg := by unfold gM; rw [hm]; rfl
    have he : gE s = 4 := by unfold gE; rw [hm]; rfl
    rw [hg, he]
    exact ⟨.val (.slice none 0 0), h, .val (.slice none 0 0), h, e1, e2, e3, ⟨rfl, rfl⟩, ⟨rfl, rfl⟩, Nat.le_refl _⟩
  | some m =>
    obtain ⟨xs, h2, e1, I1, t1, l1⟩ := f15_some (w0 := w0) hs h hm
    obtain ⟨ys, h3, e2, I2, l2⟩ := f16_some (w0 := w0) ok hs h2 hm
    have lo := fun j (hj : j < h2.length) => low_get (call_low ok e2 rfl (Nat.le_refl _)) hj
    have I1' := I1.move (h' := h3) (fun j _ hj => lo j hj)
    obtain ⟨q1, q2⟩ := good_short (getM_iff.1 hm).1
    have e3 := f19 (w0 := w0) (t := some (g15 w0)) m m (fun e he => by have := q2 e he; omega) (by omega) xs ys h3 I1'.edsV I2.redsV
    rw [sameM_iff.2 rfl] at e3
    have hg : gM s = m := by unfold gM; rw [hm]; rfl
    have he : gE s = 0 := by unfold gE; rw [hm]; rfl
    rw [hg, he]
    exact ⟨xs, h2, ys, h3, e1, e2, e3, I1.nb, I2.nb, by omega⟩
end Go.Proofs.Ytmglahnoemgieaa.Ax
namespace Go.Proofs.Ytmglahnoemgieaa.Ax
open Go Go.RowKit
set_option linter.unusedSimpArgs false
set_option linter.unusedVariables false
set_option linter.unnecessarySimpa false
set_option maxHeartbeats 8000000
set_option maxRecDepth 4000
variable {w0 : World} {t : Option Gf}
def pV (s : ByteArray) : Pk := (openP s).getD (false, 0, 0, .empty)
def pR (s : ByteArray) : Int := if (openP s).isSome then 0 else 4
theorem pk_res (s : ByteArray) : pkRes (openP s) = [.agg [vB (pV s).1, vI (pV s).2.1, vI (pV s).2.2.1, vS (pV s).2.2.2], vI (pR s)] := by
  unfold pV pR pkRes pkV
  cases openP s <;> rfl
def R4 (lo : Nat) (R : Option (Ex × S)) : Prop := ∃ F' loc' h' lw', R = some (.exit 0, ⟨fl 123 F', loc', h', lw'⟩) ∧ lwOver lw' lo = true
theorem L4 (lo : Nat) (L : List ByteArray) (hL : ∀ s ∈ L, s.size ≤ 9223372036854775000) (hlen : L.length ≤ 1000) : ∀ (n i : Nat) (F : Nat → AV) (loc : Loc) (h : H) (lw : Option Nat), i + n = L.length → lwOver lw lo = true → lo ≤ h.length →
    F 76 = .lit (L.map fun s => vS s) L.length → F 77 = vI L.length → F 78 = vI i →
    R4 lo (acodeI (cfg w0 (some (g15 w0))) 4 (.loop (lp Try.f4 0)) ⟨fl 123 F, loc, h, lw⟩) := by
  dsimp only [lp, loopsOf, Try.f4, Option.getD, List.append_eq, List.nil_append, List.cons_append, List.getElem?_cons_zero, List.getElem?_cons_succ]
  intro n
  induction n with
  | zero =>
    intro i F loc h lw hi hlw hlo h76 h77 h78
    have e : ¬ ((i : Int) < L.length) := by omega
    rw [X_loop]
    simp only [reduceIte, reduceCtorEq, Nat.reduceAdd, Nat.reduceMul, Nat.reduceSub, Nat.reduceEqDiff, Nat.reduceLT, Nat.reduceLeDiff, Nat.reduceBEq, Int.reduceLT, Int.reduceLE, Int.reduceEq,
    Int.reduceNe, Int.reduceAdd, Int.reduceSub, Int.reduceMul, Int.reduceToNat, push_cast, pairsOk, locGet_set, p2_int, intBin, h76, h77, h78, e]
    exact ⟨_, _, _, _, rfl, hlw⟩
  | succ n ih =>
    intro i F loc h lw hi hlw hlo h76 h77 h78
    have e : (i : Int) < L.length := by omega
    have hn : (0 : Int) ≤ i := by omega
    have hlt : i < L.length := by omega
    have hsz := hL L[i] (List.getElem_mem hlt)
    have hdr : List.drop i (L.map fun s => vS s) = vS L[i] :: List.drop (i + 1) (L.map fun s => vS s) := by
      rw [List.drop_eq_getElem_cons (by simpa using hlt)]
      simp
    have hw : IntKind.i64.wrap ((i : Int) + 1) = ((i + 1 : Nat) : Int) := by rw [wrap_i64] <;> omega
    generalize L[i] = s at hsz hdr
    obtain ⟨xs, h2, ys, h3, e1, e2, e3, hx, hy, hl⟩ := both (w0 := w0) s hsz h
    have e4 := f17 (w0 := w0) (t := some (g15 w0)) s hsz h3
    have e5 := f18 (w0 := w0) (t := some (g15 w0)) (cfg_ok w0) s hsz h3
    rw [pk_res] at e4 e5
    have ih := ih (i + 1)
    generalize hmap : (L.map fun s => vS s) = cs at *
    generalize List.drop (i + 1) cs = rest at *
    generalize gM s = m at *
    generalize gE s = er at *
    generalize pV s = pv at *
    generalize pR s = pr at *
    rw [X_loop]
    simp only [reduceIte, reduceCtorEq, Nat.reduceAdd, Nat.reduceMul, Nat.reduceSub, Nat.reduceEqDiff, Nat.reduceLT, Nat.reduceLeDiff, Nat.reduceBEq, Int.reduceLT, Int.reduceLE, Int.reduceEq,
    Int.reduceNe, Int.reduceAdd, Int.reduceSub, Int.reduceMul, Int.reduceToNat, push_cast, pairsOk, locGet_set, p2_int, intBin, p2_str, strBin, idx_lit elemSize_53, hdr, h76, h77, h78, e, hn, e1, e2, e3, e4, e5, hx.1, hx.2, hy.1, hy.2, hw, Nat.mul_one]
    refine ih _ _ _ _ (by omega) ?_ (by omega) ?_ ?_ ?_ <;> simp only [reduceIte, reduceCtorEq, Nat.reduceAdd, Nat.reduceMul, Nat.reduceSub, Nat.reduceEqDiff, Nat.reduceLT, Nat.reduceLeDiff, Nat.reduceBEq, Int.reduceLT, Int.reduceLE, Int.reduceEq,
    Int.reduceNe, Int.reduceAdd, Int.reduceSub, Int.reduceMul, Int.reduceToNat, push_cast, pairsOk, locGet_set, h76, h77, hlw]
end Go.Proofs.Ytmglahnoemgieaa.Ax
namespace Go.Proofs.Ytmglahnoemgieaa.Ax
open Go Go.RowKit
set_option linter.unusedSimpArgs false
set_option linter.unusedVariables false
set_option linter.unnecessarySimpa false
set_option maxHeartbeats 8000000
set_option maxRecDepth 4000
variable {w0 : World} {t : Option Gf}
theorem bytesA_len (s : ByteArray) : (bytesA s).length = s.size := by
  unfold bytesA
  rw [List.length_map]
  exact bl_len s
theorem bytesA_get (s : ByteArray) (k : Nat) (hk : k < s.size) : ∃ y : UInt8, (bytesA s)[k]? = some (.val (.int .u8 y.toNat)) := by
  have hk' : k < (bl s).length := by rw [bl_len]; exact hk
  refine ⟨(bl s)[k], ?_⟩
  show ((bl s).map _)[k]? = _
  rw [List.getElem?_map, List.getElem?_eq_getElem hk']
  rfl
theorem bytesA_over (s : ByteArray) (k : Nat) (hk : k < s.size) (z : UInt8) : List.take k (bytesA s) ++ AV.val (.int .u8 z.toNat) :: List.drop (k + 1) (bytesA s) = bytesA (bs ((bl s).set k z)) := by
  have hk' : k < (bl s).length := by rw [bl_len]; exact hk
  show ((bl s).map _).take k ++ _ :: ((bl s).map _).drop (k + 1) = ((bl s).set k z).map _
  rw [← List.map_take, ← List.map_drop, List.set_eq_take_append_cons_drop, if_pos hk', List.map_append, List.map_cons]
theorem bytesA_str (s : ByteArray) (n : Nat) : unbytes (List.take n (bytesA s)) = some ((bl s).take n) := by
  show unbytes (List.take n ((bl s).map _)) = _
  rw [← List.map_take]
  exact unbytes_bytes _
theorem set_last {α : Type} (l : List α) (a b : α) : (l ++ [a]).set l.length b = l ++ [b] := by
  rw [List.set_append_right _ _ (Nat.le_refl _), Nat.sub_self]; rfl
theorem u8_wrap (n : Int) : ∃ z : UInt8, IntKind.u8.wrap n = (z.toNat : Int) := by
  refine ⟨UInt8.ofNat (n % 256).toNat, ?_⟩
  rw [UInt8.toNat_ofNat']
  have : IntKind.u8.wrap n = n % 256 := rfl
  rw [this]
  omega
theorem cv_4 (x : ByteArray) : convA (cfg w0 t) 4 (some 39) 9 62 (some .string) (some (.slice 5)) (.val (.string x)) = some (.heap (.new (bytesA x) 1 (some x.size))) := conv_bytes_heap Try.underlying5 rfl
theorem f4 (x : XM) (es : Value) (hx : FEds w0 es x.edges) (raw : ByteArray) (a0 a1 a2 : Int) (h : H) :
    acallI (cfg w0 (some (g15 w0))) 4 [xArg x es, vS raw, .agg [vI a0, vI a1, vI a2]] h = some (.ret (vB true), h, none) := by
  have ok := cfg_ok w0
  rw [E4]
  obtain ⟨xs1, ys1, h1, e1, I1, l1⟩ := f7 (w0 := w0) (t := some (g15 w0)) x es hx h
  obtain ⟨s1, w1, r1, c1⟩ := msgOf_small x
  have e4 := f9 ok (msgOf x) s1 ys1 h1 I1.right.redsV
  rw [m_out] at e4
  have hlen := mT_len w1
  have hb1 := I1.left.nb
  have hb2 := I1.right.nb
  have hargs : noBx (.val es) = true ∧ oneA (.val es) = true := by
    obtain ⟨a, cap, rfl, _⟩ := hx
    exact ⟨rfl, rfl⟩
  have m1 := cut_min 200 raw
  have sl1 := cut_sl 200 raw
  rw [show ((200 : Nat) : Int) = 200 from rfl] at m1
  have hrs : (cutN 200 raw).size ≤ 200 := by rw [cutN_size]; omega
  generalize msgOf x = m at *
  generalize mT m = s at *
  generalize mE m = er at *
  generalize cutN 200 raw = rw' at *
  generalize min raw.size 200 = rn at *
  -- the turned bytes
  have hsx : s.size + (⟨#[120]⟩ : ByteArray).size ≤ 9223372036854775807 := by
    have : (⟨#[120]⟩ : ByteArray).size = 1 := rfl
    omega
  have husz : (s ++ (⟨#[120]⟩ : ByteArray)).size = s.size + 1 := by rw [ByteArray.size_append]; rfl
  have hx1 : (⟨#[120]⟩ : ByteArray).size = 1 := rfl
  rw [hx1] at hsx
  generalize hu : s ++ (⟨#[120]⟩ : ByteArray) = u at husz
  have mod_ok : ∀ (a : Int) (n : Nat), 0 < n → ∃ k : Nat, (if (0 : Int) < a then a else 0).tmod (n : Int) = (k : Int) ∧ k < n := by
    intro a n hn
    have q0 : (0 : Int) ≤ (if (0 : Int) < a then a else 0) := by split <;> omega
    have q1 := Int.tmod_nonneg (n : Int) q0
    have q2 := Int.tmod_lt_of_pos (if (0 : Int) < a then a else 0) (b := (n : Int)) (by omega)
    exact ⟨((if (0 : Int) < a then a else 0).tmod (n : Int)).toNat, by omega, by omega⟩
  obtain ⟨k, hk, hk1⟩ := mod_ok a0 u.size (by omega)
  obtain ⟨k2, hk2, hk3⟩ := mod_ok a2 (s.size + 1) (by omega)
  have hk0 : (0 : Int) ≤ (k : Int) := by omega
  have hk4 : (k : Int) < (u.size : Int) := by omega
  have hne : ((u.size : Nat) : Int) ≠ 0 := by omega
  have hne2 : ((s.size : Int) + 1) ≠ 0 := by omega
  have hw1 : IntKind.i64.wrap ((s.size : Int) + 1) = (s.size : Int) + 1 := by rw [wrap_i64] <;> omega
  have hw2 : IntKind.i64.wrap ((u.size : Int) - 1) = (s.size : Int) := by rw [wrap_i64] <;> omega
  have hul : u.size ≤ 1000000001 := by omega
  obtain ⟨y, hy⟩ := bytesA_get u k hk1
  have hbl := bytesA_len u
  have hcl : k + 1 ≤ u.size := by omega
  obtain ⟨z, hz⟩ := u8_wrap ((BitVec.ofInt IntKind.u8.bits (y.toNat : Int) ^^^ BitVec.ofInt IntKind.u8.bits (IntKind.u8.wrap a1)).toNat : Int)
  have hov := bytesA_over u k hk1 z
  have hsz2 : (bs ((bl u).set k z)).size = u.size := by rw [bs_size, List.length_set, bl_len]
  generalize bs ((bl u).set k z) = u2 at hov hsz2
  have hbl2 := bytesA_len u2
  have ht1 := bytesA_str u2 u.size
  have ht2 := bytesA_str u2 s.size
  have hT1 : (bs ((bl u2).take u.size)).size ≤ 1000000001 := by rw [bs_size, List.length_take]; omega
  have hT2 : (bs ((bl u2).take s.size)).size ≤ 1000000001 := by rw [bs_size, List.length_take]; omega
  have hB1 : (⟨((bl u2).take u.size).toArray⟩ : ByteArray) = bs ((bl u2).take u.size) := rfl
  have hB2 : (⟨((bl u2).take s.size).toArray⟩ : ByteArray) = bs ((bl u2).take s.size) := rfl
  generalize bs ((bl u2).take u.size) = T4 at hB1 hT1
  generalize bs ((bl u2).take s.size) = T5 at hB2 hT2
  rw [show ((s.size + 1 : Nat) : Int) = (s.size : Int) + 1 from by omega] at hk2
  have hs2 : s.size + rw'.size ≤ 9223372036854775807 := by omega
  have hsl : s.size ≤ u.size := by omega
  have hz0 : (0 : Int) ≤ (s.size : Int) := by omega
  have hz1 : (s.size : Int) ≤ (u.size : Int) := by omega
  have hk20 : (0 : Int) ≤ (k2 : Int) := by omega
  have hk21 : (k2 : Int) ≤ (s.size : Int) := by omega
  have hle : h.length ≤ h1.length + 1 := by omega
  have hex : (s.extract 0 k2).size ≤ 9223372036854775000 := by rw [ByteArray.size_extract]; omega
  have hsr : (s ++ rw').size ≤ 9223372036854775000 := by rw [ByteArray.size_append]; omega
  obtain ⟨G, hG⟩ := skol (P := fun a : (Nat → AV) × Loc × H × Option Nat => lwOver a.2.2.2 h.length = true ∧ h.length ≤ a.2.2.1.length ∧ a.1 76 = .lit [vS rw', vS s, vS (s ++ rw'), vS T4, vS T5, vS (s.extract 0 k2)] 6 ∧ a.1 77 = vI 6 ∧ a.1 78 = vI 0)
    (Q := fun a b => acodeI (cfg w0 (some (g15 w0))) 4 (.loop (lp Try.f4 0)) ⟨fl 123 a.1, a.2.1, a.2.2.1, a.2.2.2⟩ = some (.exit 0, ⟨fl 123 b.1, b.2.1, b.2.2.1, b.2.2.2⟩) ∧ lwOver b.2.2.2 h.length = true) (β := (Nat → AV) × Loc × H × Option Nat) (fun a ha => by
      obtain ⟨q1, q2, q3, q4, q5⟩ := ha
      obtain ⟨F', loc', h', lw', k1, k2⟩ := L4 (w0 := w0) h.length [rw', s, s ++ rw', T4, T5, s.extract 0 k2] (by
        intro v hv
        simp only [List.mem_cons, List.not_mem_nil, or_false] at hv
        rcases hv with rfl | rfl | rfl | rfl | rfl | rfl <;> omega) (by simp) 6 0 a.1 a.2.1 a.2.2.1 a.2.2.2 (by simp) q1 q2 q3 q4 q5
      exact ⟨(F', loc', h', lw'), k1, k2⟩)
  have G1 := fun F loc hh lw hc => (hG (F, loc, hh, lw) hc).1
  have G2 := fun F loc hh lw hc => (hG (F, loc, hh, lw) hc).2
  simp only at G1 G2
  clear hG
  have e12 := fun hh => f12 (w0 := w0) hh
  dsimp only [lp, loopsOf, Try.f4, Option.getD, List.append_eq, List.nil_append, List.cons_append, List.getElem?_cons_zero, List.getElem?_cons_succ] at G1 G2
  unfold xArg at e1 ⊢
  dsimp only [Try.f4, Option.getD]
  simp only [reduceIte, reduceCtorEq, Nat.reduceAdd, Nat.reduceMul, Nat.reduceSub, Nat.reduceEqDiff, Nat.reduceLT, Nat.reduceLeDiff, Nat.reduceBEq, Int.reduceLT, Int.reduceLE, Int.reduceEq,
    Int.reduceNe, Int.reduceAdd, Int.reduceSub, Int.reduceMul, Int.reduceToNat, push_cast, pairsOk, locGet, locSet, nextGen, p2_int, intBin, p2_str, strBin, len_str Try.underlying9, len_sl Try.underlying62, idx_bx arrSize_61, idx_sl elemSize_62, cv_4, e1, e4, m1, sl1, hu, hsx, hx1, hb1.1, hb1.2, hb2.1, hb2.2, hk, hk0, hk4, hne, ne_eq, not_false_eq_true, Nat.mul_one, List.getElem?_concat_length, set_last, hbl, hcl, hy, hz, hov, hs2, hbl2, hsz2, ht1, ht2, hsl, slih_sl elemSize_62 hz0 hz1, hk2, hne2, hw1, hw2, sl_str_h (P := Try.prog) Try.underlying9 hk20 hk21, hB1, hB2, zerosA, List.range, List.range.loop, Nat.zero_mod, getT, len_lit Try.underlying53, l1, hle, List.length_append, G1, G2, e12]
end Go.Proofs.Ytmglahnoemgieaa.Ax

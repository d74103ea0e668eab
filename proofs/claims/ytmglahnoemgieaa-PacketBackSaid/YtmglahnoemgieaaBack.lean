/- The statement PacketBack: whatever the message, the two numbers and the byte, the law answers true, and the arguments read as they did. -/
import Derived.Test.YtmglahnoemgieaaM16
import Derived.Test.YtmglahnoemgieaaM17
import Derived.OpenShut
namespace Go.Proofs.Ytmglahnoemgieaa
open Go.ChangeShapes Go.WideShapes Go.ChangeAt Go.RowKit
open Go.Proofs.Ytmglahnoemgieaa.Ax
set_option linter.unusedSimpArgs false
set_option linter.unusedVariables false
set_option linter.constructorNameAsVariable false
theorem two_of {α : Type} {c : Array α} (h : c.size = 2) : ∃ a b, c = #[a, b] := by
  obtain ⟨l⟩ := c
  match l, h with
  | [a, b], _ => exact ⟨a, b, rfl⟩
theorem cells73 : Try.prog.cellsOf 73 = 1 := by kernel_rfl
theorem cells74 : Try.prog.cellsOf 74 = 2 := by kernel_rfl
theorem open_pair {H : Type} {enc : TypeId × Value → H} {w : World} {base b0 : Nat} {spare : Nat → Bool} {v : Value} {d : DataW H} {ps : List MemPlace} (hval : Value.okWide Try.prog w .any b0 74 v) (hd : DataW.Trod enc Try.prog w base spare true 74 v d ps) :
    ∃ n0 n1 : Nat, v = .agg #[.int .u32 n0, .int .u32 n1] ∧ n0 < 4294967296 ∧ n1 < 4294967296 := by
  simp only [Value.okWide, Try.underlying74] at hval
  obtain ⟨c, rfl, _⟩ := hval
  obtain ⟨fuel, hf⟩ := hd
  obtain ⟨xs, m, _, _, hl, hx, he⟩ := DataW.trod_array Try.underlying74 hf
  rw [cells74] at hl
  rw [cells73] at he
  have hl' : c.size = 2 := hl
  obtain ⟨c0, c1, rfl⟩ := two_of hl'
  have one : ∀ i, i < 2 → ∃ n : Nat, (List.take 1 (List.drop (i * 1) [c0, c1])) = [.int .u32 n] ∧ n < 4294967296 := by
    intro i hi
    have h1 := he i hi
    rw [List.getElem?_eq_getElem (by omega)] at h1
    obtain ⟨n, h2, _, h3⟩ := DataW.trod_int Try.underlying73 h1
    obtain ⟨q1, q2⟩ := bounds_u32 h3
    refine ⟨n.toNat, ?_, by omega⟩
    rw [Int.toNat_of_nonneg q1]
    exact h2
  obtain ⟨n0, h0, b0⟩ := one 0 (by omega)
  obtain ⟨n1, h1, b1⟩ := one 1 (by omega)
  cases h0; cases h1
  exact ⟨n0, n1, rfl, b0, b1⟩
set_option maxRecDepth 100000 in
theorem packetBack_lifted (os : Os) (started : os.Started) (H : Type) (enc : TypeId × Value → H) :
    ReturnsInHanded {} Try.checked os 5 .any (Rows.packetBackSpec.pre6 enc Try.prog Try.f5 Rows.packetBackRow.domain false) (Rows.packetBackSpec.post enc Try.prog Try.f5 false true false false) := by
  refine returnsInHanded_of_change (C := Try.checked) Try.own started (by kernel_rfl) Try.func5
    (ChangeSpec.witness6 (enc := enc) (C := Try.checked) false ⟨#[], #[
      .agg #[.int .i64 0, .int .i64 0, .int .i64 0, .string ByteArray.empty, .string ByteArray.empty, .int .i64 0, .int .i64 0, .int .i64 0, .int .i64 0, .string ByteArray.empty, .bool false, .int .i64 0, .slice none 0 0],
      .agg #[.int .u32 0, .int .u32 0], .int .u8 0], []⟩ 8 (by kernel_rfl) (by kernel_rfl) (by kernel_rfl) (by kernel_rfl)) ?_
  intro W base args ds gs before hval0 hW hcnd _
  have hval : ∀ (j : Nat) t v, Try.f5.params[j]? = some t → args[j]? = some v → Value.okWide Try.prog W .any base t v := hval0
  have hW' := hW
  obtain ⟨p, q, hA0, hV, rfl, hfz, hnd⟩ := hW
  have hA : DataW.TrodAll enc Try.prog W 0 (fun _ => true) true Try.f5.params.toList args.toList ds p := hA0
  rw [Try.params5] at hA hval
  obtain ⟨v0, v1, v2, d0, d1, d2, p0, p1, p2, rfl, rfl, rfl, h0, h1, h2⟩ := trodAll_three hA
  obtain ⟨rfl, rfl⟩ := trodVars_none hV
  obtain ⟨x, es, hx, rx⟩ := open_msg h0 (hval 0 28 v0 rfl rfl)
  obtain ⟨n0, n1, rfl, b0, b1⟩ := open_pair (hval 1 74 v1 rfl rfl) h1
  obtain ⟨mb, rfl, rfl, rfl, wm⟩ := open_int Try.underlying5 (hval 2 5 v2 rfl rfl) h2
  obtain ⟨m0, m1⟩ := bounds_u8 wm
  have hmb : mb = ((UInt8.ofNat mb.toNat).toNat : Int) := by
    rw [UInt8.toNat_ofNat']
    omega
  have hr := f5 x es hx n0 n1 b0 b1 (UInt8.ofNat mb.toNat) []
  rw [← hmb] at hr
  refine (law_run (vs := [v0, .agg #[.int .u32 n0, .int .u32 n1], .int .u8 mb]) hr ⟨_, _, rfl, rx M0, _, _, rfl, ⟨_, rfl, _, _, rfl, rfl, _, _, rfl, rfl, rfl⟩, _, _, rfl, rfl, rfl⟩ rfl).mono fun e W' ⟨he, hb⟩ => ?_
  subst he
  refine ⟨_, rfl, law_post hb rfl hW' ?_ rfl rfl rfl rfl⟩
  rw [Try.params5]; intro t ht
  simp only [List.mem_cons, List.not_mem_nil, or_false] at ht
  rcases ht with rfl | rfl | rfl <;> exact ⟨by kernel_rfl, of_decide_eq_true (by kernel_rfl)⟩
theorem packetBack_holds : Rows.PacketBackSaid :=
  OpenClaim.holds_of_wide 5 Try.f5 rfl rfl rfl rfl rfl rfl rfl ⟨rfl, rfl, rfl, rfl, rfl⟩ rfl rfl rfl rfl rfl (by kernel_rfl) Try.func5 (by kernel_rfl)
    (of_decide_eq_true (by kernel_rfl)) (by unfold Func.isWrapper; first | (rw [if_pos (by decide +kernel)]; kernel_rfl) | (rw [if_neg (by decide +kernel)]; exact ⟨rfl, rfl⟩))
    (fun os started H enc _ => packetBack_lifted os started H enc)
#print axioms packetBack_holds
end Go.Proofs.Ytmglahnoemgieaa

/- The statement PacketGets: whatever the message, the text and the three numbers, the law answers true, and the arguments read as they did. -/
import Derived.Test.YtmglahnoemgieaaM16
import Derived.Test.YtmglahnoemgieaaM19
import Derived.OpenShut
namespace Go.Proofs.Ytmglahnoemgieaa
open Go.ChangeMaps (open_string)
open Go.ChangeShapes Go.WideShapes Go.ChangeAt Go.RowKit
open Go.Proofs.Ytmglahnoemgieaa.Ax
set_option linter.unusedSimpArgs false
set_option linter.unusedVariables false
set_option linter.constructorNameAsVariable false
theorem three_of {α : Type} {c : Array α} (h : c.size = 3) : ∃ a b d, c = #[a, b, d] := by
  obtain ⟨l⟩ := c
  match l, h with
  | [a, b, d], _ => exact ⟨a, b, d, rfl⟩
theorem cells61 : Try.prog.cellsOf 61 = 3 := by kernel_rfl
theorem open_triple {H : Type} {enc : TypeId × Value → H} {w : World} {base b0 : Nat} {spare : Nat → Bool} {v : Value} {d : DataW H} {ps : List MemPlace} (hval : Value.okWide Try.prog w .any b0 61 v) (hd : DataW.Trod enc Try.prog w base spare true 61 v d ps) :
    ∃ n0 n1 n2 : Int, v = .agg #[.int .i64 n0, .int .i64 n1, .int .i64 n2] := by
  simp only [Value.okWide, Try.underlying61] at hval
  obtain ⟨c, rfl, _⟩ := hval
  obtain ⟨fuel, hf⟩ := hd
  obtain ⟨xs, m, _, _, hl, hx, he⟩ := DataW.trod_array Try.underlying61 hf
  rw [cells61] at hl
  rw [cells3] at he
  have hl' : c.size = 3 := hl
  obtain ⟨c0, c1, c2, rfl⟩ := three_of hl'
  have one : ∀ i, i < 3 → ∃ n : Int, (List.take 1 (List.drop (i * 1) [c0, c1, c2])) = [.int .i64 n] := by
    intro i hi
    have h1 := he i hi
    rw [List.getElem?_eq_getElem (by omega)] at h1
    obtain ⟨n, h2, _, _⟩ := DataW.trod_int Try.underlying3 h1
    exact ⟨n, h2⟩
  obtain ⟨n0, h0⟩ := one 0 (by omega)
  obtain ⟨n1, h1⟩ := one 1 (by omega)
  obtain ⟨n2, h2⟩ := one 2 (by omega)
  cases h0; cases h1; cases h2
  exact ⟨n0, n1, n2, rfl⟩
set_option maxRecDepth 100000 in
theorem packetGets_lifted (os : Os) (started : os.Started) (H : Type) (enc : TypeId × Value → H) :
    ReturnsInHanded {} Try.checked os 4 .any (Rows.packetGetsSpec.pre6 enc Try.prog Try.f4 Rows.packetGetsRow.domain false) (Rows.packetGetsSpec.post enc Try.prog Try.f4 false true false false) := by
  refine returnsInHanded_of_change (C := Try.checked) Try.own started (by kernel_rfl) Try.func4
    (ChangeSpec.witness6 (enc := enc) (C := Try.checked) false ⟨#[], #[
      .agg #[.int .i64 0, .int .i64 0, .int .i64 0, .string ByteArray.empty, .string ByteArray.empty, .int .i64 0, .int .i64 0, .int .i64 0, .int .i64 0, .string ByteArray.empty, .bool false, .int .i64 0, .slice none 0 0],
      .string ByteArray.empty, .agg #[.int .i64 0, .int .i64 0, .int .i64 0]], []⟩ 8 (by kernel_rfl) (by kernel_rfl) (by kernel_rfl) (by kernel_rfl)) ?_
  intro W base args ds gs before hval0 hW hcnd _
  have hval : ∀ (j : Nat) t v, Try.f4.params[j]? = some t → args[j]? = some v → Value.okWide Try.prog W .any base t v := hval0
  have hW' := hW
  obtain ⟨p, q, hA0, hV, rfl, hfz, hnd⟩ := hW
  have hA : DataW.TrodAll enc Try.prog W 0 (fun _ => true) true Try.f4.params.toList args.toList ds p := hA0
  rw [Try.params4] at hA hval
  obtain ⟨v0, v1, v2, d0, d1, d2, p0, p1, p2, rfl, rfl, rfl, h0, h1, h2⟩ := trodAll_three hA
  obtain ⟨rfl, rfl⟩ := trodVars_none hV
  obtain ⟨x, es, hx, rx⟩ := open_msg h0 (hval 0 28 v0 rfl rfl)
  obtain ⟨raw, rfl, rfl, rfl, hraw⟩ := open_string Try.underlying9 (hval 1 9 v1 rfl rfl) h1
  obtain ⟨n0, n1, n2, rfl⟩ := open_triple (hval 2 61 v2 rfl rfl) h2
  refine (law_run (vs := [v0, .string raw, .agg #[.int .i64 n0, .int .i64 n1, .int .i64 n2]]) (f4 x es hx raw n0 n1 n2 []) ⟨_, _, rfl, rx M0, _, _, rfl, rfl, _, _, rfl, ⟨_, rfl, _, _, rfl, rfl, _, _, rfl, rfl, _, _, rfl, rfl, rfl⟩, rfl⟩ rfl).mono fun e W' ⟨he, hb⟩ => ?_
  subst he
  refine ⟨_, rfl, law_post hb rfl hW' ?_ rfl rfl rfl rfl⟩
  rw [Try.params4]; intro t ht
  simp only [List.mem_cons, List.not_mem_nil, or_false] at ht
  rcases ht with rfl | rfl | rfl <;> exact ⟨by kernel_rfl, of_decide_eq_true (by kernel_rfl)⟩
theorem packetGets_holds : Rows.PacketGetsSaid :=
  OpenClaim.holds_of_wide 4 Try.f4 rfl rfl rfl rfl rfl rfl rfl ⟨rfl, rfl, rfl, rfl, rfl⟩ rfl rfl rfl rfl rfl (by kernel_rfl) Try.func4 (by kernel_rfl)
    (of_decide_eq_true (by kernel_rfl)) (by unfold Func.isWrapper; first | (rw [if_pos (by decide +kernel)]; kernel_rfl) | (rw [if_neg (by decide +kernel)]; exact ⟨rfl, rfl⟩))
    (fun os started H enc _ => packetGets_lifted os started H enc)
#print axioms packetGets_holds
end Go.Proofs.Ytmglahnoemgieaa

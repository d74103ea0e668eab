/- The statement PacketPuts: whatever the message and the two numbers, the law answers true, and the arguments read as they did. -/
import Derived.Test.YtmglahnoemgieaaM16
import Derived.Test.YtmglahnoemgieaaM18
namespace Go.Proofs.Ytmglahnoemgieaa
open Go.ChangeShapes Go.WideShapes Go.ChangeAt Go.RowKit
open Go.Proofs.Ytmglahnoemgieaa.Ax
set_option linter.unusedSimpArgs false
set_option linter.unusedVariables false
set_option linter.constructorNameAsVariable false
set_option maxRecDepth 100000 in
theorem packetPuts_lifted (os : Os) (started : os.Started) (H : Type) (enc : TypeId × Value → H) :
    ReturnsInHanded {} Try.checked os 3 .any (Rows.packetPutsSpec.pre6 enc Try.prog Try.f3 Rows.packetPutsRow.domain false) (Rows.packetPutsSpec.post enc Try.prog Try.f3 false true false false) := by
  refine returnsInHanded_of_change (C := Try.checked) Try.own started (by kernel_rfl) Try.func3
    (ChangeSpec.witness6 (enc := enc) (C := Try.checked) false ⟨#[], #[
      .agg #[.int .i64 0, .int .i64 0, .int .i64 0, .string ByteArray.empty, .string ByteArray.empty, .int .i64 0, .int .i64 0, .int .i64 0, .int .i64 0, .string ByteArray.empty, .bool false, .int .i64 0, .slice none 0 0],
      .int .i64 0, .int .i64 0], []⟩ 8 (by kernel_rfl) (by kernel_rfl) (by kernel_rfl) (by kernel_rfl)) ?_
  intro W base args ds gs before hval0 hW hcnd _
  have hval : ∀ (j : Nat) t v, Try.f3.params[j]? = some t → args[j]? = some v → Value.okWide Try.prog W .any base t v := hval0
  have hW' := hW
  obtain ⟨p, q, hA0, hV, rfl, hfz, hnd⟩ := hW
  have hA : DataW.TrodAll enc Try.prog W 0 (fun _ => true) true Try.f3.params.toList args.toList ds p := hA0
  rw [Try.params3] at hA hval
  obtain ⟨v0, v1, v2, d0, d1, d2, p0, p1, p2, rfl, rfl, rfl, h0, h1, h2⟩ := trodAll_three hA
  obtain ⟨rfl, rfl⟩ := trodVars_none hV
  obtain ⟨x, es, hx, rx⟩ := open_msg h0 (hval 0 28 v0 rfl rfl)
  obtain ⟨inc, rfl, rfl, rfl, wi⟩ := open_int Try.underlying2 (hval 1 2 v1 rfl rfl) h1
  obtain ⟨seq, rfl, rfl, rfl, ws⟩ := open_int Try.underlying2 (hval 2 2 v2 rfl rfl) h2
  refine (law_run (vs := [v0, .int .i64 inc, .int .i64 seq]) (f3 x es hx inc seq []) ⟨_, _, rfl, rx M0, _, _, rfl, rfl, _, _, rfl, rfl, rfl⟩ rfl).mono fun e W' ⟨he, hb⟩ => ?_
  subst he
  refine ⟨_, rfl, law_post hb rfl hW' ?_ rfl rfl rfl rfl⟩
  rw [Try.params3]; intro t ht
  simp only [List.mem_cons, List.not_mem_nil, or_false, or_self] at ht
  rcases ht with rfl | rfl <;> exact ⟨by kernel_rfl, of_decide_eq_true (by kernel_rfl)⟩
theorem packetPuts_holds : Rows.PacketPutsSaid :=
  OpenClaim.holds_of_wide 3 Try.f3 rfl rfl rfl rfl rfl rfl rfl ⟨rfl, rfl, rfl, rfl, rfl⟩ rfl rfl rfl rfl rfl (by kernel_rfl) Try.func3 (by kernel_rfl)
    (of_decide_eq_true (by kernel_rfl)) (by unfold Func.isWrapper; first | (rw [if_pos (by decide +kernel)]; kernel_rfl) | (rw [if_neg (by decide +kernel)]; exact ⟨rfl, rfl⟩))
    (fun os started H enc _ => packetPuts_lifted os started H enc)
#print axioms packetPuts_holds
end Go.Proofs.Ytmglahnoemgieaa

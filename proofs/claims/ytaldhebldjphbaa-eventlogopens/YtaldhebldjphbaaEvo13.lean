/-
  The law EventlogOpens: what its functions compute, and that it answers true.
  Conditions: none.
-/
import Derived.Test.YtaldhebldjphbaaEvo12
namespace Go.Proofs.Ytaldhebldjphbaa
open Go.Vm
open Go.ChangeShapes Go.WideShapes Go.ChangeAt Go.RowKit
set_option maxRecDepth 100000
theorem EventlogOpens_lifted (os : Os) (started : os.Started) (H : Type) (enc : TypeId × Value → H) :
    ReturnsInHanded {} Try.checked os 12 .any (Rows.eventlogOpensSpec.pre6 enc Try.prog Try.f12 Rows.eventlogOpensRow.domain false) (Rows.eventlogOpensSpec.post enc Try.prog Try.f12 false true false false) := by
  refine returnsInHanded_of_change_sized (C := Try.checked) own started (by kernel_rfl) Try.func12
    (ChangeSpec.witness6 (enc := enc) (C := Try.checked) false ⟨#[], #[.string ByteArray.empty, .bool false, .int .u64 0, .int .i64 0], []⟩ 8 (by kernel_rfl) (by kernel_rfl) (by kernel_rfl) (by kernel_rfl)) ?_
  intro W base args ds gs before hval hW hcnd hsz _
  exact law_post (T := T) (sg := sg) mixed (fun f F h => h) (f := 12) (fn := Try.f12) (tys := [.sc, .sc, .sc, .sc]) rfl (by kernel_rfl) rfl (tb := 4) (by kernel_rfl) Try.underlying4 laidOut (by kernel_rfl) EventlogOpens_pure
    (s := Rows.eventlogOpensSpec) rfl (by kernel_rfl) (fun ds h => by
      rw [Try.params12] at h
      match ds, h with
      | [x0, x1, x2, x3], _ => rfl) hval hW hsz

theorem EventlogOpens_holds : Rows.EventlogOpensSaid :=
  OpenClaim.holds_of_wide 12 Try.f12 rfl rfl rfl rfl rfl rfl rfl ⟨rfl, rfl, rfl, rfl, rfl⟩ rfl rfl rfl rfl rfl (by kernel_rfl) Try.func12 (by kernel_rfl)
    (of_decide_eq_true (by kernel_rfl)) (by unfold Func.isWrapper; first | (rw [if_pos (by decide +kernel)]; kernel_rfl) | (rw [if_neg (by decide +kernel)]; exact ⟨rfl, rfl⟩))
    (fun os started H enc _ => EventlogOpens_lifted os started H enc)
end Go.Proofs.Ytaldhebldjphbaa

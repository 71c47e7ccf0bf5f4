/-
  The law EventlogSeals: what its functions compute, and that it answers true.
  Conditions: none.
-/
import Derived.Test.YtaldhebldjphbaaEvs12
namespace Go.Proofs.Ytaldhebldjphbaa
open Go.Vm
open Go.ChangeShapes Go.WideShapes Go.ChangeAt Go.RowKit
set_option maxRecDepth 100000
theorem EventlogSeals_lifted (os : Os) (started : os.Started) (H : Type) (enc : TypeId × Value → H) :
    ReturnsInHanded {} Try.checked os 11 .any (Rows.eventlogSealsSpec.pre6 enc Try.prog Try.f11 Rows.eventlogSealsRow.domain false) (Rows.eventlogSealsSpec.post enc Try.prog Try.f11 false true false false) := by
  refine returnsInHanded_of_change_sized (C := Try.checked) own started (by kernel_rfl) Try.func11
    (ChangeSpec.witness6 (enc := enc) (C := Try.checked) false ⟨#[], #[.int .u64 0, .string ByteArray.empty, .int .i64 0], []⟩ 8 (by kernel_rfl) (by kernel_rfl) (by kernel_rfl) (by kernel_rfl)) ?_
  intro W base args ds gs before hval hW hcnd hsz _
  exact law_post (T := T) (sg := sg) mixed (fun f F h => h) (f := 11) (fn := Try.f11) (tys := [.sc, .sc, .sc]) rfl (by kernel_rfl) rfl (tb := 4) (by kernel_rfl) Try.underlying4 laidOut (by kernel_rfl) EventlogSeals_pure
    (s := Rows.eventlogSealsSpec) rfl (by kernel_rfl) (fun ds h => by
      rw [Try.params11] at h
      match ds, h with
      | [x0, x1, x2], _ => rfl) hval hW hsz

theorem EventlogSeals_holds : Rows.EventlogSealsSaid :=
  OpenClaim.holds_of_wide 11 Try.f11 rfl rfl rfl rfl rfl rfl rfl ⟨rfl, rfl, rfl, rfl, rfl⟩ rfl rfl rfl rfl rfl (by kernel_rfl) Try.func11 (by kernel_rfl)
    (of_decide_eq_true (by kernel_rfl)) (by unfold Func.isWrapper; first | (rw [if_pos (by decide +kernel)]; kernel_rfl) | (rw [if_neg (by decide +kernel)]; exact ⟨rfl, rfl⟩))
    (fun os started H enc _ => EventlogSeals_lifted os started H enc)
end Go.Proofs.Ytaldhebldjphbaa

/-
  The law LinkCarries: what its functions compute, and that it answers true.
  Conditions: none.
-/
import Derived.Test.YtaldhebldjphbaaCar5
namespace Go.Proofs.Ytaldhebldjphbaa
open Go.Vm
open Go.ChangeShapes Go.WideShapes Go.ChangeAt Go.RowKit
set_option maxRecDepth 100000
theorem LinkCarries_lifted (os : Os) (started : os.Started) (H : Type) (enc : TypeId × Value → H) :
    ReturnsInHanded {} Try.checked os 5 .any (Rows.linkCarriesSpec.pre6 enc Try.prog Try.f5 Rows.linkCarriesRow.domain false) (Rows.linkCarriesSpec.post enc Try.prog Try.f5 false true false false) := by
  refine returnsInHanded_of_change_sized (C := Try.checked) own started (by kernel_rfl) Try.func5
    (ChangeSpec.witness6 (enc := enc) (C := Try.checked) false ⟨#[], #[.slice none 0 0], []⟩ 8 (by kernel_rfl) (by kernel_rfl) (by kernel_rfl) (by kernel_rfl)) ?_
  intro W base args ds gs before hval hW hcnd hsz _
  exact law_post (T := T) (sg := sg) mixed (fun f F h => h) (f := 5) (fn := Try.f5) (tys := [.sl .sh .sc]) rfl (by kernel_rfl) rfl (tb := 4) (by kernel_rfl) Try.underlying4 laidOut (by kernel_rfl) LinkCarries_pure
    (s := Rows.linkCarriesSpec) rfl (by kernel_rfl) (fun ds h => by
      rw [Try.params5] at h
      match ds, h with
      | [x0], _ => rfl) hval hW hsz

theorem LinkCarries_holds : Rows.LinkCarriesSaid :=
  OpenClaim.holds_of_wide 5 Try.f5 rfl rfl rfl rfl rfl rfl rfl ⟨rfl, rfl, rfl, rfl, rfl⟩ rfl rfl rfl rfl rfl (by kernel_rfl) Try.func5 (by kernel_rfl)
    (of_decide_eq_true (by kernel_rfl)) (by unfold Func.isWrapper; first | (rw [if_pos (by decide +kernel)]; kernel_rfl) | (rw [if_neg (by decide +kernel)]; exact ⟨rfl, rfl⟩))
    (fun os started H enc _ => LinkCarries_lifted os started H enc)
end Go.Proofs.Ytaldhebldjphbaa

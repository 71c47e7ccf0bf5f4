/-
  The law LinkCorrupts: what its functions compute, and that it answers true.
  Conditions: none.
-/
import Derived.Test.YtaldhebldjphbaaCor6
namespace Go.Proofs.Ytaldhebldjphbaa
open Go.Vm
open Go.ChangeShapes Go.WideShapes Go.ChangeAt Go.RowKit
set_option maxRecDepth 100000
theorem LinkCorrupts_lifted (os : Os) (started : os.Started) (H : Type) (enc : TypeId × Value → H) :
    ReturnsInHanded {} Try.checked os 4 .any (Rows.linkCorruptsSpec.pre6 enc Try.prog Try.f4 Rows.linkCorruptsRow.domain false) (Rows.linkCorruptsSpec.post enc Try.prog Try.f4 false true false false) := by
  refine returnsInHanded_of_change_sized (C := Try.checked) own started (by kernel_rfl) Try.func4
    (ChangeSpec.witness6 (enc := enc) (C := Try.checked) false ⟨#[], #[.agg #[.slice none 0 0, .bool false], .int .i64 0, .int .i64 0], []⟩ 8 (by kernel_rfl) (by kernel_rfl) (by kernel_rfl) (by kernel_rfl)) ?_
  intro W base args ds gs before hval hW hcnd hsz _
  exact law_post (T := T) (sg := sg) mixed (fun f F h => h) (f := 4) (fn := Try.f4) (tys := [.agg [.sl .sh .sc, .sc], .sc, .sc]) rfl (by kernel_rfl) rfl (tb := 4) (by kernel_rfl) Try.underlying4 laidOut (by kernel_rfl) LinkCorrupts_pure
    (s := Rows.linkCorruptsSpec) rfl (by kernel_rfl) (fun ds h => by
      rw [Try.params4] at h
      match ds, h with
      | [x0, x1, x2], _ => rfl) hval hW hsz

theorem LinkCorrupts_holds : Rows.LinkCorruptsSaid :=
  OpenClaim.holds_of_wide 4 Try.f4 rfl rfl rfl rfl rfl rfl rfl ⟨rfl, rfl, rfl, rfl, rfl⟩ rfl rfl rfl rfl rfl (by kernel_rfl) Try.func4 (by kernel_rfl)
    (of_decide_eq_true (by kernel_rfl)) (by unfold Func.isWrapper; first | (rw [if_pos (by decide +kernel)]; kernel_rfl) | (rw [if_neg (by decide +kernel)]; exact ⟨rfl, rfl⟩))
    (fun os started H enc _ => LinkCorrupts_lifted os started H enc)
end Go.Proofs.Ytaldhebldjphbaa

/-
  The law EventlogOpens: what its functions compute, and that it answers true.
  Conditions: none.
-/
import Derived.Test.YtaldhebldjphbaaEvo10
import Derived.WalkKit
namespace Go.Proofs.Ytaldhebldjphbaa
open Go.Vm
open Go.ChangeShapes Go.WideShapes Go.ChangeAt Go.RowKit
set_option maxRecDepth 100000
theorem own : ownKnob Try.prog.godebug = none := by kernel_rfl
theorem laidOut : laidOutB Try.prog = true := by kernel_rfl
theorem mixed : Try.prog.follows .mixedOrders = true := by kernel_rfl

theorem int_of {x : PV} {k : Nat} (h : InT Try.prog (k + 1) 3 x) : ∃ n, x = .int .i64 n ∧ (Lit.int .i64 n).wf = true := by
  unfold InT at h; rw [Try.underlying3] at h; exact h
theorem str_of {x : PV} {k : Nat} (h : InT Try.prog (k + 1) 9 x) : ∃ s, x = .str s ∧ s.length ≤ reachBytes := by
  unfold InT at h; rw [Try.underlying9] at h; exact h
theorem bool_of {x : PV} {k : Nat} (h : InT Try.prog (k + 1) 4 x) : ∃ b, x = .bool b := by
  unfold InT at h; rw [Try.underlying4] at h; exact h
theorem u64_of {x : PV} {k : Nat} (h : InT Try.prog (k + 1) 43 x) : ∃ n : Nat, x = .int .u64 n ∧ n < 18446744073709551616 := by
  unfold InT at h; rw [Try.underlying43] at h
  obtain ⟨n, rfl, hw⟩ := h
  simp [Lit.wf, IntKind.min, IntKind.max, IntKind.signed, IntKind.bits] at hw
  exact ⟨n.toNat, by rw [Int.toNat_of_nonneg hw.1], by omega⟩
end Go.Proofs.Ytaldhebldjphbaa

/-
  The law LinkCarries: what its functions compute, and that it answers true.
  Conditions: none.
-/
import Derived.Test.YtaldhebldjphbaaCar3
import Derived.WalkKit
namespace Go.Proofs.Ytaldhebldjphbaa
open Go.Vm
open Go.ChangeShapes Go.WideShapes Go.ChangeAt Go.RowKit
set_option maxRecDepth 100000
theorem own : ownKnob Try.prog.godebug = none := by kernel_rfl
theorem laidOut : laidOutB Try.prog = true := by kernel_rfl
theorem mixed : Try.prog.follows .mixedOrders = true := by kernel_rfl

theorem int_of {x : PV} {k : Nat} (h : InT Try.prog (k + 1) 3 x) : ∃ n, x = .int .i64 n ∧ (Lit.int .i64 n).wf = true := by
  unfold InT at h; rw [Try.underlying3] at h; exact h
theorem str_of {x : PV} {k : Nat} (h : InT Try.prog (k + 1) 9 x) : ∃ s, x = .str s ∧ s.length ≤ reachBytes := by
  unfold InT at h; rw [Try.underlying9] at h; exact h
theorem bool_of {x : PV} {k : Nat} (h : InT Try.prog (k + 1) 4 x) : ∃ b, x = .bool b := by
  unfold InT at h; rw [Try.underlying4] at h; exact h
theorem link_of {x : PV} {k : Nat} (h : InT Try.prog (k + 1 + 1 + 1) 24 x) : ∃ nl xs cut, x = lnk nl xs cut ∧ ∀ y ∈ xs, ∃ s, y = .str s := by
  unfold InT at h; rw [Try.underlying24] at h
  obtain ⟨xs, rfl, h⟩ := h
  simp only [List.map_cons, List.map_nil, AllT] at h
  obtain ⟨p, _, rfl, hp, c, _, rfl, hc, rfl⟩ := h
  unfold InT at hp; rw [Try.underlying22] at hp
  obtain ⟨nl, ys, rfl, _, _, hy⟩ := hp
  obtain ⟨b, rfl⟩ := bool_of hc
  exact ⟨nl, ys, b, rfl, fun y h => by obtain ⟨s, hs, _⟩ := str_of (hy y h); exact ⟨s, hs⟩⟩

end Go.Proofs.Ytaldhebldjphbaa

/-
  The law HeartPackets: what its functions compute, and that it answers true.
  Conditions: none.
-/
import Derived.Test.YtaldhebldjphbaaHpa9
import Derived.Test.YtaldhebldjphbaaHpa8
namespace Go.Proofs.Ytaldhebldjphbaa
open Go.Vm
set_option maxRecDepth 100000
theorem HeartPackets_pure (xs : List PV) (h : AllT (InT Try.prog depth) Try.f9.params.toList xs) : ∃ k, call T k 9 xs = some [.bool true] := by
  rw [Try.params9] at h
  simp only [AllT] at h
  obtain ⟨x, _, rfl, hx, m, _, rfl, hm, b, _, rfl, hb, rfl⟩ := h
  obtain ⟨x, rfl, hx2⟩ := u64_of (k := 11) hx
  obtain ⟨m, rfl, hm2⟩ := u64_of (k := 11) hm
  obtain ⟨b, rfl, _⟩ := int_of (k := 11) hb
  exact Ans_some.1 (HeartPackets x m b hx2 hm2)
end Go.Proofs.Ytaldhebldjphbaa

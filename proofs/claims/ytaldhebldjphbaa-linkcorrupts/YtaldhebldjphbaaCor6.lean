/-
  The law LinkCorrupts: what its functions compute, and that it answers true.
  Conditions: none.
-/
import Derived.Test.YtaldhebldjphbaaCor5
namespace Go.Proofs.Ytaldhebldjphbaa
open Go.Vm
set_option maxRecDepth 100000
theorem LinkCorrupts_pure (xs : List PV) (h : AllT (InT Try.prog depth) Try.f4.params.toList xs) : ∃ k, call T k 4 xs = some [.bool true] := by
  rw [Try.params4] at h
  simp only [AllT] at h
  obtain ⟨l, _, rfl, hl, s, _, rfl, hs, a, _, rfl, ha, rfl⟩ := h
  obtain ⟨nl, xs, cut, rfl, hx⟩ := link_of (k := 9) hl
  obtain ⟨s, rfl, _⟩ := int_of (k := 11) hs
  obtain ⟨a, rfl, _⟩ := int_of (k := 11) ha
  exact Ans_some.1 (LinkCorrupts nl xs cut s a hx)
end Go.Proofs.Ytaldhebldjphbaa

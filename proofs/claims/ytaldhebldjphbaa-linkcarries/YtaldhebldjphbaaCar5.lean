/-
  The law LinkCarries: what its functions compute, and that it answers true.
  Conditions: none.
-/
import Derived.Test.YtaldhebldjphbaaCar4
namespace Go.Proofs.Ytaldhebldjphbaa
open Go.Vm
set_option maxRecDepth 100000
theorem LinkCarries_pure (xs : List PV) (h : AllT (InT Try.prog depth) Try.f5.params.toList xs) : ∃ k, call T k 5 xs = some [.bool true] := by
  rw [Try.params5] at h
  simp only [AllT] at h
  obtain ⟨l, _, rfl, hl, rfl⟩ := h
  unfold depth at hl
  unfold InT at hl
  rw [Try.underlying37] at hl
  obtain ⟨nl, ys, rfl, _, _, hy⟩ := hl
  exact Ans_some.1 (LinkCarries nl ys fun x hx => by obtain ⟨n, h, _⟩ := int_of (hy x hx); exact ⟨n, h⟩)
end Go.Proofs.Ytaldhebldjphbaa

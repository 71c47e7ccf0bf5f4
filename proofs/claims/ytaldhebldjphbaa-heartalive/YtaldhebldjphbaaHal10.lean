/-
  The law HeartAlive: what its functions compute, and that it answers true.
  Conditions: none.
-/
import Derived.Test.YtaldhebldjphbaaHal9
import Derived.Test.YtaldhebldjphbaaHal8
namespace Go.Proofs.Ytaldhebldjphbaa
open Go.Vm
set_option maxRecDepth 100000
theorem HeartAlive_pure (xs : List PV) (h : AllT (InT Try.prog depth) Try.f8.params.toList xs) : ∃ k, call T k 8 xs = some [.bool true] := by
  rw [Try.params8] at h
  simp only [AllT] at h
  obtain ⟨l, _, rfl, hl, o, _, rfl, ho, rfl⟩ := h
  obtain ⟨l, rfl, _⟩ := int_of (k := 11) hl
  unfold depth at ho
  unfold InT at ho
  rw [Try.underlying37] at ho
  obtain ⟨nl, ys, rfl, _, _, hy⟩ := ho
  exact Ans_some.1 (HeartAlive l nl ys (fun x hx => by obtain ⟨n, h, _⟩ := int_of (hy x hx); exact ⟨n, h⟩))
end Go.Proofs.Ytaldhebldjphbaa

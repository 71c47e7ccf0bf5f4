/-
  The law JournalCodes: what its functions compute, and that it answers true.
  Conditions: none.
-/
import Derived.Test.YtaldhebldjphbaaJrn16
namespace Go.Proofs.Ytaldhebldjphbaa
open Go.Vm
set_option maxRecDepth 100000
theorem JournalCodes_pure (xs : List PV) (h : AllT (InT Try.prog depth) Try.f13.params.toList xs) : ∃ k, call T k 13 xs = some [.bool true] := by
  rw [Try.params13] at h
  simp only [AllT] at h
  obtain ⟨o, _, rfl, ho, s, _, rfl, hs, rfl⟩ := h
  obtain ⟨o, rfl, hok⟩ := man_of (k := 9) ho
  obtain ⟨s, rfl, _⟩ := str_of (k := 11) hs
  exact Ans_some.1 (JournalCodes o s hok)
end Go.Proofs.Ytaldhebldjphbaa

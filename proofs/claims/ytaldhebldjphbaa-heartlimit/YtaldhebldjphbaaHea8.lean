/-
  The law HeartLimit: what its functions compute, and that it answers true.
  Conditions: none.
-/
import Derived.Test.YtaldhebldjphbaaHea7
namespace Go.Proofs.Ytaldhebldjphbaa
open Go.Vm
set_option maxRecDepth 100000
theorem HeartLimit_pure (xs : List PV) (h : AllT (InT Try.prog depth) Try.f7.params.toList xs) : ∃ k, call T k 7 xs = some [.bool true] := by
  rw [Try.params7] at h
  simp only [AllT] at h
  obtain ⟨l, _, rfl, hl, t, _, rfl, ht, s, _, rfl, hs, o, _, rfl, ho, rfl⟩ := h
  obtain ⟨l, rfl, _⟩ := int_of (k := 11) hl
  obtain ⟨t, rfl, _⟩ := int_of (k := 11) ht
  obtain ⟨s, rfl, _⟩ := u64_of (k := 11) hs
  unfold depth at ho
  unfold InT at ho
  rw [Try.underlying55] at ho
  obtain ⟨nl, ys, rfl, _, _, hy⟩ := ho
  exact Ans_some.1 (HeartLimit l t s nl ys (fun x hx => by obtain ⟨n, h, _⟩ := u64_of (hy x hx); exact ⟨n, h⟩) (Int.natCast_nonneg _))
end Go.Proofs.Ytaldhebldjphbaa

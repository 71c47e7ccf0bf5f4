/-
  The law HeartTells: what its functions compute, and that it answers true.
  Conditions: none.
-/
import Derived.Test.YtaldhebldjphbaaHte10
import Derived.Test.YtaldhebldjphbaaHte9
namespace Go.Proofs.Ytaldhebldjphbaa
open Go.Vm
set_option maxRecDepth 100000
theorem det_of {x : PV} {k : Nat} (h : InT Try.prog (k + 1 + 1) 45 x) : ∃ l s n, x = det l s n := by
  unfold InT at h; rw [Try.underlying45] at h
  obtain ⟨xs, rfl, h⟩ := h
  simp only [List.map_cons, List.map_nil, AllT] at h
  obtain ⟨p, _, rfl, hp, c, _, rfl, hc, e, _, rfl, he, rfl⟩ := h
  obtain ⟨p, rfl, _⟩ := int_of hp
  obtain ⟨c, rfl, _⟩ := int_of hc
  obtain ⟨e, rfl, _⟩ := u64_of he
  exact ⟨p, c, e, rfl⟩
theorem HeartTells_pure (xs : List PV) (h : AllT (InT Try.prog depth) Try.f6.params.toList xs) : ∃ k, call T k 6 xs = some [.bool true] := by
  rw [Try.params6] at h
  simp only [AllT] at h
  obtain ⟨d, _, rfl, hd, l, _, rfl, hl, x, _, rfl, hx, m, _, rfl, hm, p, _, rfl, hp, rfl⟩ := h
  obtain ⟨a, b, c, rfl⟩ := det_of (k := 10) hd
  obtain ⟨l, rfl, _⟩ := int_of (k := 11) hl
  obtain ⟨x, rfl, hx2⟩ := u64_of (k := 11) hx
  obtain ⟨m, rfl, hm2⟩ := u64_of (k := 11) hm
  obtain ⟨p, rfl, _⟩ := str_of (k := 11) hp
  exact Ans_some.1 (HeartTells a b c l x m p hx2 hm2)
end Go.Proofs.Ytaldhebldjphbaa

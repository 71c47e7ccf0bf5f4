/-
  The law EventlogOpens: what its functions compute, and that it answers true.
  Conditions: none.
-/
import Derived.Test.YtaldhebldjphbaaEvo11
namespace Go.Proofs.Ytaldhebldjphbaa
open Go.Vm
set_option maxRecDepth 100000
theorem u32_of {x : PV} {k : Nat} (h : InT Try.prog (k + 1) 60 x) : ∃ n : Int, x = .int .u32 n := by
  unfold InT at h; rw [Try.underlying60] at h
  obtain ⟨n, rfl, hw⟩ := h
  exact ⟨n, rfl⟩
theorem ev_of {x : PV} {k : Nat} (h : InT Try.prog (k + 1 + 1) 62 x) : ∃ l s n, x = ev l s n := by
  unfold InT at h; rw [Try.underlying62] at h
  obtain ⟨xs, rfl, h⟩ := h
  simp only [List.map_cons, List.map_nil, AllT] at h
  obtain ⟨p, _, rfl, hp, c, _, rfl, hc, e, _, rfl, he, rfl⟩ := h
  obtain ⟨p, rfl, _⟩ := int_of hp
  obtain ⟨c, rfl⟩ := u32_of hc
  obtain ⟨e, rfl, _⟩ := str_of he
  exact ⟨p, c, e, rfl⟩
theorem EventlogValid_pure (xs : List PV) (h : AllT (InT Try.prog depth) Try.f10.params.toList xs) : ∃ k, call T k 10 xs = some [.bool true] := by
  rw [Try.params10] at h
  simp only [AllT] at h
  obtain ⟨d, _, rfl, hd, l, _, rfl, hl, x, _, rfl, hx, rfl⟩ := h
  obtain ⟨a, b, c, rfl⟩ := ev_of (k := 10) hd
  obtain ⟨l, rfl, _⟩ := int_of (k := 11) hl
  obtain ⟨x, rfl⟩ := bool_of (k := 11) hx
  exact Ans_some.1 (EventlogValid a b c l x)
theorem EventlogSeals_pure (xs : List PV) (h : AllT (InT Try.prog depth) Try.f11.params.toList xs) : ∃ k, call T k 11 xs = some [.bool true] := by
  rw [Try.params11] at h
  simp only [AllT] at h
  obtain ⟨x, _, rfl, hx, b, _, rfl, hb, l, _, rfl, hl, rfl⟩ := h
  obtain ⟨x, rfl, hx2⟩ := u64_of (k := 11) hx
  obtain ⟨b, rfl, _⟩ := str_of (k := 11) hb
  obtain ⟨l, rfl, _⟩ := int_of (k := 11) hl
  exact Ans_some.1 (EventlogSeals x b l hx2)
theorem EventlogOpens_pure (xs : List PV) (h : AllT (InT Try.prog depth) Try.f12.params.toList xs) : ∃ k, call T k 12 xs = some [.bool true] := by
  rw [Try.params12] at h
  simp only [AllT] at h
  obtain ⟨s, _, rfl, hs, b, _, rfl, hb, x, _, rfl, hx, l, _, rfl, hl, rfl⟩ := h
  obtain ⟨s, rfl, _⟩ := str_of (k := 11) hs
  obtain ⟨b, rfl⟩ := bool_of (k := 11) hb
  obtain ⟨x, rfl, hx2⟩ := u64_of (k := 11) hx
  obtain ⟨l, rfl, _⟩ := int_of (k := 11) hl
  exact Ans_some.1 (EventlogOpens s b x l hx2)
end Go.Proofs.Ytaldhebldjphbaa

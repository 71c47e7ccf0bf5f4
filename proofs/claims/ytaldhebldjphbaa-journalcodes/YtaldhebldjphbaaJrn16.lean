/-
  The law JournalCodes: what its functions compute, and that it answers true.
  Conditions: none.
-/
import Derived.Test.YtaldhebldjphbaaJrn15
import Derived.WalkKit
namespace Go.Proofs.Ytaldhebldjphbaa
open Go.Vm
open Go.ChangeShapes Go.WideShapes Go.ChangeAt Go.RowKit
set_option maxRecDepth 100000
theorem own : ownKnob Try.prog.godebug = none := by kernel_rfl
theorem laidOut : laidOutB Try.prog = true := by kernel_rfl
theorem mixed : Try.prog.follows .mixedOrders = true := by kernel_rfl

theorem int_of {x : PV} {k : Nat} (h : InT Try.prog (k + 1) 3 x) : ∃ n, x = .int .i64 n ∧ I64 n := by
  unfold InT at h; rw [Try.underlying3] at h
  obtain ⟨n, rfl, hw⟩ := h
  simp [Lit.wf, IntKind.min, IntKind.max, IntKind.signed, IntKind.bits] at hw
  exact ⟨n, rfl, by omega, by omega⟩
theorem str_of {x : PV} {k : Nat} (h : InT Try.prog (k + 1) 9 x) : ∃ s, x = .str s ∧ s.length ≤ reachBytes := by
  unfold InT at h; rw [Try.underlying9] at h; exact h
theorem bool_of {x : PV} {k : Nat} (h : InT Try.prog (k + 1) 4 x) : ∃ b, x = .bool b := by
  unfold InT at h; rw [Try.underlying4] at h; exact h
theorem man_of {x : PV} {k : Nat} (h : InT Try.prog (k + 1 + 1 + 1) 77 x) : ∃ o : Man, x = manP o ∧ ManOK { o with name := [] } := by
  unfold InT at h; rw [Try.underlying77] at h
  obtain ⟨xs, rfl, h⟩ := h
  simp only [List.map_cons, List.map_nil, AllT] at h
  obtain ⟨kk, _, rfl, hk, nm, _, rfl, hn, a, _, rfl, ha, b, _, rfl, hb, d, _, rfl, hd, c, _, rfl, hc, rfl⟩ := h
  obtain ⟨kk, rfl, hki⟩ := int_of hk
  obtain ⟨nm, rfl, _⟩ := str_of hn
  obtain ⟨a, rfl, hai⟩ := int_of ha
  obtain ⟨b, rfl, hbi⟩ := int_of hb
  unfold InT at hd; rw [Try.underlying73] at hd
  obtain ⟨xs, rfl, hd⟩ := hd
  simp only [List.map_cons, List.map_nil, AllT] at hd
  obtain ⟨r, _, rfl, hr, l, _, rfl, hl, cc, _, rfl, hcc, g, _, rfl, hg, rfl⟩ := hd
  obtain ⟨r, rfl, hri⟩ := int_of hr
  obtain ⟨l, rfl, hli⟩ := int_of hl
  obtain ⟨cc, rfl, hcci⟩ := int_of hcc
  obtain ⟨g, rfl, hgi⟩ := int_of hg
  unfold InT at hc; rw [Try.underlying75] at hc
  obtain ⟨xs, rfl, hc⟩ := hc
  simp only [List.map_cons, List.map_nil, AllT] at hc
  obtain ⟨m, _, rfl, hm, p, _, rfl, hp, u, _, rfl, hu, rfl⟩ := hc
  obtain ⟨m, rfl, hmi⟩ := int_of hm
  obtain ⟨p, rfl, hpi⟩ := int_of hp
  obtain ⟨u, rfl⟩ := bool_of hu
  refine ⟨⟨kk, nm, [a, b, r, l, cc, g, m, p], u⟩, rfl, hki, by simp, rfl, ?_⟩
  intro x hx
  simp at hx
  rcases hx with rfl | rfl | rfl | rfl | rfl | rfl | rfl | rfl <;> assumption
end Go.Proofs.Ytaldhebldjphbaa

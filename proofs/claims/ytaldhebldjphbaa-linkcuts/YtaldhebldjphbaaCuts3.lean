/-
  The law LinkCuts: what its functions compute, and that it answers true.
  Conditions: none.
-/
import Derived.Test.YtaldhebldjphbaaCuts2
namespace Go.Proofs.Ytaldhebldjphbaa
open Go.Vm
set_option maxRecDepth 100000
theorem few (nl : Bool) (xs : List PV) (cut : Bool) (hs : ∀ x ∈ xs, ∃ s, x = .str s) : ∃ b, Ans T 16 [lnk nl xs cut] = some [.bool b] ∧ (b = true → xs.length ≤ 30 ∧ ∀ x ∈ xs, strLen x ≤ 200) := by
  by_cases hall : ∀ j x, 0 ≤ j → j < 40 → xs[j]? = some x → strLen x ≤ 200
  · refine ⟨decide ((xs.length : Int) ≤ 30), ?_, fun h => ⟨by simp at h; omega, fun x hx => ?_⟩⟩
    · apply f16
      simp -implicitDefEqProofs only [chk_agg, run_mov, Option.bind_some]
      refine few_loop nl xs cut hs _ _ (min 40 xs.length) 0 (by omega) (fun _ => ?_) ?_
      · simp -implicitDefEqProofs [lB16x1, endK, Vm.get]
      · rintro ⟨j, x, _, k2, k3, k4⟩
        have := hall j x (by omega) k2 k3
        omega
    · obtain ⟨j, hj⟩ := List.getElem?_of_mem hx
      have := (List.getElem?_eq_some_iff.1 hj).1
      simp at h
      exact hall j x (by omega) (by omega) hj
  · refine ⟨false, ?_, fun h => by cases h⟩
    apply f16
    simp -implicitDefEqProofs only [chk_agg, run_mov, Option.bind_some]
    refine few_loop nl xs cut hs _ _ (min 40 xs.length) 0 (by omega) (fun h => absurd h hall) ?_
    intro _
    simp -implicitDefEqProofs [endK, Vm.get]
theorem awake : Ans T 17 [] = some [.bool true] := by
  apply f17
  have h1 : ∀ s, Ans T 19 [lnk true [] false, .str s] = some [lnk false [.str s] false, .bool true] := fun s => by rw [Send _ _ _ _ (by simp)]; simp
  have h2 : ∀ s, Ans T 20 [lnk false [.str s] false, .int .i64 0] = some [lnk false [] false, .str s, .bool true] := fun s => by
    have := DeliverYes false [.str s] 0 s (by simp) rfl
    simpa using this
  have h3 : ∀ s, Ans T 18 [lnk false [.str s] false, .bool true] = some [lnk true [] true] := fun s => by rw [SetCut _ _ _ _ (by simp)]; rfl
  have h4 : ∀ s, Ans T 19 [lnk true [] true, .str s] = some [lnk true [] true, .bool false] := fun s => by rw [Send _ _ _ _ (by simp)]; simp
  simp -implicitDefEqProofs [h1, h2, h3, h4]
theorem LinkCuts (nl : Bool) (xs : List PV) (cut : Bool) (s : List UInt8) (at_ : Int) (hs : ∀ x ∈ xs, ∃ s, x = .str s) : Ans T 3 [lnk nl xs cut, .str s, .int .i64 at_] = some [.bool true] := by
  apply f3
  obtain ⟨b, hb, hb2⟩ := few nl xs cut hs
  by_cases hg : b = true ∧ ¬ (200 : Int) < s.length
  · obtain ⟨rfl, hg⟩ := hg
    obtain ⟨hl, _⟩ := hb2 rfl
    have h1 : Ans T 18 [lnk nl xs cut, .bool true] = some [lnk true [] true] := by rw [SetCut _ _ _ _ (by omega)]; rfl
    have h2 : Ans T 19 [lnk true [] true, .str s] = some [lnk true [] true, .bool false] := by rw [Send _ _ _ _ (by simp)]; simp
    have h3 : Ans T 20 [lnk true [] true, .int .i64 at_] = some [lnk true [] true, .str [], .bool false] := by rw [DeliverNo _ _ _ _ (by simp) (.inl rfl)]; rfl
    have h4 : Ans T 18 [lnk true [] true, .bool false] = some [lnk true [] false] := by rw [SetCut _ _ _ _ (by simp)]; rfl
    have h5 : Ans T 19 [lnk true [] false, .str s] = some [lnk false [.str s] false, .bool true] := by rw [Send _ _ _ _ (by simp)]; simp
    have h6 : Ans T 20 [lnk false [.str s] false, .int .i64 0] = some [lnk false [] false, .str s, .bool true] := by
      have := DeliverYes false [.str s] 0 s (by simp) rfl
      simpa using this
    simp -implicitDefEqProofs [hb, hg, h1, h2, h3, h4, h5, h6, awake]
  · cases b with
    | false => simp -implicitDefEqProofs [hb, awake]
    | true =>
      have hg : (200 : Int) < s.length := by simpa using hg
      simp -implicitDefEqProofs [hb, hg, awake]
end Go.Proofs.Ytaldhebldjphbaa

/-
  The law LinkCorrupts: what its functions compute, and that it answers true.
  Conditions: none.
-/
import Derived.Test.YtaldhebldjphbaaCor1
import Derived.Test.YtaldhebldjphbaaVmF
namespace Go.Proofs.Ytaldhebldjphbaa
open Go.Vm
set_option maxRecDepth 100000
abbrev lnk (nl : Bool) (xs : List PV) (cut : Bool) : PV := .agg [.slice nl xs, .bool cut]

theorem copyOf (nl : Bool) (xs : List PV) (cut : Bool) (h : xs.length ≤ 1000) : Ans T 59 [lnk nl xs cut] = some [lnk xs.isEmpty xs cut] := by
  apply f59
  have h1 : xs.length * 16 ≤ 140737488355328 := by omega
  simp [h1]
theorem room (nl : Bool) (xs : List PV) (cut : Bool) : Ans T 60 [lnk nl xs cut] = some [.bool (!cut && decide ((xs.length : Int) < 24))] := by
  apply f60
  cases cut <;> simp
theorem has (nl : Bool) (xs : List PV) (cut : Bool) (at_ : Int) : Ans T 61 [lnk nl xs cut, .int .i64 at_] = some [.bool (decide (0 ≤ at_) && decide (at_ < (xs.length : Int)))] := by
  apply f61
  by_cases h : 0 ≤ at_ <;> simp [h]
theorem Send (nl : Bool) (xs : List PV) (cut : Bool) (s : List UInt8) (h : xs.length ≤ 1000) : Ans T 19 [lnk nl xs cut, .str s] = some (if cut = false ∧ (xs.length : Int) < 24 then [lnk false (xs ++ [.str s]) cut, .bool true] else [lnk xs.isEmpty xs cut, .bool false]) := by
  apply f19
  have h1 : (xs.length + 1) * 16 ≤ 140737488355328 := by omega
  by_cases hc : cut = false ∧ (xs.length : Int) < 24
  · obtain ⟨rfl, hc⟩ := hc
    simp [copyOf nl xs false h, room, hc, h1]
  · simp [copyOf nl xs cut h, room, hc, h1]
theorem remove (nl : Bool) (xs : List PV) (cut : Bool) (i : Nat) (h : xs.length ≤ 1000) (hi : i < xs.length) : Ans T 62 [lnk nl xs cut, .int .i64 i] = some [lnk (nl && (xs.drop (i + 1)).isEmpty) (xs.take i ++ xs.drop (i + 1)) cut] := by
  apply f62
  have h2 : IntKind.i64.wrap ((i : Int) + 1) = (i : Int) + 1 := wrap_i64 (by omega) (by omega)
  have h3 : (0 : Int) ≤ (i : Int) ∧ (i : Int) ≤ (xs.length : Int) := by omega
  have h4 : (0 : Int) ≤ (i : Int) + 1 ∧ (i : Int) + 1 ≤ (xs.length : Int) := by omega
  have h5 : ((i : Int) + 1).toNat = i + 1 := by omega
  have h1 : (min i xs.length + (xs.length - (i + 1))) * 16 ≤ 140737488355328 := by omega
  simp [h2, h3, h4, h5, h1]
theorem DeliverNo (nl : Bool) (xs : List PV) (cut : Bool) (at_ : Int) (h : xs.length ≤ 1000) (hc : cut = true ∨ ¬(0 ≤ at_ ∧ at_ < (xs.length : Int))) : Ans T 20 [lnk nl xs cut, .int .i64 at_] = some [lnk xs.isEmpty xs cut, .str [], .bool false] := by
  apply f20
  cases cut with
  | true => simp [copyOf nl xs true h]
  | false =>
    have hc : ¬(0 ≤ at_ ∧ at_ < (xs.length : Int)) := by simpa using hc
    have h6 : (decide (0 ≤ at_) && decide (at_ < (xs.length : Int))) = false := by simpa using hc
    simp [copyOf nl xs false h, has, h6]
theorem DeliverYes (nl : Bool) (xs : List PV) (i : Nat) (s : List UInt8) (h : xs.length ≤ 1000) (hi : xs[i]? = some (.str s)) : Ans T 20 [lnk nl xs false, .int .i64 i] = some [lnk (xs.isEmpty && (xs.drop (i + 1)).isEmpty) (xs.take i ++ xs.drop (i + 1)) false, .str s, .bool true] := by
  apply f20
  have hl : i < xs.length := (List.getElem?_eq_some_iff.1 hi).1
  have h6 : (decide ((0 : Int) ≤ (i : Int)) && decide ((i : Int) < (xs.length : Int))) = true := by simp; omega
  have h7 : (0 : Int) ≤ (i : Int) ∧ (i : Int) < (xs.length : Int) := by omega
  simp [copyOf nl xs false h, has, h6, h7, hi, remove _ xs false i h hl]
theorem SetCut (nl : Bool) (xs : List PV) (cut c : Bool) (h : xs.length ≤ 1000) : Ans T 18 [lnk nl xs cut, .bool c] = some [if c then lnk true [] true else lnk xs.isEmpty xs false] := by
  apply f18
  cases c <;> simp [copyOf nl xs cut h]
def strLen : PV → Nat
  | .str s => s.length
  | _ => 0
theorem few_loop (nl : Bool) (xs : List PV) (cut : Bool) (hs : ∀ x ∈ xs, ∃ s, x = .str s) (K : RK) (a : List PV) : ∀ m i : Nat, i + m = min 40 xs.length →
    ((∀ j x, i ≤ j → j < 40 → xs[j]? = some x → strLen x ≤ 200) → K (.exit 0, [.undef, lnk nl xs cut] ++ List.replicate 24 .undef) = some a) → ((∃ j x, i ≤ j ∧ j < 40 ∧ xs[j]? = some x ∧ 200 < strLen x) → K (.ret, [.undef, .undef, .bool false] ++ List.replicate 23 .undef) = some a) → WL16x2 (lnk nl xs cut) (.int .i64 i) K = some a
  | 0, i, hi, h1, h2 => by
    have h3 : (decide ((i : Int) < (xs.length : Int)) && decide ((i : Int) < 40)) = false := by simp; omega
    apply oL16x2
    have h1 := h1 fun j x hj hj' hx => by have := (List.getElem?_eq_some_iff.1 hx).1; omega
    by_cases h4 : (i : Int) < (xs.length : Int)
    · have h5 : ¬ (i : Int) < 40 := by omega
      simp [h4, h5]
      simpa using h1
    · simp [h4]
      simpa using h1
  | m + 1, i, hi, h1, h2 => by
    have h4 : (i : Int) < (xs.length : Int) := by omega
    have h5 : (i : Int) < 40 := by omega
    have h0 : (0 : Int) ≤ (i : Int) := by omega
    obtain ⟨s, hx⟩ := hs xs[i] (List.getElem_mem _)
    have hx' : xs[i]? = some (.str s) := by rw [← hx]; simp
    have h6 : IntKind.i64.wrap ((i : Int) + 1) = ((i + 1 : Nat) : Int) := wrap_i64 (by omega) (by omega)
    apply oL16x2
    by_cases h7 : (200 : Int) < (s.length : Int)
    · have h2 := h2 ⟨i, _, Nat.le_refl _, by omega, hx', by simp [strLen]; omega⟩
      simp [h4, h5, h0, hx', h7]
      simpa using h2
    · have ih := few_loop nl xs cut hs K a m (i + 1) (by omega) (fun hj => h1 fun j x hj1 hj2 hxj => by
        by_cases e : j = i
        · subst e; rw [hx'] at hxj; cases hxj; simp [strLen]; omega
        · exact hj j x (by omega) hj2 hxj) (fun ⟨j, x, k1, k2, k3, k4⟩ => h2 ⟨j, x, by omega, k2, k3, k4⟩)
      simp [h4, h5, h0, hx', h7, h6]
      exact ih
theorem few (nl : Bool) (xs : List PV) (cut : Bool) (hs : ∀ x ∈ xs, ∃ s, x = .str s) : ∃ b, Ans T 16 [lnk nl xs cut] = some [.bool b] ∧ (b = true → xs.length ≤ 30 ∧ ∀ x ∈ xs, strLen x ≤ 200) := by
  by_cases hall : ∀ j x, 0 ≤ j → j < 40 → xs[j]? = some x → strLen x ≤ 200
  · refine ⟨decide ((xs.length : Int) ≤ 30), ?_, fun h => ⟨by simp at h; omega, fun x hx => ?_⟩⟩
    · apply f16
      simp -implicitDefEqProofs only [chk_agg, run_mov, Option.bind_some]
      refine few_loop nl xs cut hs _ _ (min 40 xs.length) 0 (by omega) (fun _ => ?_) ?_
      · simp -implicitDefEqProofs [lB16x1, endK, Vm.get]
      · rintro ⟨j, x, _, k2, k3, k4⟩
        have := hall j x (by omega) k2 k3
        omega
    · obtain ⟨j, hj⟩ := List.getElem?_of_mem hx
      have := (List.getElem?_eq_some_iff.1 hj).1
      simp at h
      exact hall j x (by omega) (by omega) hj
  · refine ⟨false, ?_, fun h => by cases h⟩
    apply f16
    simp -implicitDefEqProofs only [chk_agg, run_mov, Option.bind_some]
    refine few_loop nl xs cut hs _ _ (min 40 xs.length) 0 (by omega) (fun h => absurd h hall) ?_
    intro _
    simp -implicitDefEqProofs [endK, Vm.get]
theorem awake : Ans T 17 [] = some [.bool true] := by
  apply f17
  have h1 : ∀ s, Ans T 19 [lnk true [] false, .str s] = some [lnk false [.str s] false, .bool true] := fun s => by rw [Send _ _ _ _ (by simp)]; simp
  have h2 : ∀ s, Ans T 20 [lnk false [.str s] false, .int .i64 0] = some [lnk false [] false, .str s, .bool true] := fun s => by
    have := DeliverYes false [.str s] 0 s (by simp) rfl
    simpa using this
  have h3 : ∀ s, Ans T 18 [lnk false [.str s] false, .bool true] = some [lnk true [] true] := fun s => by rw [SetCut _ _ _ _ (by simp)]; rfl
  have h4 : ∀ s, Ans T 19 [lnk true [] true, .str s] = some [lnk true [] true, .bool false] := fun s => by rw [Send _ _ _ _ (by simp)]; simp
  simp -implicitDefEqProofs [h1, h2, h3, h4]
end Go.Proofs.Ytaldhebldjphbaa

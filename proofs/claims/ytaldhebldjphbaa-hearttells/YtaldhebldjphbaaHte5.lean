/-
  The law HeartTells: what its functions compute, and that it answers true.
  Conditions: none.
-/
import Derived.Test.YtaldhebldjphbaaHte4
namespace Go.Proofs.Ytaldhebldjphbaa
open Go.Vm
set_option maxRecDepth 100000
set_option linter.unusedSimpArgs false

abbrev det (l s n : Int) : PV := .agg [.int .i64 l, .int .i64 s, .int .u64 n]
def vdet (l s : Int) : Bool := decide (1 ≤ l ∧ l ≤ 20 ∧ 0 ≤ s ∧ s ≤ l)
theorem Valid (l s n : Int) : Ans T 35 [det l s n] = some [.bool (vdet l s)] := by
  unfold vdet
  apply f35
  by_cases h1 : 1 ≤ l
  · by_cases h2 : l ≤ 20
    · by_cases h3 : 0 ≤ s
      · simp -implicitDefEqProofs [h1, h2, h3]
      · simp -implicitDefEqProofs [h1, h2, h3]
    · simp -implicitDefEqProofs [h1, h2]
  · simp -implicitDefEqProofs [h1]
theorem NewYes (l : Int) (h : 1 ≤ l ∧ l ≤ 20) : Ans T 29 [.int .i64 l] = some [det l 0 0, .bool true] := by
  have hv : vdet l 0 = true := by simp [vdet]; omega
  apply f29
  simp -implicitDefEqProofs [Valid, hv]
theorem TickUp (l s n : Int) (h : 1 ≤ l ∧ l ≤ 20) (h0 : 0 ≤ s) (hs : s < l) : Ans T 37 [det l s n] = some [det l (s + 1) n] := by
  have hv : vdet l s = true := by simp [vdet]; omega
  have hw : IntKind.i64.wrap (s + 1) = s + 1 := wrap_i64 (by omega) (by omega)
  apply f37
  simp -implicitDefEqProofs [Valid, hv, hs, hw]
theorem TickSame (l s n : Int) (h : ¬ s < l ∨ vdet l s = false) : Ans T 37 [det l s n] = some [det l s n] := by
  apply f37
  by_cases hv : vdet l s = true
  · have h : ¬ s < l := by rcases h with h | h; exact h; rw [hv] at h; cases h
    simp -implicitDefEqProofs [Valid, hv, h]
  · have hv : vdet l s = false := by simpa using hv
    simp -implicitDefEqProofs [Valid, hv]
theorem BeatYes (l s n m : Int) (hv : vdet l s = true) (h : ¬ m ≤ n) : Ans T 31 [det l s n, .int .u64 m] = some [det l 0 m, .bool true] := by
  apply f31
  simp -implicitDefEqProofs [Valid, hv, h]
theorem BeatNo (l s n m : Int) (h : vdet l s = false ∨ m ≤ n) : Ans T 31 [det l s n, .int .u64 m] = some [det l s n, .bool false] := by
  apply f31
  by_cases hv : vdet l s = true
  · have h : m ≤ n := by rcases h with h | h; rw [hv] at h; cases h; exact h
    simp -implicitDefEqProofs [Valid, hv, h]
  · have hv : vdet l s = false := by simpa using hv
    simp -implicitDefEqProofs [Valid, hv]
theorem Suspects (l s n : Int) : Ans T 39 [det l s n] = some [.bool (vdet l s && decide (s = l))] := by
  apply f39
  cases hv : vdet l s <;> simp -implicitDefEqProofs [Valid, hv]
theorem awake : Ans T 28 [] = some [.bool true] := by
  have h1 := NewYes 2 (by omega)
  have h2 := TickUp 2 0 0 (by omega) (by omega) (by omega)
  have h3 := TickUp 2 1 0 (by omega) (by omega) (by omega)
  have h4 := Suspects 2 2 0
  have h5 := BeatYes 2 2 0 1 (by decide) (by omega)
  have h6 := Suspects 2 0 1
  have h7 := Packet 7 300 (by omega) (by omega)
  have h8 := ParseYes 7 300 (by omega) (by omega)
  have v1 : vdet 2 2 = true := by decide
  have v2 : vdet 2 0 = true := by decide
  rw [v1] at h4
  rw [v2] at h6
  simp only [Int.zero_add, Int.reduceAdd, Int.cast_ofNat_Int] at h2 h3 h7 h8
  generalize sealS 7 (72 :: uvar 300) = p at *
  apply f28
  simp -implicitDefEqProofs [h1, h2, h3, h4, h5, h6, h7, h8]
end Go.Proofs.Ytaldhebldjphbaa

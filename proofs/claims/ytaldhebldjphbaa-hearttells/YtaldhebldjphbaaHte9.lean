/-
  The law HeartTells: what its functions compute, and that it answers true.
  Conditions: none.
-/
import Derived.Test.YtaldhebldjphbaaHte8
namespace Go.Proofs.Ytaldhebldjphbaa
open Go.Vm
set_option maxRecDepth 100000
set_option linter.unusedSimpArgs false

theorem rValid (l s n : Int) : Ans T 36 [det l s n] = some [.bool (vdet l s)] := by
  unfold vdet
  apply f36
  by_cases h1 : 1 ≤ l
  · by_cases h2 : l ≤ 20
    · by_cases h3 : 0 ≤ s
      · simp -implicitDefEqProofs [h1, h2, h3]
      · simp -implicitDefEqProofs [h1, h2, h3]
    · simp -implicitDefEqProofs [h1, h2]
  · simp -implicitDefEqProofs [h1]
theorem NewBoth (l : Int) : ∃ d b, Ans T 29 [.int .i64 l] = some [d, .bool b] ∧ Ans T 30 [.int .i64 l] = some [d, .bool b] ∧ ∃ x y z, d = det x y z := by
  cases hv : vdet l 0 with
  | true =>
    refine ⟨det l 0 0, true, ?_, ?_, _, _, _, rfl⟩
    · apply f29; simp -implicitDefEqProofs [Valid, hv]
    · apply f30; simp -implicitDefEqProofs [rValid, hv]
  | false =>
    refine ⟨det 0 0 0, false, ?_, ?_, _, _, _, rfl⟩
    · apply f29; simp -implicitDefEqProofs [Valid, hv]
    · apply f30; simp -implicitDefEqProofs [rValid, hv]
theorem TickBoth (l s n : Int) : ∃ t, Ans T 37 [det l s n] = some [det l t n] ∧ Ans T 38 [det l s n] = some [det l t n] := by
  cases hv : vdet l s with
  | true =>
    have h : (1 ≤ l ∧ l ≤ 20) ∧ 0 ≤ s ∧ s ≤ l := by simpa [vdet, and_assoc] using hv
    have hw : IntKind.i64.wrap (s + 1) = s + 1 := wrap_i64 (by omega) (by omega)
    by_cases hs : s < l
    · refine ⟨s + 1, TickUp l s n h.1 (by omega) hs, ?_⟩
      have hm : (if l < s + 1 then l else s + 1) = s + 1 := by split <;> omega
      apply f38
      simp -implicitDefEqProofs [rValid, hv, hw, hm]
    · refine ⟨s, TickSame l s n (.inl hs), ?_⟩
      have hm : (if l < s + 1 then l else s + 1) = s := by split <;> omega
      apply f38
      simp -implicitDefEqProofs [rValid, hv, hw, hm]
  | false =>
    refine ⟨s, TickSame l s n (.inr hv), ?_⟩
    apply f38
    simp -implicitDefEqProofs [rValid, hv]
theorem BeatBoth (l s n m : Int) : ∃ t k b, Ans T 31 [det l s n, .int .u64 m] = some [det l t k, .bool b] ∧ Ans T 32 [det l s n, .int .u64 m] = some [det l t k, .bool b] := by
  cases hv : vdet l s with
  | true =>
    by_cases h : m ≤ n
    · exact ⟨s, n, false, BeatNo l s n m (.inr h), by apply f32; simp -implicitDefEqProofs [rValid, hv, h]⟩
    · exact ⟨0, m, true, BeatYes l s n m hv h, by apply f32; simp -implicitDefEqProofs [rValid, hv, h]⟩
  | false => exact ⟨s, n, false, BeatNo l s n m (.inl hv), by apply f32; simp -implicitDefEqProofs [rValid, hv]⟩
theorem rSuspects (l s n : Int) : Ans T 40 [det l s n] = some [.bool (vdet l s && decide (s = l))] := by
  apply f40
  cases hv : vdet l s <;> simp -implicitDefEqProofs [rValid, hv]

theorem HeartTells (l s n lim : Int) (x m : Nat) (p : List UInt8) (hx : x < 18446744073709551616) (hm : m < 18446744073709551616) : Ans T 6 [det l s n, .int .i64 lim, .int .u64 x, .int .u64 m, .str p] = some [.bool true] := by
  apply f6
  by_cases hp : (200 : Int) < (p.length : Int)
  · simp -implicitDefEqProofs [hp, awake]
  · obtain ⟨d, b, h1, h2, dx, dy, dz, rfl⟩ := NewBoth lim
    obtain ⟨t, k, c, h3, h4⟩ := BeatBoth l s n x
    obtain ⟨t2, h5, h6⟩ := TickBoth l s n
    have h7 := Parse p (by omega)
    have h8 := rParse p (by omega)
    have h9 := Packet x m hx hm
    have h10 := rPacket x m hx hm
    generalize parseS p = v at *
    obtain ⟨q1, q2, q3⟩ := v
    have hS := Suspects l s n
    have hR := rSuspects l s n
    generalize (vdet l s && decide (s = l)) = sus at *
    have hV := Valid l s n
    have hW := rValid l s n
    generalize vdet l s = val at *
    generalize sealS x (72 :: uvar m) = pk at *
    simp only [] at *
    simp -implicitDefEqProofs [hp, h1, h2, h3, h4, h5, h6, h7, h8, h9, h10, hS, hR, hV, hW, awake, eqdet]
end Go.Proofs.Ytaldhebldjphbaa

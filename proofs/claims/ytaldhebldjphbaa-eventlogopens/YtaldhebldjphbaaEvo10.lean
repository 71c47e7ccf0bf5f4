/-
  The law EventlogOpens: what its functions compute, and that it answers true.
  Conditions: none.
-/
import Derived.Test.YtaldhebldjphbaaEvo9
namespace Go.Proofs.Ytaldhebldjphbaa
open Go.Vm
set_option maxRecDepth 100000
set_option linter.unusedSimpArgs false
theorem EventlogOpens (s : List UInt8) (sealed : Bool) (x : Nat) (cut : Int) (hx : x < 18446744073709551616) : Ans T 12 [.str s, .bool sealed, .int .u64 x, .int .i64 cut] = some [.bool true] := by
  by_cases hb : (300 : Int) < (s.length : Int)
  · apply f12
    simp -implicitDefEqProofs [hb, awake19]
  cases sealed with
  | false =>
    have h1 := Open s (by omega)
    have h2 := rOpen s (by omega)
    generalize openS s = v at *
    obtain ⟨y, b2, er⟩ := v
    simp only [] at h1 h2
    apply f12
    simp -implicitDefEqProofs [hb, h1, h2, awake19]
  | true =>
    have h0 := rSeal x s hx (by omega)
    have g3 := uvar_len 10 x (by omega) (by omega)
    have g4 := uvar_len 10 s.length (by omega) (by omega)
    have hl : (sealS x s).length ≤ 1000 := by simp [sealS]; omega
    generalize sealS x s = t at *
    obtain ⟨k, hk1, hk2, _⟩ := RoundBig cut ((t.length : Int) + 1) (by omega) (by omega)
    have e1 : IntKind.i64.wrap ((t.length : Int) + 1) = (t.length : Int) + 1 := wrap_i64 (by omega) (by omega)
    have hk3 : k ≤ t.length := by omega
    have hk4 : (k : Int) ≤ (t.length : Int) := by omega
    have h1 := Open (t.take k ++ s) (by simp; omega)
    have h2 := rOpen (t.take k ++ s) (by simp; omega)
    have hadd : min k t.length + s.length ≤ 9223372036854775807 := by omega
    have hadd2 : k + s.length ≤ 9223372036854775807 := by omega
    generalize openS (t.take k ++ s) = v at *
    obtain ⟨y, b2, er⟩ := v
    simp only [] at h1 h2
    apply f12
    simp -implicitDefEqProofs [hb, h0, hk1, e1, hk3, hk4, h1, h2, hadd, hadd2, awake19]
end Go.Proofs.Ytaldhebldjphbaa

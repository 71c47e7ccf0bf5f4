/-
  The law EventlogOpens: what its functions compute, and that it answers true.
  Conditions: none.
-/
import Derived.Test.YtaldhebldjphbaaEvo8
namespace Go.Proofs.Ytaldhebldjphbaa
open Go.Vm
set_option maxRecDepth 100000
set_option linter.unusedSimpArgs false
theorem RoundBig (n k : Int) (hk : 0 < k) (hk2 : k ≤ 1000000000) : ∃ r : Nat, Ans T 21 [.int .i64 n, .int .i64 k] = some [.int .i64 r] ∧ (r : Int) < k ∧ (r : Int) = n % k := by
  have h0 : ¬ k = 0 := by omega
  have h1 := Int.emod_nonneg n h0
  have h2 := Int.emod_lt_of_pos n hk
  have h3 : n.tmod k = n % k - (if 0 ≤ n ∨ k ∣ n then 0 else k.natAbs : Nat) := Int.tmod_eq_emod
  refine ⟨(n % k).toNat, ?_, by omega, by omega⟩
  have h4 : ((n % k).toNat : Int) = n % k := by omega
  have hk3 : (k.natAbs : Int) = k := by omega
  apply f21
  by_cases hd : 0 ≤ n ∨ k ∣ n
  · rw [if_pos hd] at h3
    have h5 : n.tmod k = n % k := by simpa using h3
    have hn : ¬ n % k < 0 := by omega
    simp -implicitDefEqProofs [h0, h5, hn, h4]
  · rw [if_neg hd, hk3] at h3
    have hn : n % k - k < 0 := by omega
    have h5 : IntKind.i64.wrap (n % k - k + k) = n % k := by
      rw [show n % k - k + k = n % k by omega]; exact wrap_i64 (by omega) (by omega)
    simp -implicitDefEqProofs only [chk_int, run_mov, Option.bind_some, run_rem, h0, if_false, h3, run_lss, hn, decide_true, chk_bool, isB_bool, if_true, run_add, h5, h4, allDef_int, allDef_nil, Option.map_some]



theorem EventlogSeals (x : Nat) (b : List UInt8) (bit : Int) (hx : x < 18446744073709551616) : Ans T 11 [.int .u64 x, .str b, .int .i64 bit] = some [.bool true] := by
  by_cases hb : (300 : Int) < (b.length : Int)
  · apply f11
    simp -implicitDefEqProofs [hb, awake19]
  have h1 := Seal x b hx (by omega)
  have h2 := rSeal x b hx (by omega)
  have g3 := uvar_len 10 x (by omega) (by omega)
  have g4 := uvar_len 10 b.length (by omega) (by omega)
  have hl : (sealS x b).length ≤ 1000 := by simp [sealS]; omega
  have hl8 : 8 ≤ (sealS x b).length := by simp [sealS]; omega
  have ho := Open (sealS x b) (by omega)
  rw [open_seal x b hx (by omega)] at ho
  simp only [Int.cast_ofNat_Int] at ho
  have hflip := open_flip x b
  generalize sealS x b = p at *
  obtain ⟨k, hk1, hk2, _⟩ := RoundBig bit (8 * (p.length : Int)) (by omega) (by omega)
  have hk8 : k / 8 < p.length := by omega
  have h3 := Open (Vm.flip p k) (by rw [flip_len]; omega)
  have hne := hflip k hk8
  have e1 : IntKind.i64.wrap (8 * (p.length : Int)) = 8 * (p.length : Int) := wrap_i64 (by omega) (by omega)
  have e5 : IntKind.i64.wrap ((k : Int) / 8) = ((k / 8 : Nat) : Int) := by rw [wrap_i64 (by omega) (by omega)]; omega
  have e6 : (k : Int).tmod 8 = ((k % 8 : Nat) : Int) := by
    rw [Int.tmod_eq_emod_of_nonneg (by omega)]; omega
  have e7 : IntKind.u64.wrap ((k % 8 : Nat) : Int) = ((k % 8 : Nat) : Int) := wrap_u64_id (by omega) (by omega)
  have e8 : IntKind.u8.wrap (2 ^ (min (k % 8) IntKind.u8.bits)) = ((bitU k).toNat : Int) := by
    rw [bitU_nat]
    have : min (k % 8) IntKind.u8.bits = k % 8 := by have := Nat.mod_lt k (show 8 > 0 by omega); simp [IntKind.bits]; omega
    rw [this]
    have h9 : 2 ^ (k % 8) < 256 := Nat.lt_of_lt_of_le (Nat.pow_lt_pow_right (by omega) (Nat.mod_lt k (by omega))) (by decide)
    rw [show ((2 : Int) ^ (k % 8)) = ((2 ^ (k % 8) : Nat) : Int) by simp]
    exact wrap_u8_id (Int.natCast_nonneg _) (Int.ofNat_lt.2 h9)
  have e9 : (bytesPV p)[k / 8]? = some (.int .u8 (p[k / 8].toNat : Int)) := by rw [bytesPV_get, List.getElem?_eq_getElem hk8]; rfl
  have e10 : (bytesPV p).set (k / 8) (.int .u8 ((p[k / 8] ^^^ bitU k).toNat : Int)) = bytesPV (Vm.flip p k) := by
    rw [bytesPV_set]; unfold Vm.flip; rw [List.getElem?_eq_getElem hk8]; rfl
  have e11 : ((k / 8 : Nat) : Int) < (p.length : Int) := by omega
  have e13 : ¬ ((k % 8 : Nat) : Int) < 0 := by omega
  rw [UInt8.toNat_xor] at e10
  generalize p[k / 8] = bb at *
  generalize Vm.flip p k = p2 at *
  generalize openS p2 = v at *
  obtain ⟨y, b2, er⟩ := v
  simp only [] at h3 hne
  have hne2 : ¬ (er : Int) = 0 := by omega
  generalize k / 8 = j at *
  generalize k % 8 = r at *
  apply f11
  simp -implicitDefEqProofs [hb, h1, h2, ho, hk1, h3, hne, hne2, e1, e5, e6, e7, e8, e9, e10, e11, e13, xor8, awake19]
end Go.Proofs.Ytaldhebldjphbaa

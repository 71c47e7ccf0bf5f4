/-
  The law HeartPackets: what its functions compute, and that it answers true.
  Conditions: none.
-/
import Derived.Test.YtaldhebldjphbaaHpa7
namespace Go.Proofs.Ytaldhebldjphbaa
open Go.Vm
set_option maxRecDepth 100000
set_option linter.unusedSimpArgs false
theorem HeartPackets (x m : Nat) (bit : Int) (hx : x < 18446744073709551616) (hm : m < 18446744073709551616) : Ans T 9 [.int .u64 x, .int .u64 m, .int .i64 bit] = some [.bool true] := by
  have h1 := Packet x m hx hm
  have h2 := ParseYes x m hx hm
  have g2 := uvar_len 10 m (by omega) (by omega)
  have g3 := uvar_len 10 x (by omega) (by omega)
  have g4 := uvar_len 10 (72 :: uvar m).length (by simp; omega) (by omega)
  have hl : (sealS x (72 :: uvar m)).length ≤ 1000 := by simp [sealS] at g4 ⊢; omega
  have hl8 : 8 ≤ (sealS x (72 :: uvar m)).length := by simp [sealS]; omega
  have hflip := open_flip x (72 :: uvar m)
  generalize sealS x (72 :: uvar m) = p at *
  obtain ⟨k, hk1, hk2, _⟩ := RoundBig bit (8 * (p.length : Int)) (by omega) (by omega)
  have hk8 : k / 8 < p.length := by omega
  have h3 := ParseNo (Vm.flip p k) (by rw [flip_len]; omega) (hflip k hk8)
  have e1 : IntKind.i64.wrap (8 * (p.length : Int)) = 8 * (p.length : Int) := wrap_i64 (by omega) (by omega)
  have e5 : IntKind.i64.wrap ((k : Int) / 8) = ((k / 8 : Nat) : Int) := by rw [wrap_i64 (by omega) (by omega)]; omega
  have e6 : (k : Int).tmod 8 = ((k % 8 : Nat) : Int) := by
    rw [Int.tmod_eq_emod_of_nonneg (by omega)]; omega
  have e7 : IntKind.u64.wrap ((k % 8 : Nat) : Int) = ((k % 8 : Nat) : Int) := wrap_u64_id (by omega) (by omega)
  have e8 : IntKind.u8.wrap (2 ^ (min (k % 8) IntKind.u8.bits)) = ((bitU k).toNat : Int) := by
    rw [bitU_nat]
    have : min (k % 8) IntKind.u8.bits = k % 8 := by have := Nat.mod_lt k (show 8 > 0 by omega); simp [IntKind.bits]; omega
    rw [this]
    have h9 : 2 ^ (k % 8) < 256 := Nat.lt_of_lt_of_le (Nat.pow_lt_pow_right (by omega) (Nat.mod_lt k (by omega))) (by decide)
    rw [show ((2 : Int) ^ (k % 8)) = ((2 ^ (k % 8) : Nat) : Int) by simp]
    exact wrap_u8_id (Int.natCast_nonneg _) (Int.ofNat_lt.2 h9)
  have e9 : (bytesPV p)[k / 8]? = some (.int .u8 (p[k / 8].toNat : Int)) := by rw [bytesPV_get, List.getElem?_eq_getElem hk8]; rfl
  have e10 : (bytesPV p).set (k / 8) (.int .u8 ((p[k / 8] ^^^ bitU k).toNat : Int)) = bytesPV (Vm.flip p k) := by
    rw [bytesPV_set]; unfold Vm.flip; rw [List.getElem?_eq_getElem hk8]; rfl
  have e11 : ((k / 8 : Nat) : Int) < (p.length : Int) := by omega
  have e13 : ¬ ((k % 8 : Nat) : Int) < 0 := by omega
  have hp0 : ¬ (p.length : Int) = 0 := by omega
  have hpn : ¬ p = [] := fun e => by subst e; simp at hl8
  rw [UInt8.toNat_xor] at e10
  generalize p[k / 8] = bb at *
  generalize Vm.flip p k = p2 at *
  generalize k / 8 = j at *
  generalize k % 8 = r at *
  apply f9
  simp -implicitDefEqProofs [h1, h2, hk1, h3, e1, e5, e6, e7, e8, e9, e10, e11, e13, hp0, hpn, xor8, awake]
end Go.Proofs.Ytaldhebldjphbaa

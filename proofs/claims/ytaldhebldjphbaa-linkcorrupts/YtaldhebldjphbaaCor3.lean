/-
  The law LinkCorrupts: what its functions compute, and that it answers true.
  Conditions: none.
-/
import Derived.Test.YtaldhebldjphbaaCor2
namespace Go.Proofs.Ytaldhebldjphbaa
open Go.Vm
set_option maxRecDepth 100000
theorem Round (n k : Int) (hk : 0 < k) (hk2 : k ≤ 1000) : ∃ r : Nat, Ans T 21 [.int .i64 n, .int .i64 k] = some [.int .i64 r] ∧ (r : Int) < k ∧ (r : Int) = n % k := by
  have h0 : ¬ k = 0 := by omega
  have h1 := Int.emod_nonneg n h0
  have h2 := Int.emod_lt_of_pos n hk
  have h3 : n.tmod k = n % k - (if 0 ≤ n ∨ k ∣ n then 0 else k.natAbs : Nat) := Int.tmod_eq_emod
  refine ⟨(n % k).toNat, ?_, by omega, by omega⟩
  have h4 : ((n % k).toNat : Int) = n % k := by omega
  have hk3 : (k.natAbs : Int) = k := by omega
  apply f21
  by_cases hd : 0 ≤ n ∨ k ∣ n
  · rw [if_pos hd] at h3
    have h5 : n.tmod k = n % k := by simpa using h3
    have hn : ¬ n % k < 0 := by omega
    simp -implicitDefEqProofs [h0, h5, hn, h4]
  · rw [if_neg hd, hk3] at h3
    have hn : n % k - k < 0 := by omega
    have h5 : IntKind.i64.wrap (n % k - k + k) = n % k := by
      rw [show n % k - k + k = n % k by omega]; exact wrap_i64 (by omega) (by omega)
    simp -implicitDefEqProofs only [chk_int, run_mov, Option.bind_some, run_rem, h0, if_false, h3, run_lss, hn, decide_true, chk_bool, isB_bool, if_true, run_add, h5, h4, allDef_int, allDef_nil, Option.map_some]

theorem same_loop (n1 n2 : Bool) (xs : List PV) (c1 c2 : Bool) (hs : ∀ x ∈ xs, ∃ s, x = .str s) (hl : xs.length ≤ 1000) (K : RK) (a : List PV) : ∀ m i : Nat, i + m = xs.length →
    K (.exit 0, List.replicate 38 .undef) = some a → WL23x2 (lnk n1 xs c1) (lnk n2 xs c2) (.int .i64 i) K = some a
  | 0, i, hi, h1 => by
    have h4 : ¬ (i : Int) < (xs.length : Int) := by omega
    apply oL23x2
    simp -implicitDefEqProofs [h4]
    simpa using h1
  | m + 1, i, hi, h1 => by
    have h4 : (i : Int) < (xs.length : Int) := by omega
    have h0 : (0 : Int) ≤ (i : Int) := by omega
    obtain ⟨s, hx⟩ := hs xs[i] (List.getElem_mem _)
    have hx' : xs[i]? = some (.str s) := by rw [← hx]; simp
    have h6 : IntKind.i64.wrap ((i : Int) + 1) = ((i + 1 : Nat) : Int) := wrap_i64 (by omega) (by omega)
    apply oL23x2
    simp -implicitDefEqProofs [h4, h0, hx', h6]
    exact same_loop n1 n2 xs c1 c2 hs hl K a m (i + 1) (by omega) h1

theorem SameLink (n1 n2 : Bool) (xs : List PV) (c : Bool) (hs : ∀ x ∈ xs, ∃ s, x = .str s) (hl : xs.length ≤ 1000) : Ans T 23 [lnk n1 xs c, lnk n2 xs c] = some [.bool true] := by
  apply f23
  simp -implicitDefEqProofs
  refine same_loop n1 n2 xs c c hs hl _ _ xs.length 0 (by omega) ?_
  simp -implicitDefEqProofs [lB23x1, endK, Vm.get]

theorem CorruptNo (nl : Bool) (xs : List PV) (cut : Bool) (i : Nat) (bit : Int) (hl : xs.length ≤ 1000) (hx : xs[i]? = some (.str [])) : Ans T 22 [lnk nl xs cut, .int .i64 i, .int .i64 bit] = some [lnk xs.isEmpty xs cut, .bool false] := by
  have h1 : (0 : Int) ≤ (i : Int) := by omega
  have h2 : (i : Int) < (xs.length : Int) := by have := (List.getElem?_eq_some_iff.1 hx).1; omega
  apply f22
  simp -implicitDefEqProofs [copyOf nl xs cut hl, has, h1, h2, hx]

def corBit (s : List UInt8) (bit : Int) : Nat := (bit % 18446744073709551616).toNat % (8 * s.length)
theorem CorruptYes (nl : Bool) (xs : List PV) (cut : Bool) (i : Nat) (bit : Int) (s : List UInt8) (hl : xs.length ≤ 1000) (hx : xs[i]? = some (.str s)) (hs : s ≠ []) (hs2 : s.length ≤ 1000) :
    Ans T 22 [lnk nl xs cut, .int .i64 i, .int .i64 bit] = some [lnk xs.isEmpty (xs.set i (.str (Vm.flip s (corBit s bit)))) cut, .bool true] := by
  have h1 : (0 : Int) ≤ (i : Int) := by omega
  have hlt := (List.getElem?_eq_some_iff.1 hx).1
  have h2 : (i : Int) < (xs.length : Int) := by omega
  have hpos : 0 < s.length := List.length_pos_iff.2 hs
  have h3 : (s == []) = false := by simpa using hs
  have e1 : IntKind.i64.wrap (8 * (s.length : Int)) = 8 * (s.length : Int) := wrap_i64 (by omega) (by omega)
  have e2 : IntKind.u64.wrap (8 * (s.length : Int)) = 8 * (s.length : Int) := wrap_u64_id (by omega) (by omega)
  have e3 : ¬ (8 * (s.length : Int)) = 0 := by omega
  have hb0 : 0 ≤ bit % 18446744073709551616 := Int.emod_nonneg _ (by omega)
  have e4 : (IntKind.u64.wrap bit).tmod (8 * (s.length : Int)) = (corBit s bit : Int) := by
    rw [wrap_u64, Int.tmod_eq_emod_of_nonneg hb0]
    unfold corBit
    rw [Int.natCast_emod, Int.toNat_of_nonneg hb0]; simp
  have hk : corBit s bit < 8 * s.length := Nat.mod_lt _ (by omega)
  generalize corBit s bit = k at *
  have e5 : IntKind.u64.wrap ((k : Int).tdiv 8) = ((k / 8 : Nat) : Int) := by
    rw [Int.tdiv_eq_ediv_of_nonneg (by omega)]
    rw [wrap_u64_id (by omega) (by omega)]; omega
  have e5' : IntKind.u64.wrap ((k : Int) / 8) = ((k / 8 : Nat) : Int) := by rw [wrap_u64_id (by omega) (by omega)]; omega
  have e6 : (k : Int).tmod 8 = ((k % 8 : Nat) : Int) := by
    rw [Int.tmod_eq_emod_of_nonneg (by omega)]; omega
  have h8 : k / 8 < s.length := by omega
  have e7 : ((k / 8 : Nat) : Int) < (s.length : Int) := by omega
  have e8 : IntKind.u8.wrap (2 ^ (min (k % 8) IntKind.u8.bits)) = ((bitU k).toNat : Int) := by
    rw [bitU_nat]
    have : min (k % 8) IntKind.u8.bits = k % 8 := by have := Nat.mod_lt k (show 8 > 0 by omega); simp [IntKind.bits]; omega
    rw [this]
    have h9 : 2 ^ (k % 8) < 256 := Nat.lt_of_lt_of_le (Nat.pow_lt_pow_right (by omega) (Nat.mod_lt k (by omega))) (by decide)
    rw [show ((2 : Int) ^ (k % 8)) = ((2 ^ (k % 8) : Nat) : Int) by simp]
    exact wrap_u8_id (Int.natCast_nonneg _) (Int.ofNat_lt.2 h9)
  have e9 : (bytesPV s)[k / 8]? = some (.int .u8 (s[k / 8].toNat : Int)) := by rw [bytesPV_get, List.getElem?_eq_getElem h8]; rfl
  have e10 : (bytesPV s).set (k / 8) (.int .u8 ((s[k / 8] ^^^ bitU k).toNat : Int)) = bytesPV (Vm.flip s k) := by
    rw [bytesPV_set]; unfold Vm.flip; rw [List.getElem?_eq_getElem h8]; rfl
  have e11 : ((k / 8 : Nat) : Int).toNat = k / 8 := by omega
  have e12 : (0 : Int) ≤ ((k / 8 : Nat) : Int) := by omega
  have e13 : ¬ ((k % 8 : Nat) : Int) < 0 := by omega
  rw [UInt8.toNat_xor] at e10
  generalize k / 8 = j at *
  generalize k % 8 = r at *
  apply f22
  simp -implicitDefEqProofs [copyOf nl xs cut hl, has, h1, h2, hx, h3, e1, e2, e3, e4, e5', e6, e7, e9, e8, xor8, e10, e13]
end Go.Proofs.Ytaldhebldjphbaa

/-
  The law HeartPackets: what its functions compute, and that it answers true.
  Conditions: none.
-/
import Derived.Test.YtaldhebldjphbaaHpa6
namespace Go.Proofs.Ytaldhebldjphbaa
open Go.Vm
set_option maxRecDepth 100000
theorem Round (n k : Int) (hk : 0 < k) (hk2 : k ≤ 1000) : ∃ r : Nat, Ans T 21 [.int .i64 n, .int .i64 k] = some [.int .i64 r] ∧ (r : Int) < k ∧ (r : Int) = n % k := by
  have h0 : ¬ k = 0 := by omega
  have h1 := Int.emod_nonneg n h0
  have h2 := Int.emod_lt_of_pos n hk
  have h3 : n.tmod k = n % k - (if 0 ≤ n ∨ k ∣ n then 0 else k.natAbs : Nat) := Int.tmod_eq_emod
  refine ⟨(n % k).toNat, ?_, by omega, by omega⟩
  have h4 : ((n % k).toNat : Int) = n % k := by omega
  have hk3 : (k.natAbs : Int) = k := by omega
  apply f21
  by_cases hd : 0 ≤ n ∨ k ∣ n
  · rw [if_pos hd] at h3
    have h5 : n.tmod k = n % k := by simpa using h3
    have hn : ¬ n % k < 0 := by omega
    simp -implicitDefEqProofs [h0, h5, hn, h4]
  · rw [if_neg hd, hk3] at h3
    have hn : n % k - k < 0 := by omega
    have h5 : IntKind.i64.wrap (n % k - k + k) = n % k := by
      rw [show n % k - k + k = n % k by omega]; exact wrap_i64 (by omega) (by omega)
    simp -implicitDefEqProofs only [chk_int, run_mov, Option.bind_some, run_rem, h0, if_false, h3, run_lss, hn, decide_true, chk_bool, isB_bool, if_true, run_add, h5, h4, allDef_int, allDef_nil, Option.map_some]

theorem RoundBig (n k : Int) (hk : 0 < k) (hk2 : k ≤ 1000000000) : ∃ r : Nat, Ans T 21 [.int .i64 n, .int .i64 k] = some [.int .i64 r] ∧ (r : Int) < k ∧ (r : Int) = n % k := by
  have h0 : ¬ k = 0 := by omega
  have h1 := Int.emod_nonneg n h0
  have h2 := Int.emod_lt_of_pos n hk
  have h3 : n.tmod k = n % k - (if 0 ≤ n ∨ k ∣ n then 0 else k.natAbs : Nat) := Int.tmod_eq_emod
  refine ⟨(n % k).toNat, ?_, by omega, by omega⟩
  have h4 : ((n % k).toNat : Int) = n % k := by omega
  have hk3 : (k.natAbs : Int) = k := by omega
  apply f21
  by_cases hd : 0 ≤ n ∨ k ∣ n
  · rw [if_pos hd] at h3
    have h5 : n.tmod k = n % k := by simpa using h3
    have hn : ¬ n % k < 0 := by omega
    simp -implicitDefEqProofs [h0, h5, hn, h4]
  · rw [if_neg hd, hk3] at h3
    have hn : n % k - k < 0 := by omega
    have h5 : IntKind.i64.wrap (n % k - k + k) = n % k := by
      rw [show n % k - k + k = n % k by omega]; exact wrap_i64 (by omega) (by omega)
    simp -implicitDefEqProofs only [chk_int, run_mov, Option.bind_some, run_rem, h0, if_false, h3, run_lss, hn, decide_true, chk_bool, isB_bool, if_true, run_add, h5, h4, allDef_int, allDef_nil, Option.map_some]

end Go.Proofs.Ytaldhebldjphbaa

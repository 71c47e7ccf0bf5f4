/-
  The law EventlogOpens: what its functions compute, and that it answers true.
  Conditions: none.
-/
import Derived.Test.YtaldhebldjphbaaEvo7
namespace Go.Proofs.Ytaldhebldjphbaa
open Go.Vm
set_option maxRecDepth 100000
set_option linter.unusedSimpArgs false

def nxS (x : Int) : Int := IntKind.u64.wrap (x + 11400714819323198485)
def shx (z : Int) (k : Nat) : Int := bitsI (fun _ x y => x ^^^ y) .u64 z (z.fdiv (2 ^ (min k IntKind.u64.bits)))
def nx (x : Int) : Int := shx (IntKind.u64.wrap (shx (IntKind.u64.wrap (shx (nxS x) 30 * 13787848793156543929)) 27 * 10723151780598845931)) 31
theorem nx_bounds (x : Int) : 0 ≤ nx x ∧ nx x < 18446744073709551616 := by
  unfold nx shx bitsI
  rw [wrap_u64]
  omega
theorem Next (x : Int) : Ans T 91 [.int .u64 x] = some [.int .u64 (nx x), .int .u64 (nxS x)] := by
  apply f91
  simp -implicitDefEqProofs [nx, nxS, shx]
def mixV (n k : Int) : Int := (nx (bitsI (fun _ x y => x ^^^ y) .u64 (IntKind.u64.wrap n) (IntKind.u64.wrap (IntKind.u64.wrap k * 11400714819323198485)))) / 2
theorem mix_bounds (n k : Int) : 0 ≤ mixV n k ∧ mixV n k < 9223372036854775808 := by
  have := nx_bounds (bitsI (fun _ x y => x ^^^ y) .u64 (IntKind.u64.wrap n) (IntKind.u64.wrap (IntKind.u64.wrap k * 11400714819323198485)))
  unfold mixV
  omega
theorem Mix (n k : Int) : Ans T 68 [.int .i64 n, .int .i64 k] = some [.int .i64 (mixV n k)] := by
  have hb := mix_bounds n k
  have h1 : (nx (bitsI (fun _ x y => x ^^^ y) .u64 (IntKind.u64.wrap n) (IntKind.u64.wrap (IntKind.u64.wrap k * 11400714819323198485)))).fdiv (2 ^ (min 1 IntKind.u64.bits)) = mixV n k := by
    rw [Int.fdiv_eq_ediv_of_nonneg _ (by decide)]; rfl
  have h2 : IntKind.i64.wrap (mixV n k) = mixV n k := wrap_i64 (by omega) (by omega)
  generalize mixV n k = m at *
  apply f68
  simp -implicitDefEqProofs [Next, h1, h2]

def dataB (n : Int) (i : Nat) : UInt8 := UInt8.ofNat (mixV n ((i : Int) / 9)).toNat
theorem dataB_nat (n : Int) (i : Nat) : (((dataB n i).toNat : Nat) : Int) = IntKind.u8.wrap (mixV n ((i : Int) / 9)) := by
  have := mix_bounds n ((i : Int) / 9)
  unfold dataB
  generalize mixV n ((i : Int) / 9) = m at *
  simp [IntKind.wrap, IntKind.signed, IntKind.bits]
  omega
def dataS (n : Int) (k : Nat) : List UInt8 := (List.range k).map (dataB n)
@[simp] theorem dataS_len (n : Int) (k : Nat) : (dataS n k).length = k := by simp [dataS]
theorem data_loop (n : Int) (k : Nat) (hk : k ≤ 1000) (K : RK) (a : List PV) (hK : ∀ nl, K (.exit 0, [.undef, .undef, .undef, .undef, .undef, .slice nl (bytesPV (dataS n k))] ++ List.replicate 16 .undef) = some a) : ∀ (m i : Nat) (nl : Bool), i + m = k →
    WL69x2 (.int .i64 n) (.int .i64 k) (.slice nl (bytesPV (dataS n i))) (.int .i64 i) K = some a
  | 0, i, nl, hi => by
    have h1 : ¬ (i : Int) < (k : Int) := by omega
    have : i = k := by omega
    subst this
    have hK := hK nl
    generalize dataS n i = q at *
    apply oL69x2
    simp -implicitDefEqProofs [h1]
    simpa using hK
  | m + 1, i, nl, hi => by
    have h1 : (i : Int) < (k : Int) := by omega
    have h6 : IntKind.i64.wrap ((i : Int) + 1) = (i : Int) + 1 := wrap_i64 (by omega) (by omega)
    have h7 : IntKind.i64.wrap ((i : Int) / 9) = (i : Int) / 9 := wrap_i64 (by omega) (by omega)
    have hw := dataB_nat n i
    have h3 : bytesPV (dataS n i) ++ [.int .u8 (((dataB n i).toNat : Nat) : Int)] = bytesPV (dataS n (i + 1)) := by
      unfold dataS; rw [List.range_succ, List.map_append, bytesPV_append]; rfl
    have h4 : (dataS n i).length ≤ 140737488355327 := by rw [dataS_len]; omega
    have ih := data_loop n k hk K a hK m (i + 1) false (by omega)
    have hM := Mix n ((i : Int) / 9)
    generalize dataS n (i + 1) = l2 at *
    generalize dataS n i = l1 at *
    generalize dataB n i = u at *
    generalize mixV n ((i : Int) / 9) = mv at *
    apply oL69x2
    simp -implicitDefEqProofs [h1, h6, h7, hM, ← hw, h3, h4]
    exact ih
theorem Data (n : Int) (k : Nat) (hk : k ≤ 1000) : Ans T 69 [.int .i64 n, .int .i64 k] = some [.str (dataS n k)] := by
  apply f69
  have := data_loop n k hk (blockK 0 (seqK T B69x1 (endK [4]))) [.str (dataS n k)] (fun nl => by
    have hl := dataS_len n k
    generalize dataS n k = q at *
    simp -implicitDefEqProofs [lB69x1]) k 0 true (by omega)
  simp -implicitDefEqProofs
  exact this
theorem Event (n : Int) : ∃ k m s, Ans T 43 [.int .i64 n] = some [ev k m s] ∧ s.length ≤ 128 := by
  obtain ⟨b1, b2⟩ := mix_bounds n 2
  have hM := Mix n 2
  generalize mixV n 2 = v at *
  have h0 : v.tmod 7 = v % 7 := Int.tmod_eq_emod_of_nonneg b1
  have hsh : v.fdiv (2 ^ (min 8 IntKind.i64.bits)) = v / 256 := by rw [Int.fdiv_eq_ediv_of_nonneg _ (by decide)]; rfl
  have h7 : v % 7 = 0 ∨ v % 7 = 1 ∨ v % 7 = 2 ∨ v % 7 = 3 ∨ v % 7 = 4 ∨ v % 7 = 5 ∨ v % 7 = 6 := by omega
  rcases h7 with h | h | h | h | h | h | h <;> rw [h] at h0
  · refine ⟨2, 0, [], ?_, by simp⟩
    apply f43
    simp -implicitDefEqProofs [hM, h0]
  · refine ⟨3, IntKind.u32.wrap (bitsI (fun _ x y => x &&& y) .i64 (v / 256) 255), [], ?_, by simp⟩
    apply f43
    simp -implicitDefEqProofs [hM, h0, hsh]
  · refine ⟨3, IntKind.u32.wrap (bitsI (fun _ x y => x &&& y) .i64 (v / 256) 255), [], ?_, by simp⟩
    apply f43
    simp -implicitDefEqProofs [hM, h0, hsh]
  · refine ⟨4, 1, [], ?_, by simp⟩
    apply f43
    simp -implicitDefEqProofs [hM, h0]
  · refine ⟨4, 1, dataS v 128, ?_, by simp⟩
    have hD := Data v 128 (by omega)
    generalize dataS v 128 = q at *
    apply f43
    simp -implicitDefEqProofs [hM, h0] at hD ⊢
    simp -implicitDefEqProofs [hD]
  · have h40 : (v / 256).tmod 40 = v / 256 % 40 := Int.tmod_eq_emod_of_nonneg (by omega)
    have hw : IntKind.i64.wrap (v / 256 % 40) = v / 256 % 40 := wrap_i64 (by omega) (by omega)
    have hw2 : IntKind.i64.wrap (1 + v / 256 % 40) = (((1 + v / 256 % 40).toNat : Nat) : Int) := by rw [wrap_i64 (by omega) (by omega)]; omega
    refine ⟨5, 0, dataS v (1 + v / 256 % 40).toNat, ?_, by simp; omega⟩
    have hD := Data v (1 + v / 256 % 40).toNat (by omega)
    generalize dataS v (1 + v / 256 % 40).toNat = q at *
    generalize (1 + v / 256 % 40).toNat = kk at *
    apply f43
    simp -implicitDefEqProofs [hM, h0, hsh, h40, hw, hw2, hD]
  · have h4 : (v / 256).tmod 4 = v / 256 % 4 := Int.tmod_eq_emod_of_nonneg (by omega)
    have h3 : (v / 256).tmod 3 = v / 256 % 3 := Int.tmod_eq_emod_of_nonneg (by omega)
    by_cases hz : v / 256 % 4 = 0
    · refine ⟨4, 0, [], ?_, by simp⟩
      apply f43
      simp -implicitDefEqProofs [hM, h0, hsh, h4, hz]
    · refine ⟨6, IntKind.u32.wrap (v / 256 % 3), [], ?_, by simp⟩
      have hw : IntKind.i64.wrap (v / 256 % 3) = v / 256 % 3 := wrap_i64 (by omega) (by omega)
      apply f43
      simp -implicitDefEqProofs [hM, h0, hsh, h4, hz, h3, hw]
theorem EventlogValid (k m : Int) (s : List UInt8) (n : Int) (made : Bool) : Ans T 10 [ev k m s, .int .i64 n, .bool made] = some [.bool true] := by
  apply f10
  cases made with
  | false =>
    by_cases hl : (300 : Int) < (s.length : Int)
    · simp -implicitDefEqProofs [hl, awake19]
    · have h1 := EValid k m s
      have h2 := rEValid k m s
      generalize vev k m s = b at *
      simp -implicitDefEqProofs [hl, h1, h2, awake19]
  | true =>
    obtain ⟨k2, m2, s2, hE, hl2⟩ := Event n
    have hl : ¬ (300 : Int) < (s2.length : Int) := by omega
    have hv := EValid k2
    have hv2 := rEValid k2
    simp -implicitDefEqProofs [hE, hl, hv, hv2, awake19]
end Go.Proofs.Ytaldhebldjphbaa

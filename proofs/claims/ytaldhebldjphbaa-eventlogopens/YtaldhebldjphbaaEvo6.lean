/-
  The law EventlogOpens: what its functions compute, and that it answers true.
  Conditions: none.
-/
import Derived.Test.YtaldhebldjphbaaEvo5
namespace Go.Proofs.Ytaldhebldjphbaa
open Go.Vm
set_option maxRecDepth 100000
set_option linter.unusedSimpArgs false

theorem rnumber (s : List UInt8) (bad : Bool) (hs : s.length ≤ 140737488351232) : Ans T 77 [rd s bad] = some (if bad = false ∧ (unvar 0 0 s).2.2 = true then [.int .u64 ((unvar 0 0 s).1 : Nat), rd (s.drop (unvar 0 0 s).2.1) false] else [.int .u64 0, rd s true]) := by
  have h1 := rUvarint s hs
  obtain ⟨h2, h3⟩ := unvar_bounds s 0 0 (by simp) (by omega)
  generalize unvar 0 0 s = v at *
  obtain ⟨x, n, k⟩ := v
  simp only [] at h1 h2 h3 ⊢
  have h4 : (n : Int) ≤ (s.length : Int) := by omega
  apply f77
  cases bad <;> cases k <;> simp -implicitDefEqProofs [h1, h4]
theorem rbytes (s : List UInt8) (n : Nat) (bad : Bool) (hs : s.length ≤ 140737488351232) : Ans T 78 [rd s bad, .int .u64 n] = some (if bad = false ∧ n ≤ s.length then [.str (s.take n), rd (s.drop n) false] else [.str [], rd s true]) := by
  have h4 : IntKind.u64.wrap (s.length : Int) = (s.length : Int) := wrap_u64_id (by omega) (by omega)
  apply f78
  cases bad with
  | true => simp -implicitDefEqProofs
  | false =>
    by_cases h5 : n ≤ s.length
    · have h6 : ¬ (s.length : Int) < (n : Int) := by omega
      have h7 : (n : Int) ≤ (s.length : Int) := by omega
      simp -implicitDefEqProofs [h4, h5, h6, h7]
    · have h6 : (s.length : Int) < (n : Int) := by omega
      simp -implicitDefEqProofs [h4, h5, h6]
theorem rSeal (x : Nat) (s : List UInt8) (hx : x < 18446744073709551616) (hs : s.length ≤ 140737488350000) : Ans T 49 [.int .u64 x, .str s] = some [.str (sealS x s)] := by
  apply f49
  have h1 := rPutUvarint x hx
  have h2 := rPutUvarint s.length (by omega)
  have h3 := uvar_len 10 s.length (by omega) (by omega)
  have h4 := uvar_len 10 x (by omega) (by omega)
  have hw : IntKind.u64.wrap (s.length : Int) = (s.length : Int) := wrap_u64_id (by omega) (by omega)
  have h5 : (uvar x).length + (uvar s.length).length ≤ 9223372036854775807 := by omega
  have h5b : (uvar x).length + (uvar s.length).length + s.length ≤ 9223372036854775807 := by omega
  have h6 := rHash hash0 (uvar x ++ (uvar s.length ++ s)) (by decide) (by simp; omega)
  rw [show ((hash0 : Nat) : Int) = 14695981039346656037 from rfl] at h6
  have h7 : (uvar x ++ (uvar s.length ++ s)).length ≤ 9223372036854775799 := by simp; omega
  have h8 : sealS x s = (uvar x ++ (uvar s.length ++ s)) ++ sum8 (uvar x ++ (uvar s.length ++ s)) := rfl
  have h9 := eight (fnv hash0 (uvar x ++ (uvar s.length ++ s)))
  rw [← sum8_eq] at h9
  rw [h8]
  generalize hU : uvar x = U at *
  generalize hB : uvar s.length = B at *
  generalize fnv hash0 (U ++ (B ++ s)) = H at *
  have hl8 := sum8_len (U ++ (B ++ s))
  generalize sum8 (U ++ (B ++ s)) = Z at *
  generalize hUB : U ++ (B ++ s) = UB at *
  simp -implicitDefEqProofs [h1, h2, hw, h5, h5b, hUB, h6, h7, h9, hl8]
theorem rOpen (s : List UInt8) (hs : s.length ≤ 140737488351232) : Ans T 50 [.str s] = some [.int .u64 ((openS s).1 : Nat), .str (openS s).2.1, .int .i64 ((openS s).2.2 : Nat)] := by
  unfold openS
  have h1 := rnumber s false hs
  obtain ⟨b1, b2⟩ := unvar_bounds s 0 0 (by simp) (by omega)
  generalize unvar 0 0 s = v1 at *
  obtain ⟨x1, n1, k1⟩ := v1
  simp only [] at *
  cases k1 with
  | false =>
    have h2 := rnumber s true hs
    have h3 := rbytes s 0 true hs
    simp only [Bool.true_eq_false, false_and, and_true, if_false, Bool.false_eq_true, and_false, Int.cast_ofNat_Int, Bool.false_and] at h1 h2 h3 ⊢
    have hz : (if (List.drop (unvar 0 0 (s.drop n1)).2.1 (s.drop n1)).length < (unvar 0 0 (s.drop n1)).1 then (0, [], 1900) else ((0, [], 1900) : Nat × List UInt8 × Nat)) = (0, [], 1900) := by split <;> rfl
    rw [hz]
    apply f50
    simp -implicitDefEqProofs [h1, h2, h3]
  | true =>
    have hl : (s.drop n1).length ≤ 140737488351232 := by simp; omega
    have h2 := rnumber (s.drop n1) false hl
    simp only [Bool.true_and]
    generalize hs1 : s.drop n1 = s1 at *
    obtain ⟨b3, b4⟩ := unvar_bounds s1 0 0 (by simp) (by omega)
    generalize unvar 0 0 s1 = v2 at *
    obtain ⟨x2, n2, k2⟩ := v2
    simp only [] at *
    have hl1 : s1.length ≤ s.length := by rw [← hs1]; simp
    cases k2 with
    | false =>
      have h3 := rbytes s1 0 true hl
      simp only [Bool.true_eq_false, false_and, and_true, if_false, Bool.false_eq_true, and_false, if_true, Int.cast_ofNat_Int] at h1 h2 h3 ⊢
      have hz : (if (List.drop n2 s1).length < x2 then (0, [], 1900) else ((0, [], 1900) : Nat × List UInt8 × Nat)) = (0, [], 1900) := by split <;> rfl
      rw [hz]
      apply f50
      simp -implicitDefEqProofs [h1, h2, h3]
    | true =>
      generalize hs2 : s1.drop n2 = s2 at *
      have hl2 : s2.length ≤ s1.length := by rw [← hs2]; simp
      have h3 := rbytes s2 x2 false (by omega)
      simp only [true_and, if_true] at h1 h2 h3 ⊢
      apply f50
      by_cases h5 : s2.length < x2
      · rw [if_neg (by omega)] at h3
        rw [if_pos h5]
        simp -implicitDefEqProofs [h1, h2, h3]
      · rw [if_pos (by omega)] at h3
        rw [if_neg h5]
        generalize hr : s2.drop x2 = r at *
        generalize s2.take x2 = body at *
        by_cases h8 : r.length = 8
        · have hlr : r.length ≤ s2.length := by rw [← hr]; simp
          have h9 : IntKind.i64.wrap ((s.length : Int) - 8) = ((s.length - 8 : Nat) : Int) := by rw [wrap_i64 (by omega) (by omega)]; omega
          have h10 : s.length - 8 ≤ s.length := by omega
          have h11 := rHash hash0 (s.take (s.length - 8)) (by decide) (by simp; omega)
          have h12 := eight (fnv hash0 (s.take (s.length - 8)))
          rw [← sum8_eq] at h12
          rw [show ((hash0 : Nat) : Int) = 14695981039346656037 from rfl] at h11
          generalize hm : s.length - 8 = m at *
          generalize fnv hash0 (s.take m) = H at *
          by_cases he : r = sum8 (s.take m)
          · have he' : (sum8 (s.take m) == r) = true := by simp [he]
            simp -implicitDefEqProofs [h1, h2, h3, h8, h9, h10, h11, h12, he']
            simp [he]
          · have he' : (sum8 (s.take m) == r) = false := by simpa using fun h => he h.symm
            simp -implicitDefEqProofs [h1, h2, h3, h8, h9, h10, h11, h12, he']
            simp [he]
        · have h8' : ¬ (r.length : Int) = 8 := by omega
          simp -implicitDefEqProofs [h1, h2, h3, h8, h8']
end Go.Proofs.Ytaldhebldjphbaa

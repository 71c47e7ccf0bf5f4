/-
  The law JournalCodes: what its functions compute, and that it answers true.
  Conditions: none.
-/
import Derived.Test.YtaldhebldjphbaaJrn7
import Derived.Test.YtaldhebldjphbaaVmF
namespace Go.Proofs.Ytaldhebldjphbaa
open Go.Vm
set_option maxRecDepth 100000
set_option linter.unusedSimpArgs false

abbrev rd (s : List UInt8) (ok : Bool) : PV := .agg [.str s, .bool ok]
theorem number (s : List UInt8) (ok : Bool) (hs : s.length ≤ 140737488351232) : Ans T 73 [rd s ok] = some [.int .u64 ((unvar 0 0 s).1 : Nat), rd (s.drop (unvar 0 0 s).2.1) (ok && (unvar 0 0 s).2.2)] := by
  have h1 := Uvarint s hs
  obtain ⟨h2, h3⟩ := unvar_bounds s 0 0 (by simp) (by omega)
  generalize unvar 0 0 s = v at *
  obtain ⟨x, n, k⟩ := v
  simp only [] at h1 h2 h3 ⊢
  have h4 : (n : Int) ≤ (s.length : Int) := by omega
  apply f73
  cases ok <;> simp -implicitDefEqProofs [h1, h4]
theorem rtext (s : List UInt8) (ok : Bool) (hs : s.length ≤ 140737488351232) : Ans T 74 [rd s ok] = some (
    if (s.drop (unvar 0 0 s).2.1).length < (unvar 0 0 s).1 then [.str [], rd (s.drop (unvar 0 0 s).2.1) false]
    else [.str ((s.drop (unvar 0 0 s).2.1).take (unvar 0 0 s).1), rd ((s.drop (unvar 0 0 s).2.1).drop (unvar 0 0 s).1) (ok && (unvar 0 0 s).2.2)]) := by
  have h1 := number s ok hs
  obtain ⟨h2, h3⟩ := unvar_bounds s 0 0 (by simp) (by omega)
  generalize unvar 0 0 s = v at *
  obtain ⟨x, n, k⟩ := v
  simp only [] at h1 h2 h3 ⊢
  have hl : (s.drop n).length ≤ 140737488351232 := by simp; omega
  generalize s.drop n = s1 at *
  have h4 : IntKind.u64.wrap (s1.length : Int) = (s1.length : Int) := wrap_u64_id (by omega) (by omega)
  generalize (ok && k) = k2 at *
  apply f74
  by_cases h5 : s1.length < x
  · have h6 : (s1.length : Int) < (x : Int) := by omega
    simp -implicitDefEqProofs [h1, h4, h5, h6]
  · have h6 : ¬ (s1.length : Int) < (x : Int) := by omega
    have h7 : x ≤ s1.length := by omega
    simp -implicitDefEqProofs [h1, h4, h5, h6, h7]
theorem Open (s : List UInt8) (hs : s.length ≤ 140737488351232) : Ans T 48 [.str s] = some [.int .u64 ((openS s).1 : Nat), .str (openS s).2.1, .int .i64 ((openS s).2.2 : Nat)] := by
  unfold openS
  have h1 := number s true hs
  obtain ⟨b1, b2⟩ := unvar_bounds s 0 0 (by simp) (by omega)
  generalize unvar 0 0 s = v1 at *
  have hl : (s.drop v1.2.1).length ≤ 140737488351232 := by simp; omega
  have h2 := rtext (s.drop v1.2.1) (true && v1.2.2) hl
  simp only []
  generalize hs1 : s.drop v1.2.1 = s1 at *
  obtain ⟨b3, b4⟩ := unvar_bounds s1 0 0 (by simp) (by omega)
  generalize unvar 0 0 s1 = v2 at *
  generalize hs2 : s1.drop v2.2.1 = s2 at *
  have hl2 : s2.length ≤ s1.length := by rw [← hs2]; simp
  have hl1 : s1.length ≤ s.length := by rw [← hs1]; simp
  obtain ⟨x1, n1, k1⟩ := v1
  obtain ⟨x2, n2, k2⟩ := v2
  simp only [Bool.true_and] at *
  apply f48
  by_cases h5 : s2.length < x2
  · rw [if_pos h5] at h2 ⊢
    simp -implicitDefEqProofs [h1, h2]
  · rw [if_neg h5] at h2 ⊢
    generalize hr : s2.drop x2 = r at *
    have hlr : r.length ≤ s2.length := by rw [← hr]; simp
    generalize s2.take x2 = body at *
    by_cases hk : k1 = true ∧ k2 = true
    · obtain ⟨rfl, rfl⟩ := hk
      by_cases h8 : r.length = 8
      · have h9 : IntKind.i64.wrap ((s.length : Int) - 8) = ((s.length - 8 : Nat) : Int) := by rw [wrap_i64 (by omega) (by omega)]; omega
        have h10 : s.length - 8 ≤ s.length := by omega
        have h11 := sum (s.take (s.length - 8)) (by simp; omega)
        generalize hm : s.length - 8 = m at *
        by_cases he : r = sum8 (s.take m)
        · have he' : (r == sum8 (s.take m)) = true := by simpa using he
          simp -implicitDefEqProofs [h1, h2, h8, h9, h10, h11, he']
          simp [he]
        · have he' : (r == sum8 (s.take m)) = false := by simpa using he
          simp -implicitDefEqProofs [h1, h2, h8, h9, h10, h11, he']
          simp [he]
      · have h8' : ¬ (r.length : Int) = 8 := by omega
        simp -implicitDefEqProofs [h1, h2, h8, h8']
    · have hk' : (k1 && k2) = false := by cases k1 <;> cases k2 <;> simp_all
      have hk2 : ¬ ((k1 && k2) = true ∧ r.length = 8) := fun h => by rw [hk'] at h; simp at h
      rw [if_neg hk2]
      generalize (k1 && k2) = k at *
      subst hk'
      simp -implicitDefEqProofs [h1, h2]

end Go.Proofs.Ytaldhebldjphbaa

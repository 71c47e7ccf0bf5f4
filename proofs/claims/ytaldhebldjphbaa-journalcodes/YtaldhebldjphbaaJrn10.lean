/-
  The law JournalCodes: what its functions compute, and that it answers true.
  Conditions: none.
-/
import Derived.Test.YtaldhebldjphbaaJrn8
import Derived.Test.YtaldhebldjphbaaJrn9
namespace Go.Proofs.Ytaldhebldjphbaa
open Go.Vm
set_option maxRecDepth 100000
set_option linter.unusedSimpArgs false

theorem jnumber (s : List UInt8) (ok : Bool) (hs : s.length ≤ 140737488351232) : Ans T 81 [rd s ok] = some [.int .i64 (num s ok).1, rd (num s ok).2.1 (num s ok).2.2] := by
  have h1 := Uvarint s hs
  obtain ⟨h2, h3⟩ := unvar_bounds s 0 0 (by simp) (by omega)
  unfold num
  generalize unvar 0 0 s = v at *
  obtain ⟨x, n, k⟩ := v
  simp only [] at h1 h2 h3 ⊢
  have h4 : (n : Int) ≤ (s.length : Int) := by omega
  apply f81
  cases k <;> simp -implicitDefEqProofs [h1, h4, i64]

theorem jtext (s : List UInt8) (ok : Bool) (hs : s.length ≤ 140737488351232) : Ans T 82 [rd s ok] = some [.str (txt s ok).1, rd (txt s ok).2.1 (txt s ok).2.2] := by
  have h1 := jnumber s ok hs
  have h2 := num_len s ok
  unfold txt
  simp only []
  generalize num s ok = v at *
  obtain ⟨x, s1, k⟩ := v
  simp only [] at h1 h2 ⊢
  apply f82
  cases k with
  | false => simp -implicitDefEqProofs [h1]
  | true =>
    by_cases h3 : x < 0
    · have h4 : ¬ 0 ≤ x := by omega
      simp -implicitDefEqProofs [h1, h3, h4]
    · have h4 : 0 ≤ x := by omega
      by_cases h5 : (s1.length : Int) < x
      · have h6 : ¬ x ≤ (s1.length : Int) := by omega
        simp -implicitDefEqProofs [h1, h3, h4, h5, h6]
      · have h6 : x ≤ (s1.length : Int) := by omega
        have h7 : x.toNat ≤ s1.length := by omega
        have h8 : (x.toNat : Int) = x := by omega
        simp -implicitDefEqProofs [h1, h3, h4, h5, h6, h7, h8]

theorem jput (x : Int) (nl : Bool) (b : List UInt8) (hb : b.length ≤ 100000) : Ans T 83 [.int .i64 x, .slice nl (bytesPV b)] = some [.slice false (bytesPV (b ++ uvar (u64 x)))] := by
  have h1 := PutUvarint (u64 x) (u64_lt x)
  have h2 := uvar_pos (u64 x)
  have h3 := uvar_len 10 (u64 x) (by have := u64_lt x; omega) (by omega)
  have h4 := u64_wrap x
  generalize uvar (u64 x) = z at *
  have h5 : z.isEmpty = false := by cases z <;> simp at h2 ⊢
  have h6 : (b.length + z.length) ≤ 140737488355328 := by omega
  have h7 : bytesPV b ++ bytesPV z = bytesPV (b ++ z) := by simp [bytesPV]
  have h8 : z ≠ [] := by intro e; subst e; simp at h2
  apply f83
  simp -implicitDefEqProofs [h1, h4, h5, h6, h7, h8]
end Go.Proofs.Ytaldhebldjphbaa

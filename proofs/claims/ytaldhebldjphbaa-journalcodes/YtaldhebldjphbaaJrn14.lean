/-
  The law JournalCodes: what its functions compute, and that it answers true.
  Conditions: none.
-/
import Derived.Test.YtaldhebldjphbaaJrn13
namespace Go.Proofs.Ytaldhebldjphbaa
open Go.Vm
set_option maxRecDepth 100000
set_option linter.unusedSimpArgs false

theorem pj_len : ∀ (m : Nat) (p : List UInt8) (n : Nat), (pj m p n).1.length ≤ m
  | 0, p, n => by simp [pj]
  | m + 1, p, n => by
    unfold pj
    split
    · simp
    · rename_i o k h
      have := pj_len m (p.drop k) (n + 1)
      simp; omega

theorem manP_ne (o : Man) (h : ManOK o) : ∃ a b r l c g m p, o.l = [a, b, r, l, c, g, m, p] ∧ manP o = manV o.k o.name a b r l c g m p o.up := by
  have hl := h.len
  unfold manP
  match hh : o.l with
  | [a, b, r, l, c, g, m, p] => exact ⟨a, b, r, l, c, g, m, p, rfl, rfl⟩
  | [] => rw [hh] at hl; simp at hl
  | [_] => rw [hh] at hl; simp at hl
  | [_, _] => rw [hh] at hl; simp at hl
  | [_, _, _] => rw [hh] at hl; simp at hl
  | [_, _, _, _] => rw [hh] at hl; simp at hl
  | [_, _, _, _, _] => rw [hh] at hl; simp at hl
  | [_, _, _, _, _, _] => rw [hh] at hl; simp at hl
  | [_, _, _, _, _, _, _] => rw [hh] at hl; simp at hl
  | _ :: _ :: _ :: _ :: _ :: _ :: _ :: _ :: _ :: _ => rw [hh] at hl; simp at hl

theorem Append (s : List UInt8) (o : Man) (hs : s.length ≤ 1000000) (h : ManOK o) : Ans T 54 [.str s, manP o] = some (
    if 8192 < (s ++ recJ (pj (s.length + 1) s 0).1.length o).length then [.str s, .bool false] else [.str (s ++ recJ (pj (s.length + 1) s 0).1.length o), .bool true]) := by
  have h1 := Parse s hs
  have h2 := pj_len (s.length + 1) s 0
  generalize pj (s.length + 1) s 0 = v at *
  obtain ⟨l, k⟩ := v
  simp only [] at h1 h2 ⊢
  obtain ⟨a, b, r, li, c, g, m, p, hl, hm⟩ := manP_ne o h
  have h3 := jenc o.k o.name a b r li c g m p o.up (by have := h.name; omega)
  rw [← hm] at h3
  have ho : (⟨o.k, o.name, [a, b, r, li, c, g, m, p], o.up⟩ : Man) = o := by cases o; simp at hl ⊢; exact hl.symm
  rw [ho] at h3
  have h4 := encM_len o h
  have h5 := Seal l.length (encM o) (by omega) (by omega)
  have h6 := seal_len l.length (encM o) (by omega) h4
  have h7 := PutUvarint (sealS l.length (encM o)).length (by omega)
  have h8 := uvar_len 10 (sealS l.length (encM o)).length (by omega) (by omega)
  unfold recJ
  generalize sealS l.length (encM o) = z at *
  have w1 : IntKind.u64.wrap (l.length : Int) = (l.length : Int) := wrap_u64_id (by omega) (by omega)
  have w2 : IntKind.u64.wrap (z.length : Int) = (z.length : Int) := wrap_u64_id (by omega) (by omega)
  have e1 : s.length + (uvar z.length).length ≤ 9223372036854775807 := by omega
  have e2 : s.length + (uvar z.length).length + z.length ≤ 9223372036854775807 := by omega
  have e3 : ∀ {α : Type} (f : PV → Option α), chk (manP o) f = f (manP o) := fun f => by rw [hm]; rfl
  generalize uvar z.length = u at *
  apply f54
  by_cases hc : 8192 < (s ++ (u ++ z)).length
  · have hc' : (8192 : Int) < (s.length : Int) + ((u.length : Int) + (z.length : Int)) := by simp at hc; omega
    have hc2 : 8192 < s.length + (u.length + z.length) := by simpa using hc
    have hc3 : (8192 : Int) < (s.length : Int) + (u.length : Int) + (z.length : Int) := by omega
    rw [if_pos hc]
    generalize manP o = mo at *
    simp -implicitDefEqProofs [h1, h3, h5, h7, w1, w2, e1, e2, e3, hc, hc', hc2, hc3]
  · have hc' : ¬ (8192 : Int) < (s.length : Int) + ((u.length : Int) + (z.length : Int)) := by simp at hc; omega
    have hc2 : ¬ 8192 < s.length + (u.length + z.length) := by simpa using hc
    have hc3 : ¬ (8192 : Int) < (s.length : Int) + (u.length : Int) + (z.length : Int) := by omega
    rw [if_neg hc]
    generalize manP o = mo at *
    simp -implicitDefEqProofs [h1, h3, h5, h7, w1, w2, e1, e2, e3, hc, hc', hc2, hc3]
end Go.Proofs.Ytaldhebldjphbaa

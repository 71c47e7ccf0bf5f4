/-
  The law JournalCodes: what its functions compute, and that it answers true.
  Conditions: none.
-/
import Derived.Test.YtaldhebldjphbaaJrn10
namespace Go.Proofs.Ytaldhebldjphbaa
open Go.Vm
set_option maxRecDepth 100000
set_option linter.unusedSimpArgs false

abbrev manV (k : Int) (name : List UInt8) (a b r l c g m p : Int) (up : Bool) : PV :=
  .agg [.int .i64 k, .str name, .int .i64 a, .int .i64 b, .agg [.int .i64 r, .int .i64 l, .int .i64 c, .int .i64 g], .agg [.int .i64 m, .int .i64 p, .bool up]]

def decR (d : Dec) : List PV := match d.l with
  | [a, b, r, l, c, g, m, p, u] => if d.ok = true ∧ d.rest = [] ∧ 0 ≤ u ∧ u ≤ 1 then [manV d.k d.name a b r l c g m p (decide (u = 1)), .bool true] else [manV 0 [] 0 0 0 0 0 0 0 0 false, .bool false]
  | _ => []

theorem run_idx9 (a0 a1 a2 a3 a4 a5 a6 a7 a8 : PV) : Prim.run (.idx 9) [a0, a1, a2, a3, a4, a5, a6, a7, a8] = some (.agg [.int .i64 0, .int .i64 1, .int .i64 2, .int .i64 3, .int .i64 4, .int .i64 5, .int .i64 6, .int .i64 7, .int .i64 8]) := rfl

theorem jdec (s : List UInt8) (hs : s.length ≤ 1000000) : Ans T 52 [.str s] = some (decR (decM s)) := by
  have w1 : ∀ j : Nat, j ≤ 20 → IntKind.i64.wrap (j : Int) = (j : Int) := fun j hj => wrap_i64 (by omega) (by omega)
  have w : IntKind.i64.wrap 1 = 1 ∧ IntKind.i64.wrap 2 = 2 ∧ IntKind.i64.wrap 3 = 3 ∧ IntKind.i64.wrap 4 = 4 ∧ IntKind.i64.wrap 5 = 5 ∧ IntKind.i64.wrap 6 = 6 ∧ IntKind.i64.wrap 7 = 7 ∧ IntKind.i64.wrap 8 = 8 ∧ IntKind.i64.wrap 9 = 9 :=
    ⟨w1 1 (by omega), w1 2 (by omega), w1 3 (by omega), w1 4 (by omega), w1 5 (by omega), w1 6 (by omega), w1 7 (by omega), w1 8 (by omega), w1 9 (by omega)⟩
  obtain ⟨w1, w2, w3, w4, w5, w6, w7, w8, w9⟩ := w
  simp only [decM, nums]
  have h0 := jnumber s true (by omega)
  have l0 := num_len s true
  generalize num s true = v at *
  obtain ⟨k, s0, ok0⟩ := v
  simp only [] at h0 l0 ⊢
  have h1 := jtext s0 ok0 (by omega)
  have l1 := txt_len s0 ok0
  generalize txt s0 ok0 = v at *
  obtain ⟨name, s1, ok1⟩ := v
  simp only [] at h1 l1 ⊢
  have h2 := jnumber s1 ok1 (by omega)
  have l2 := num_len s1 ok1
  generalize num s1 ok1 = v at *
  obtain ⟨n2, s2, ok2⟩ := v
  simp only [] at h2 l2 ⊢
  have h3 := jnumber s2 ok2 (by omega)
  have l3 := num_len s2 ok2
  generalize num s2 ok2 = v at *
  obtain ⟨n3, s3, ok3⟩ := v
  simp only [] at h3 l3 ⊢
  have h4 := jnumber s3 ok3 (by omega)
  have l4 := num_len s3 ok3
  generalize num s3 ok3 = v at *
  obtain ⟨n4, s4, ok4⟩ := v
  simp only [] at h4 l4 ⊢
  have h5 := jnumber s4 ok4 (by omega)
  have l5 := num_len s4 ok4
  generalize num s4 ok4 = v at *
  obtain ⟨n5, s5, ok5⟩ := v
  simp only [] at h5 l5 ⊢
  have h6 := jnumber s5 ok5 (by omega)
  have l6 := num_len s5 ok5
  generalize num s5 ok5 = v at *
  obtain ⟨n6, s6, ok6⟩ := v
  simp only [] at h6 l6 ⊢
  have h7 := jnumber s6 ok6 (by omega)
  have l7 := num_len s6 ok6
  generalize num s6 ok6 = v at *
  obtain ⟨n7, s7, ok7⟩ := v
  simp only [] at h7 l7 ⊢
  have h8 := jnumber s7 ok7 (by omega)
  have l8 := num_len s7 ok7
  generalize num s7 ok7 = v at *
  obtain ⟨n8, s8, ok8⟩ := v
  simp only [] at h8 l8 ⊢
  have h9 := jnumber s8 ok8 (by omega)
  have l9 := num_len s8 ok8
  generalize num s8 ok8 = v at *
  obtain ⟨n9, s9, ok9⟩ := v
  simp only [] at h9 l9 ⊢
  have h10 := jnumber s9 ok9 (by omega)
  have l10 := num_len s9 ok9
  generalize num s9 ok9 = v at *
  obtain ⟨n10, s10, ok10⟩ := v
  simp only [] at h10 l10 ⊢
  clear l0 l1 l2 l3 l4 l5 l6 l7 l8 l9 l10
  simp only [decR]
  apply f52
  simp -implicitDefEqProofs [h0, h1, run_idx9]
  apply oL52x7
  simp -implicitDefEqProofs [h2, pickM, w1]
  apply oL52x7
  simp -implicitDefEqProofs [h3, pickM, w2]
  apply oL52x7
  simp -implicitDefEqProofs [h4, pickM, w3]
  apply oL52x7
  simp -implicitDefEqProofs [h5, pickM, w4]
  apply oL52x7
  simp -implicitDefEqProofs [h6, pickM, w5]
  apply oL52x7
  simp -implicitDefEqProofs [h7, pickM, w6]
  apply oL52x7
  simp -implicitDefEqProofs [h8, pickM, w7]
  apply oL52x7
  simp -implicitDefEqProofs [h9, pickM, w8]
  apply oL52x7
  simp -implicitDefEqProofs [h10, pickM, w9]
  apply oL52x7
  cases ok10 with
  | false => simp -implicitDefEqProofs
  | true =>
    by_cases c1 : s10 = []
    · by_cases c2 : n10 < 0
      · have c3 : ¬ 0 ≤ n10 := by omega
        simp -implicitDefEqProofs [c1, c2, c3]
      · have c3 : 0 ≤ n10 := by omega
        by_cases c4 : 1 < n10
        · have c5 : ¬ n10 ≤ 1 := by omega
          simp -implicitDefEqProofs [c1, c2, c3, c4, c5]
        · have c5 : n10 ≤ 1 := by omega
          simp -implicitDefEqProofs [c1, c2, c3, c4, c5]
    · simp -implicitDefEqProofs [c1]

theorem enc_loop (K : RK) (a : List PV) : ∀ (xs ys : List Int) (nl : Bool) (b : List UInt8), b.length + 10 * ys.length ≤ 100000 → xs.length + ys.length ≤ 100 →
    (K (.exit 0, [.undef, .undef, .undef, .slice (nl && ys.isEmpty) (bytesPV (b ++ encs ys))] ++ List.replicate 56 .undef) = some a) →
    WL53x9 (.slice nl (bytesPV b)) (.ptr []) (.slice false ((xs ++ ys).map (.int .i64))) (.int .i64 ((xs ++ ys).length : Nat)) (.int .i64 (xs.length : Nat)) K = some a
  | xs, [], nl, b, h1, h2, hK => by
    apply oL53x9
    have : ¬ ((xs.length : Int) < (((xs ++ []).length : Nat) : Int)) := by simp
    simp -implicitDefEqProofs [this]
    simpa [encs] using hK
  | xs, y :: ys, nl, b, h1, h2, hK => by
    have ih := enc_loop K a (xs ++ [y]) ys false (b ++ uvar (u64 y)) (by
      have := uvar_len 10 (u64 y) (by have := u64_lt y; omega) (by omega)
      simp at h1 ⊢; omega) (by simp at h2 ⊢; omega) (by
      simp only [Bool.false_and, List.append_assoc]
      simpa [encs] using hK)
    have hp := jput y nl b (by simp at h1; omega)
    have e1 : xs ++ [y] ++ ys = xs ++ y :: ys := by simp
    have e2 : (xs ++ [y]).length = xs.length + 1 := by simp
    rw [e1, e2] at ih
    have hl : (xs.length : Int) < (((xs ++ y :: ys).length : Nat) : Int) := by simp; omega
    have hl2 : xs.length < (((xs ++ y :: ys).map (PV.int .i64)).length) := by simp
    have hg : ∀ h : xs.length < ((xs ++ y :: ys).map (PV.int .i64)).length, ((xs ++ y :: ys).map (PV.int .i64))[xs.length]'h = .int .i64 y := by intro h; simp
    have hw : IntKind.i64.wrap ((xs.length : Int) + 1) = (xs.length : Int) + 1 := wrap_i64 (by omega) (by simp at h2; omega)
    rw [show ((xs.length + 1 : Nat) : Int) = (xs.length : Int) + 1 from rfl] at ih
    have hlm : (((xs ++ y :: ys).length : Nat) : Int) = ((((xs ++ y :: ys).map (PV.int .i64)).length : Nat) : Int) := by simp
    have hl3 : (xs.length : Int) < ((((xs ++ y :: ys).map (PV.int .i64)).length : Nat) : Int) := by simp; omega
    rw [hlm] at ih ⊢
    generalize (xs ++ y :: ys).map (PV.int .i64) = Z at *
    generalize xs.length = i at *
    apply oL53x9
    simp -implicitDefEqProofs [hp, hl3, hl2, hg, hw]
    exact ih

theorem jenc (k : Int) (name : List UInt8) (a b r l c g m p : Int) (up : Bool) (hn : name.length ≤ 90000) : Ans T 53 [manV k name a b r l c g m p up] = some [.str (encM ⟨k, name, [a, b, r, l, c, g, m, p], up⟩)] := by
  have u1 := uvar_len 10 (u64 k) (by have := u64_lt k; omega) (by omega)
  have u2 := uvar_len 10 (u64 (name.length : Int)) (by have := u64_lt (name.length : Int); omega) (by omega)
  have hnl := (u64_nat (n := name.length) (by omega)).1
  have h1 := jput k true [] (by simp)
  have h2 := jput (name.length : Int) false ([] ++ uvar (u64 k)) (by simp; omega)
  rw [hnl] at h2 u2
  have h3 : ([] ++ uvar (u64 k) ++ uvar name.length).length + name.length ≤ 140737488355328 := by simp; omega
  have hl := enc_loop (blockK 0 (seqK T B53x7 (endK [2]))) [.str (encM ⟨k, name, [a, b, r, l, c, g, m, p], up⟩)] [] ([a, b, r, l, c, g, m, p] ++ [if up then 1 else 0]) false ([] ++ uvar (u64 k) ++ uvar name.length ++ name) (by simp; omega) (by simp) (by
    have : [] ++ uvar (u64 k) ++ uvar name.length ++ name ++ encs ([a, b, r, l, c, g, m, p] ++ [if up = true then 1 else 0]) = encM ⟨k, name, [a, b, r, l, c, g, m, p], up⟩ := by simp [encM]
    rw [this]
    simp -implicitDefEqProofs)
  have happ : ∀ x y : List UInt8, bytesPV (x ++ y) = bytesPV x ++ bytesPV y := fun x y => by simp [bytesPV]
  apply f53
  cases up with
  | true =>
    simp -implicitDefEqProofs at h1 h2 h3 hl
    rw [show uvar (u64 k) ++ (uvar name.length ++ name) = (uvar (u64 k) ++ uvar name.length) ++ name by simp, happ] at hl
    simp -implicitDefEqProofs [h1, h2, h3]
    exact hl
  | false =>
    simp -implicitDefEqProofs at h1 h2 h3 hl
    rw [show uvar (u64 k) ++ (uvar name.length ++ name) = (uvar (u64 k) ++ uvar name.length) ++ name by simp, happ] at hl
    simp -implicitDefEqProofs [h1, h2, h3]
    exact hl
end Go.Proofs.Ytaldhebldjphbaa

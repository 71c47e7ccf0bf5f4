/-
  The law JournalCodes: what its functions compute, and that it answers true.
  Conditions: none.
-/
import Derived.Test.YtaldhebldjphbaaJrn5
import Derived.Test.YtaldhebldjphbaaVmF
namespace Go.Proofs.Ytaldhebldjphbaa
open Go.Vm
set_option maxRecDepth 100000
set_option linter.unusedSimpArgs false

theorem put_loop (K : RK) (a : List PV) : ∀ (m x : Nat) (nl : Bool) (p : List UInt8), x < 128 ^ (m + 1) → x < 18446744073709551616 → p.length + m ≤ 1000 →
    (∀ nl' y q, y < 128 → q.length ≤ 1000 → q ++ [UInt8.ofNat y] = p ++ uvar x → K (.exit 0, [.int .u64 (y : Nat), .undef, .undef, .slice nl' (bytesPV q)] ++ List.replicate 16 .undef) = some a) → WL66x2 (.int .u64 x) (.slice nl (bytesPV p)) K = some a
  | m, x, nl, p, hx, h64, hp, hK => by
    by_cases h : x < 128
    · have hu : uvar x = [UInt8.ofNat x] := by unfold uvar; rw [dif_pos h]
      have h1 : ¬ (128 : Int) ≤ (x : Int) := by omega
      apply oL66x2
      simp -implicitDefEqProofs [h1]
      simpa using hK nl x p h (by omega) (by rw [hu])
    · have hu : uvar x = UInt8.ofNat (x % 128 + 128) :: uvar (x / 128) := by
        conv => lhs; unfold uvar
        rw [dif_neg h]
      cases m with
      | zero => simp at hx; omega
      | succ m =>
        have h1 : (128 : Int) ≤ (x : Int) := by omega
        have h2 : p.length ≤ 140737488355327 := by omega
        have h3 : (x : Int).fdiv (2 ^ (min 7 IntKind.u64.bits)) = ((x / 128 : Nat) : Int) := by
          rw [Int.fdiv_eq_ediv_of_nonneg _ (by decide)]
          rw [show (2 : Int) ^ (min 7 IntKind.u64.bits) = 128 by decide]; omega
        have ht : (((UInt8.ofNat (x % 128 + 128)).toNat : Nat) : Int) = ((x % 128 + 128 : Nat) : Int) := by
          have : (UInt8.ofNat (x % 128 + 128)).toNat = x % 128 + 128 := by simp; omega
          rw [this]
        have hb : bytesPV p ++ [PV.int .u8 ((x % 128 + 128 : Nat) : Int)] = bytesPV (p ++ [UInt8.ofNat (x % 128 + 128)]) := by rw [bytesPV_append, bytesPV_cons, ht]; rfl
        have hx2 : x / 128 < 128 ^ (m + 1) := by
          rw [Nat.pow_succ] at hx
          exact Nat.div_lt_of_lt_mul (by rw [Nat.mul_comm]; exact hx)
        have ih := put_loop K a m (x / 128) false (p ++ [UInt8.ofNat (x % 128 + 128)]) hx2 (by omega) (by simp; omega) (fun nl' y q hy hq he => hK nl' y q hy hq (by rw [he, hu]; simp))
        have ht8 := top8 x
        have hw := wrap_u8 x
        generalize x % 128 + 128 = v at *
        generalize x % 256 = v2 at *
        generalize x / 128 = w at *
        apply oL66x2
        simp -implicitDefEqProofs [h1, hw, ht8, h2, h3, hb]
        exact ih
theorem PutUvarint (x : Nat) (h : x < 18446744073709551616) : Ans T 66 [.int .u64 x] = some [.str (uvar x)] := by
  apply f66
  simp -implicitDefEqProofs
  refine put_loop _ _ 9 x true [] (by omega) h (by simp) fun nl' y q hy hq he => ?_
  have h1 : q.length ≤ 140737488355327 := by omega
  have h2 : IntKind.u8.wrap (y : Int) = (((UInt8.ofNat y).toNat : Nat) : Int) := by
    have : (UInt8.ofNat y).toNat = y := by simp; omega
    rw [this]; exact wrap_u8_id (by omega) (by omega)
  have h3 : unbytes (bytesPV q ++ [PV.int .u8 (((UInt8.ofNat y).toNat : Nat) : Int)]) = some (uvar x) := by
    have := unbytes_bytesPV (q ++ [UInt8.ofNat y])
    rw [bytesPV_append, bytesPV_cons, bytesPV_nil, he] at this
    simpa using this
  generalize ((UInt8.ofNat y).toNat : Nat) = v at *
  simp -implicitDefEqProofs [lB66x1, h1, h2, h3]

theorem unvar_loop (s : List UInt8) (hs : s.length ≤ 140737488351232) (K : RK) (a : List PV)
    (R : Nat × Nat × Bool) (hr : K (.ret, [.undef, .undef, .int .u64 (R.1 : Nat), .int .i64 (R.2.1 : Nat), .bool R.2.2] ++ List.replicate 38 .undef) = some a)
    (he : R = (0, 0, false) → K (.exit 0, List.replicate 43 .undef) = some a) : ∀ (m i acc : Nat), i + m = min s.length 10 → acc < 2 ^ (7 * i) → unvar i acc (s.drop i) = R → WL63x2 (.str s) (.int .u64 acc) (.int .i64 (min s.length 10 : Nat)) (.int .i64 i) K = some a
  | 0, i, acc, hi, ha, hu => by
    have h1 : ¬ (i : Int) < ((min s.length 10 : Nat) : Int) := by omega
    have h2 : unvar i acc (s.drop i) = (0, 0, false) := by
      rcases Nat.lt_or_ge i 10 with h | h
      · rw [List.drop_eq_nil_of_le (by omega)]; rfl
      · cases hd : s.drop i with
        | nil => rfl
        | cons b t => unfold unvar; rw [if_neg (by omega)]
    have he := he (by rw [← hu, h2])
    generalize (min s.length 10 : Nat) = z at *
    apply oL63x2
    simp -implicitDefEqProofs [h1]
    simpa using he
  | m + 1, i, acc, hi, ha, hu => by
    have h1 : (i : Int) < ((min s.length 10 : Nat) : Int) := by omega
    have hlt : i < s.length := by omega
    have hd : s.drop i = s[i] :: s.drop (i + 1) := List.drop_eq_getElem_cons hlt
    have hg : s[i]? = some s[i] := List.getElem?_eq_getElem hlt
    have h0 : (0 : Int) ≤ (i : Int) := by omega
    have h6 : IntKind.i64.wrap ((i : Int) + 1) = ((i + 1 : Nat) : Int) := wrap_i64 (by omega) (by omega)
    have h7 : IntKind.i64.wrap (7 * (i : Int)) = ((7 * i : Nat) : Int) := by rw [wrap_i64 (by omega) (by omega)]; omega
    rw [hd] at hu
    generalize s[i] = b at *
    have hb := b.toNat_lt
    unfold unvar at hu
    rw [if_pos (by omega)] at hu
    by_cases h9 : i = 9 ∧ 1 < b.toNat
    · rw [if_pos h9] at hu
      subst hu
      obtain ⟨rfl, h9⟩ := h9
      have h9' : (1 : Int) < (b.toNat : Int) := by omega
      generalize hzz : (min s.length 10 : Nat) = z at *
      have h1' : (9 : Int) < (z : Int) := by omega
      apply oL63x2
      simp -implicitDefEqProofs [h1', hg, h9']
      simpa using hr
    · rw [if_neg h9] at hu
      have hv : b.toNat % 128 < 128 := Nat.mod_lt _ (by decide)
      have hpow : 2 ^ (7 * i) * 128 = 2 ^ (7 * (i + 1)) := by rw [show 7 * (i + 1) = 7 * i + 7 by omega, Nat.pow_add]
      have hacc : acc + b.toNat % 128 * 2 ^ (7 * i) < 2 ^ (7 * (i + 1)) := by
        have : b.toNat % 128 * 2 ^ (7 * i) ≤ 127 * 2 ^ (7 * i) := Nat.mul_le_mul_right _ (by omega)
        omega
      have hbig : b.toNat % 128 * 2 ^ (7 * i) < 18446744073709551616 := by
        by_cases h : i = 9
        · subst h
          have : b.toNat % 128 ≤ 1 := by omega
          have h2 : b.toNat % 128 * 2 ^ (7 * 9) ≤ 1 * 2 ^ (7 * 9) := Nat.mul_le_mul_right _ this
          omega
        · have : 2 ^ (7 * (i + 1)) ≤ 2 ^ 63 := Nat.pow_le_pow_right (by decide) (by omega)
          omega
      have hacc64 : acc < 18446744073709551616 := by
        have : 2 ^ (7 * i) ≤ 2 ^ 63 := Nat.pow_le_pow_right (by decide) (by omega)
        omega
      have e1 : IntKind.u64.wrap ((b.toNat % 128 : Nat) : Int) = ((b.toNat % 128 : Nat) : Int) := wrap_u64_id (by omega) (by omega)
      have e2 : IntKind.u64.wrap (((b.toNat % 128 : Nat) : Int) * 2 ^ (min (7 * i) IntKind.u64.bits)) = ((b.toNat % 128 * 2 ^ (7 * i) : Nat) : Int) := by
        have hm : min (7 * i) IntKind.u64.bits = 7 * i := by simp [IntKind.bits]; omega
        rw [hm]
        rw [show ((b.toNat % 128 : Nat) : Int) * 2 ^ (7 * i) = ((b.toNat % 128 * 2 ^ (7 * i) : Nat) : Int) by simp]
        exact wrap_u64_id (Int.natCast_nonneg _) (Int.ofNat_lt.2 hbig)
      have e3 : bitsI (fun _ x y => x ||| y) .u64 (acc : Int) ((b.toNat % 128 * 2 ^ (7 * i) : Nat) : Int) = ((acc + b.toNat % 128 * 2 ^ (7 * i) : Nat) : Int) := by
        rw [or64 hacc64 hbig]
        have := Nat.two_pow_add_eq_or_of_lt ha (b.toNat % 128)
        rw [Nat.or_comm, Nat.mul_comm, ← this, Nat.mul_comm, Nat.add_comm]
      have e4 := low7 b
      have h9b : ¬ ((i : Int) = 9 ∧ (1 : Int) < (b.toNat : Int)) := by omega
      have e5 : ¬ ((7 * i : Nat) : Int) < 0 := by omega
      have e6 : ((7 * i : Nat) : Int).toNat = 7 * i := by omega
      have e7 : ((7 * i : Nat) : Int) = 7 * (i : Int) := by omega
      have hz10 : (min s.length 10 : Nat) ≤ 10 := by omega
      have h9c : ¬ (i = 9 ∧ (1 : Int) < (b.toNat : Int)) := by omega
      generalize hzz : (min s.length 10 : Nat) = z at *
      have h6' : IntKind.i64.wrap ((i : Int) + 1) = (i : Int) + 1 := by rw [h6]; omega
      -- whether it is the tenth byte
      obtain ⟨b9, hb9, hb1⟩ : ∃ b9 : Bool, decide ((i : Int) = 9) = b9 ∧ (b9 = true → ¬ (1 : Int) < (b.toNat : Int)) := ⟨_, rfl, fun h => by simp at h; omega⟩
      by_cases h128 : b.toNat < 128
      · rw [if_pos h128] at hu
        have hb128 : (b.toNat : Int) < 128 := by omega
        obtain ⟨b0, hb0, hbp⟩ : ∃ b0 : Bool, decide (b.toNat = 0) = b0 ∧ (b0 = true ↔ b.toNat = 0) := ⟨_, rfl, by simp⟩
        generalize acc + b.toNat % 128 * 2 ^ (7 * i) = acc2 at *
        generalize b.toNat % 128 * 2 ^ (7 * i) = sh at *
        generalize b.toNat % 128 = lo at *
        generalize 7 * i = i7 at *
        by_cases hz : b.toNat = 0 ∧ 0 < i
        · rw [if_pos hz] at hu
          subst hu
          have hz2 : 0 < i := hz.2
          have hb0t : b0 = true := hbp.2 hz.1
          subst hb0t
          apply oL63x2
          cases b9 with
          | true =>
            have hb1 := hb1 rfl
            simp -implicitDefEqProofs [h1, hg, hb9, hb1, h0, h6', h7, e1, e2, e3, e4, e5, hb128, hb0, hz2]
            simpa using hr
          | false =>
            simp -implicitDefEqProofs [h1, hg, hb9, h0, h6', h7, e1, e2, e3, e4, e5, hb128, hb0, hz2]
            simpa using hr
        · rw [if_neg hz] at hu
          subst hu
          apply oL63x2
          cases b0 with
          | true =>
            have hz2 : ¬ 0 < i := by have := hbp.1 rfl; omega
            have hz3 : i = 0 := by omega
            cases b9 with
            | true => simp at hb9; omega
            | false =>
              simp -implicitDefEqProofs [h1, hg, hb9, h0, h6', h7, e1, e2, e3, e4, e5, hb128, hb0, hz2]
              simpa using hr
          | false =>
            cases b9 with
            | true =>
              have hb1 := hb1 rfl
              simp -implicitDefEqProofs [h1, hg, hb9, hb1, h0, h6', h7, e1, e2, e3, e4, e5, hb128, hb0]
              simpa using hr
            | false =>
              simp -implicitDefEqProofs [h1, hg, hb9, h0, h6', h7, e1, e2, e3, e4, e5, hb128, hb0]
              simpa using hr
      · rw [if_neg h128] at hu
        have hb128 : ¬ (b.toNat : Int) < 128 := by omega
        have ih := unvar_loop s hs K a R hr he m (i + 1) _ (by omega) hacc hu
        rw [hzz] at ih
        generalize acc + b.toNat % 128 * 2 ^ (7 * i) = acc2 at *
        generalize b.toNat % 128 * 2 ^ (7 * i) = sh at *
        generalize b.toNat % 128 = lo at *
        generalize 7 * i = i7 at *
        apply oL63x2
        cases b9 with
        | true =>
          have hb1 := hb1 rfl
          simp -implicitDefEqProofs [h1, hg, hb9, hb1, h0, h6', h7, e1, e2, e3, e4, e5, hb128]
          exact ih
        | false =>
          simp -implicitDefEqProofs [h1, hg, hb9, h0, h6', h7, e1, e2, e3, e4, e5, hb128]
          exact ih
theorem Uvarint (s : List UInt8) (hs : s.length ≤ 140737488351232) : Ans T 63 [.str s] = some [.int .u64 ((unvar 0 0 s).1 : Nat), .int .i64 ((unvar 0 0 s).2.1 : Nat), .bool (unvar 0 0 s).2.2] := by
  apply f63
  have h1 : (if (10 : Int) < (s.length : Int) then (10 : Int) else (s.length : Int)) = ((min s.length 10 : Nat) : Int) := by split <;> omega
  have hl := unvar_loop s hs (blockK 0 (seqK T B63x1 (endK [2, 3, 4]))) (R := unvar 0 0 s) (a := [.int .u64 ((unvar 0 0 s).1 : Nat), .int .i64 ((unvar 0 0 s).2.1 : Nat), .bool (unvar 0 0 s).2.2]) (by simp -implicitDefEqProofs) (fun h => by rw [h]; simp -implicitDefEqProofs [lB63x1]) (min s.length 10) 0 0 (by omega) (by simp) (by simp)
  generalize (min s.length 10 : Nat) = z at *
  simp -implicitDefEqProofs [h1]
  exact hl
end Go.Proofs.Ytaldhebldjphbaa

/-
  The law EventlogOpens: what its functions compute, and that it answers true.
  Conditions: none.
-/
import Derived.Test.YtaldhebldjphbaaEvo4
import Derived.Test.YtaldhebldjphbaaVmF
namespace Go.Proofs.Ytaldhebldjphbaa
open Go.Vm
set_option maxRecDepth 100000
set_option linter.unusedSimpArgs false

theorem rput_loop (K : RK) (a : List PV) : ∀ (m x : Nat) (nl : Bool) (p : List UInt8), x < 128 ^ (m + 1) → x < 18446744073709551616 → p.length + m ≤ 1000 →
    (∀ nl' y q, y < 128 → q.length ≤ 1000 → q ++ [UInt8.ofNat y] = p ++ uvar x → K (.exit 0, [.int .u64 (y : Nat), .undef, .undef, .slice nl' (bytesPV q)] ++ List.replicate 17 .undef) = some a) → WL67x2 (.int .u64 x) (.slice nl (bytesPV p)) K = some a
  | m, x, nl, p, hx, h64, hp, hK => by
    by_cases h : x < 128
    · have hu : uvar x = [UInt8.ofNat x] := by unfold uvar; rw [dif_pos h]
      have h1 : ¬ (128 : Int) ≤ (x : Int) := by omega
      apply oL67x2
      simp -implicitDefEqProofs [h1]
      simpa using hK nl x p h (by omega) (by rw [hu])
    · have hu : uvar x = UInt8.ofNat (x % 128 + 128) :: uvar (x / 128) := by
        conv => lhs; unfold uvar
        rw [dif_neg h]
      cases m with
      | zero => simp at hx; omega
      | succ m =>
        have h1 : (128 : Int) ≤ (x : Int) := by omega
        have h2 : p.length ≤ 140737488355327 := by omega
        have h3 : (x : Int).fdiv (2 ^ (min 7 IntKind.u64.bits)) = ((x / 128 : Nat) : Int) := by
          rw [Int.fdiv_eq_ediv_of_nonneg _ (by decide)]
          rw [show (2 : Int) ^ (min 7 IntKind.u64.bits) = 128 by decide]; omega
        have ht : (((UInt8.ofNat (x % 128 + 128)).toNat : Nat) : Int) = ((x % 128 + 128 : Nat) : Int) := by
          have : (UInt8.ofNat (x % 128 + 128)).toNat = x % 128 + 128 := by simp; omega
          rw [this]
        have hb : bytesPV p ++ [PV.int .u8 ((x % 128 + 128 : Nat) : Int)] = bytesPV (p ++ [UInt8.ofNat (x % 128 + 128)]) := by rw [bytesPV_append, bytesPV_cons, ht]; rfl
        have hx2 : x / 128 < 128 ^ (m + 1) := by
          rw [Nat.pow_succ] at hx
          exact Nat.div_lt_of_lt_mul (by rw [Nat.mul_comm]; exact hx)
        have ih := rput_loop K a m (x / 128) false (p ++ [UInt8.ofNat (x % 128 + 128)]) hx2 (by omega) (by simp; omega) (fun nl' y q hy hq he => hK nl' y q hy hq (by rw [he, hu]; simp))
        have ht8 := top8m x
        have hl7 := low7x h64
        have hw : IntKind.u8.wrap ((x % 128 : Nat) : Int) = ((x % 128 : Nat) : Int) := wrap_u8_id (by omega) (by omega)
        generalize x % 128 + 128 = v at *
        generalize x % 128 = v2 at *
        generalize x / 128 = w at *
        apply oL67x2
        simp -implicitDefEqProofs [h1, hw, hl7, ht8, h2, h3, hb]
        exact ih
theorem rPutUvarint (x : Nat) (h : x < 18446744073709551616) : Ans T 67 [.int .u64 x] = some [.str (uvar x)] := by
  apply f67
  simp -implicitDefEqProofs
  refine rput_loop _ _ 9 x true [] (by omega) h (by simp) fun nl' y q hy hq he => ?_
  have h1 : q.length ≤ 140737488355327 := by omega
  have h2 : IntKind.u8.wrap (y : Int) = (((UInt8.ofNat y).toNat : Nat) : Int) := by
    have : (UInt8.ofNat y).toNat = y := by simp; omega
    rw [this]; exact wrap_u8_id (by omega) (by omega)
  have h3 : unbytes (bytesPV q ++ [PV.int .u8 (((UInt8.ofNat y).toNat : Nat) : Int)]) = some (uvar x) := by
    have := unbytes_bytesPV (q ++ [UInt8.ofNat y])
    rw [bytesPV_append, bytesPV_cons, bytesPV_nil, he] at this
    simpa using this
  generalize ((UInt8.ofNat y).toNat : Nat) = v at *
  simp -implicitDefEqProofs [lB67x1, h1, h2, h3]

theorem rhash_loop (s : List UInt8) (hs : s.length ≤ 140737488351232) (K : RK) (a : List PV) : ∀ (m i h : Nat), i + m = s.length → h < 18446744073709551616 →
    K (.exit 0, [.int .u64 (fnv h (s.drop i) : Nat)] ++ List.replicate 19 .undef) = some a → WL76x2 (.int .u64 h) (.str s) (.int .i64 i) K = some a
  | 0, i, h, hi, hh, hK => by
    have h1 : ¬ (i : Int) < (s.length : Int) := by omega
    have hd : s.drop i = [] := List.drop_eq_nil_of_le (by omega)
    rw [hd] at hK
    apply oL76x2
    simp -implicitDefEqProofs [h1]
    simpa [fnv] using hK
  | m + 1, i, h, hi, hh, hK => by
    have h1 : (i : Int) < (s.length : Int) := by omega
    have hlt : i < s.length := by omega
    have h0 : (0 : Int) ≤ (i : Int) := by omega
    have hd : s.drop i = s[i] :: s.drop (i + 1) := List.drop_eq_getElem_cons hlt
    have hg : s[i]? = some s[i] := List.getElem?_eq_getElem hlt
    rw [hd, fnv_cons] at hK
    generalize s[i] = b at *
    have hb := b.toNat_lt
    have h6 : IntKind.i64.wrap ((i : Int) + 1) = (i : Int) + 1 := wrap_i64 (by omega) (by omega)
    have e1 : IntKind.u64.wrap (b.toNat : Int) = (b.toNat : Int) := wrap_u64_id (by omega) (by omega)
    have e2 := xor64 (a := h) (b := b.toNat) hh (by omega)
    have e3 : IntKind.u64.wrap (((h ^^^ b.toNat : Nat) : Int) * 1099511628211) = (((h ^^^ b.toNat) * 1099511628211 % 18446744073709551616 : Nat) : Int) := by rw [wrap_u64]; simp
    have hlt2 : (h ^^^ b.toNat) * 1099511628211 % 18446744073709551616 < 18446744073709551616 := Nat.mod_lt _ (by decide)
    have ih := rhash_loop s hs K a m (i + 1) _ (by omega) hlt2 hK
    generalize (h ^^^ b.toNat) * 1099511628211 % 18446744073709551616 = h2 at *
    generalize h ^^^ b.toNat = x at *
    apply oL76x2
    simp -implicitDefEqProofs [h1, h0, hg, h6, e1, e2, e3]
    exact ih
theorem rHash (h : Nat) (s : List UInt8) (hh : h < 18446744073709551616) (hs : s.length ≤ 140737488351232) : Ans T 76 [.int .u64 h, .str s] = some [.int .u64 (fnv h s : Nat)] := by
  apply f76
  have := rhash_loop s hs (blockK 0 (seqK T B76x1 (endK [4]))) [.int .u64 (fnv h s : Nat)] s.length 0 h (by omega) hh (by simp -implicitDefEqProofs [lB76x1])
  simp -implicitDefEqProofs
  exact this

theorem runvar_loop (s : List UInt8) (hs : s.length ≤ 140737488351232) (K : RK) (a : List PV)
    (R : Nat × Nat × Bool) (hr : K (.ret, [.undef, .undef, .int .u64 (R.1 : Nat), .int .i64 (R.2.1 : Nat), .bool R.2.2] ++ List.replicate 42 .undef) = some a)
    (he : R = (0, 0, false) → K (.exit 0, List.replicate 47 .undef) = some a) : ∀ (m i acc : Nat), i + m = min s.length 10 → acc < 2 ^ (7 * i) → unvar i acc (s.drop i) = R → WL90x2 (.str s) (.int .u64 acc) (.int .i64 i) K = some a
  | 0, i, acc, hi, ha, hu => by
    have h2 : unvar i acc (s.drop i) = (0, 0, false) := by
      rcases Nat.lt_or_ge i 10 with h | h
      · rw [List.drop_eq_nil_of_le (by omega)]; rfl
      · cases hd : s.drop i with
        | nil => rfl
        | cons b t => unfold unvar; rw [if_neg (by omega)]
    have he := he (by rw [← hu, h2])
    by_cases h3 : i < s.length
    · have h1 : ¬ (i : Int) < 10 := by omega
      have h3' : (i : Int) < (s.length : Int) := by omega
      apply oL90x2
      simp -implicitDefEqProofs [h1, h3, h3']
      simpa using he
    · have h3' : ¬ (i : Int) < (s.length : Int) := by omega
      apply oL90x2
      simp -implicitDefEqProofs [h3, h3']
      simpa using he
  | m + 1, i, acc, hi, ha, hu => by
    have h1 : (i : Int) < (s.length : Int) := by omega
    have h10 : (i : Int) < 10 := by omega
    have hlt : i < s.length := by omega
    have hd : s.drop i = s[i] :: s.drop (i + 1) := List.drop_eq_getElem_cons hlt
    have hg : s[i]? = some s[i] := List.getElem?_eq_getElem hlt
    have h0 : (0 : Int) ≤ (i : Int) := by omega
    have h6 : IntKind.i64.wrap ((i : Int) + 1) = (i : Int) + 1 := wrap_i64 (by omega) (by omega)
    have h7 : IntKind.i64.wrap (7 * (i : Int)) = ((7 * i : Nat) : Int) := by rw [wrap_i64 (by omega) (by omega)]; omega
    have h7b : IntKind.u64.wrap ((7 * i : Nat) : Int) = ((7 * i : Nat) : Int) := wrap_u64_id (by omega) (by omega)
    rw [hd] at hu
    generalize s[i] = b at *
    have hb := b.toNat_lt
    have hw8 : IntKind.u64.wrap (b.toNat : Int) = (b.toNat : Int) := wrap_u64_id (by omega) (by omega)
    unfold unvar at hu
    rw [if_pos (by omega)] at hu
    by_cases h9 : i = 9 ∧ 1 < b.toNat
    · rw [if_pos h9] at hu
      subst hu
      obtain ⟨rfl, h9⟩ := h9
      have h9' : (1 : Int) < (b.toNat : Int) := by omega
      have h1' : (9 : Int) < (s.length : Int) := by omega
      apply oL90x2
      simp -implicitDefEqProofs [h1', hg, h9', hw8]
      simpa using hr
    · rw [if_neg h9] at hu
      have hv : b.toNat % 128 < 128 := Nat.mod_lt _ (by decide)
      have hpow : 2 ^ (7 * i) * 128 = 2 ^ (7 * (i + 1)) := by rw [show 7 * (i + 1) = 7 * i + 7 by omega, Nat.pow_add]
      have hacc : acc + b.toNat % 128 * 2 ^ (7 * i) < 2 ^ (7 * (i + 1)) := by
        have : b.toNat % 128 * 2 ^ (7 * i) ≤ 127 * 2 ^ (7 * i) := Nat.mul_le_mul_right _ (by omega)
        omega
      have hbig : b.toNat % 128 * 2 ^ (7 * i) < 18446744073709551616 := by
        by_cases h : i = 9
        · subst h
          have : b.toNat % 128 ≤ 1 := by omega
          have h2 : b.toNat % 128 * 2 ^ (7 * 9) ≤ 1 * 2 ^ (7 * 9) := Nat.mul_le_mul_right _ this
          omega
        · have : 2 ^ (7 * (i + 1)) ≤ 2 ^ 63 := Nat.pow_le_pow_right (by decide) (by omega)
          omega
      have hacc64 : acc < 18446744073709551616 := by
        have : 2 ^ (7 * i) ≤ 2 ^ 63 := Nat.pow_le_pow_right (by decide) (by omega)
        omega
      have e2 : IntKind.u64.wrap (((b.toNat % 128 : Nat) : Int) * 2 ^ (min (7 * i) IntKind.u64.bits)) = ((b.toNat % 128 * 2 ^ (7 * i) : Nat) : Int) := by
        have hm : min (7 * i) IntKind.u64.bits = 7 * i := by simp [IntKind.bits]; omega
        rw [hm]
        rw [show ((b.toNat % 128 : Nat) : Int) * 2 ^ (7 * i) = ((b.toNat % 128 * 2 ^ (7 * i) : Nat) : Int) by simp]
        exact wrap_u64_id (Int.natCast_nonneg _) (Int.ofNat_lt.2 hbig)
      have e3 : bitsI (fun _ x y => x ||| y) .u64 (acc : Int) ((b.toNat % 128 * 2 ^ (7 * i) : Nat) : Int) = ((acc + b.toNat % 128 * 2 ^ (7 * i) : Nat) : Int) := by
        rw [or64 hacc64 hbig]
        have := Nat.two_pow_add_eq_or_of_lt ha (b.toNat % 128)
        rw [Nat.or_comm, Nat.mul_comm, ← this, Nat.mul_comm, Nat.add_comm]
      have e4 := low7u b
      have e5 : ¬ ((7 * i : Nat) : Int) < 0 := by omega
      obtain ⟨b9, hb9, hb1⟩ : ∃ b9 : Bool, decide ((i : Int) = 9) = b9 ∧ (b9 = true → ¬ (1 : Int) < (b.toNat : Int)) := ⟨_, rfl, fun h => by simp at h; omega⟩
      by_cases h128 : b.toNat < 128
      · rw [if_pos h128] at hu
        have hb128 : (b.toNat : Int) < 128 := by omega
        obtain ⟨b0, hb0, hbp⟩ : ∃ b0 : Bool, decide (b.toNat = 0) = b0 ∧ (b0 = true ↔ b.toNat = 0) := ⟨_, rfl, by simp⟩
        generalize acc + b.toNat % 128 * 2 ^ (7 * i) = acc2 at *
        generalize b.toNat % 128 * 2 ^ (7 * i) = sh at *
        generalize b.toNat % 128 = lo at *
        generalize 7 * i = i7 at *
        by_cases hz : b.toNat = 0 ∧ 0 < i
        · rw [if_pos hz] at hu
          subst hu
          have hz2 : 0 < i := hz.2
          have hb0t : b0 = true := hbp.2 hz.1
          subst hb0t
          apply oL90x2
          cases b9 with
          | true =>
            have hb1 := hb1 rfl
            simp -implicitDefEqProofs [h1, h10, hg, hw8, hb9, hb1, h0, h6, h7, h7b, e2, e3, e4, e5, hb128, hb0, hz2]
            simpa using hr
          | false =>
            simp -implicitDefEqProofs [h1, h10, hg, hw8, hb9, h0, h6, h7, h7b, e2, e3, e4, e5, hb128, hb0, hz2]
            simpa using hr
        · rw [if_neg hz] at hu
          subst hu
          have hz0 : decide (0 < i) = true → b0 = false := fun h => by
            simp at h
            cases b0 with
            | true => exact absurd ⟨hbp.1 rfl, h⟩ hz
            | false => rfl
          obtain ⟨bz, hbz⟩ : ∃ bz : Bool, decide (0 < i) = bz := ⟨_, rfl⟩
          rw [hbz] at hz0
          apply oL90x2
          cases b9 with
          | true =>
            have hb1 := hb1 rfl
            cases bz with
            | true =>
              have hz0 := hz0 rfl
              subst hz0
              simp -implicitDefEqProofs [h1, h10, hg, hw8, hb9, hb1, h0, h6, h7, h7b, e2, e3, e4, e5, hb128, hb0, hbz]
              simpa using hr
            | false => simp at hb9 hbz; omega
          | false =>
            cases bz with
            | true =>
              have hz0 := hz0 rfl
              subst hz0
              simp -implicitDefEqProofs [h1, h10, hg, hw8, hb9, h0, h6, h7, h7b, e2, e3, e4, e5, hb128, hb0, hbz]
              simpa using hr
            | false =>
              simp -implicitDefEqProofs [h1, h10, hg, hw8, hb9, h0, h6, h7, h7b, e2, e3, e4, e5, hb128, hb0, hbz]
              simpa using hr
      · rw [if_neg h128] at hu
        have hb128 : ¬ (b.toNat : Int) < 128 := by omega
        have ih := runvar_loop s hs K a R hr he m (i + 1) _ (by omega) hacc hu
        generalize acc + b.toNat % 128 * 2 ^ (7 * i) = acc2 at *
        generalize b.toNat % 128 * 2 ^ (7 * i) = sh at *
        generalize b.toNat % 128 = lo at *
        generalize 7 * i = i7 at *
        apply oL90x2
        cases b9 with
        | true =>
          have hb1 := hb1 rfl
          simp -implicitDefEqProofs [h1, h10, hg, hw8, hb9, hb1, h0, h6, h7, h7b, e2, e3, e4, e5, hb128]
          exact ih
        | false =>
          simp -implicitDefEqProofs [h1, h10, hg, hw8, hb9, h0, h6, h7, h7b, e2, e3, e4, e5, hb128]
          exact ih
theorem rUvarint (s : List UInt8) (hs : s.length ≤ 140737488351232) : Ans T 90 [.str s] = some [.int .u64 ((unvar 0 0 s).1 : Nat), .int .i64 ((unvar 0 0 s).2.1 : Nat), .bool (unvar 0 0 s).2.2] := by
  apply f90
  have hl := runvar_loop s hs (blockK 0 (seqK T B90x1 (endK [2, 3, 4]))) (R := unvar 0 0 s) (a := [.int .u64 ((unvar 0 0 s).1 : Nat), .int .i64 ((unvar 0 0 s).2.1 : Nat), .bool (unvar 0 0 s).2.2]) (by simp -implicitDefEqProofs) (fun h => by rw [h]; simp -implicitDefEqProofs [lB90x1]) (min s.length 10) 0 0 (by omega) (by simp) (by simp)
  simp -implicitDefEqProofs
  exact hl

theorem eight_loop (h : Nat) (K : RK) (a : List PV) (hK : K (.exit 0, [.undef, .undef, .undef, .slice false (bytesPV ((List.range 8).map (byteAt h)))] ++ List.replicate 15 .undef) = some a) : ∀ (m i : Nat) (nl : Bool), i + m = 8 → (i = 8 → nl = false) → ∀ t : Int, t = 56 - 8 * (i : Int) →
    WL75x2 (.int .u64 h) (.slice nl (bytesPV ((List.range i).map (byteAt h)))) (.int .i64 t) K = some a
  | 0, i, nl, hi, hn, t, ht => by
    have h8 : i = 8 := by omega
    subst h8
    have := hn rfl
    subst this
    have h1 : ¬ (0 : Int) ≤ t := by omega
    apply oL75x2
    generalize (List.range 8).map (byteAt h) = l at *
    simp -implicitDefEqProofs [h1]
    simpa using hK
  | m + 1, i, nl, hi, hn, t, ht => by
    have h1 : (0 : Int) ≤ t := by omega
    have ih := eight_loop h K a hK m (i + 1) false (by omega) (fun _ => rfl) (t - 8) (by omega)
    have e0 : t = ((56 - 8 * i : Nat) : Int) := by omega
    have e1 : IntKind.u64.wrap ((56 - 8 * i : Nat) : Int) = ((56 - 8 * i : Nat) : Int) := wrap_u64_id (by omega) (by omega)
    have e2 : IntKind.i64.wrap (((56 - 8 * i : Nat) : Int) - 8) = ((56 - 8 * i : Nat) : Int) - 8 := wrap_i64 (by omega) (by omega)
    have hmin : min (56 - 8 * i) IntKind.u64.bits = 56 - 8 * i := by simp [IntKind.bits]; omega
    have e3 : (h : Int).fdiv (2 ^ (min (56 - 8 * i) IntKind.u64.bits)) = ((h / 2 ^ (56 - 8 * i) : Nat) : Int) := by
      rw [hmin, show (2 : Int) ^ (56 - 8 * i) = ((2 ^ (56 - 8 * i) : Nat) : Int) by simp, Int.fdiv_eq_ediv_of_nonneg _ (Int.natCast_nonneg _)]; simp
    have e4 : IntKind.u8.wrap ((h / 2 ^ (56 - 8 * i) : Nat) : Int) = ((byteAt h i).toNat : Int) := by rw [wrap_u8, byteAt_nat]
    have e5 : ¬ ((56 - 8 * i : Nat) : Int) < 0 := by omega
    have e6 : bytesPV ((List.range i).map (byteAt h)) ++ [.int .u8 ((byteAt h i).toNat : Int)] = bytesPV ((List.range (i + 1)).map (byteAt h)) := by
      rw [List.range_succ, List.map_append, bytesPV_append]; rfl
    have e7 : ((List.range i).map (byteAt h)).length ≤ 140737488355327 := by simp; omega
    subst e0
    generalize (List.range (i + 1)).map (byteAt h) = l2 at *
    generalize (List.range i).map (byteAt h) = l1 at *
    generalize byteAt h i = u at *
    generalize hsh : 56 - 8 * i = sh at *
    generalize h / 2 ^ sh = hd at *
    apply oL75x2
    simp -implicitDefEqProofs [h1, e1, e2, e3, e4, e5, e6, e7]
    exact ih
theorem eight (h : Nat) : Ans T 75 [.int .u64 h] = some [.str ((List.range 8).map (byteAt h))] := by
  apply f75
  have := eight_loop h (blockK 0 (seqK T B75x1 (endK [2]))) [.str ((List.range 8).map (byteAt h))] (by
    generalize (List.range 8).map (byteAt h) = l at *
    simp -implicitDefEqProofs [lB75x1]) 8 0 true (by omega) (fun h => by omega) 56 (by omega)
  simp -implicitDefEqProofs
  simpa using this
end Go.Proofs.Ytaldhebldjphbaa

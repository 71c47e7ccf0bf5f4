/-
  The law JournalCodes: what its functions compute, and that it answers true.
  Conditions: none.
-/
import Derived.Test.YtaldhebldjphbaaJrn6
namespace Go.Proofs.Ytaldhebldjphbaa
open Go.Vm
set_option maxRecDepth 100000
set_option linter.unusedSimpArgs false

theorem hash_loop (s : List UInt8) (hs : s.length ≤ 140737488351232) (K : RK) (a : List PV) : ∀ (m i h : Nat), i + m = s.length → h < 18446744073709551616 →
    K (.exit 0, [.int .u64 (fnv h (s.drop i) : Nat)] ++ List.replicate 19 .undef) = some a → WL94x2 (.int .u64 h) (.str s) (.int .i64 s.length) (.int .i64 i) K = some a
  | 0, i, h, hi, hh, hK => by
    have h1 : ¬ (i : Int) < (s.length : Int) := by omega
    have hd : s.drop i = [] := List.drop_eq_nil_of_le (by omega)
    rw [hd] at hK
    apply oL94x2
    simp -implicitDefEqProofs [h1]
    simpa [fnv] using hK
  | m + 1, i, h, hi, hh, hK => by
    have h1 : (i : Int) < (s.length : Int) := by omega
    have hlt : i < s.length := by omega
    have h0 : (0 : Int) ≤ (i : Int) := by omega
    have hd : s.drop i = s[i] :: s.drop (i + 1) := List.drop_eq_getElem_cons hlt
    have hg : s[i]? = some s[i] := List.getElem?_eq_getElem hlt
    rw [hd, fnv_cons] at hK
    generalize s[i] = b at *
    have hb := b.toNat_lt
    have h6 : IntKind.i64.wrap ((i : Int) + 1) = (i : Int) + 1 := wrap_i64 (by omega) (by omega)
    have e1 : IntKind.u64.wrap (b.toNat : Int) = (b.toNat : Int) := wrap_u64_id (by omega) (by omega)
    have e2 := xor64 (a := h) (b := b.toNat) hh (by omega)
    have e3 : IntKind.u64.wrap (((h ^^^ b.toNat : Nat) : Int) * 1099511628211) = (((h ^^^ b.toNat) * 1099511628211 % 18446744073709551616 : Nat) : Int) := by rw [wrap_u64]; simp
    have hlt2 : (h ^^^ b.toNat) * 1099511628211 % 18446744073709551616 < 18446744073709551616 := Nat.mod_lt _ (by decide)
    have ih := hash_loop s hs K a m (i + 1) _ (by omega) hlt2 hK
    generalize (h ^^^ b.toNat) * 1099511628211 % 18446744073709551616 = h2 at *
    generalize h ^^^ b.toNat = x at *
    apply oL94x2
    simp -implicitDefEqProofs [h1, h0, hg, h6, e1, e2, e3]
    exact ih
theorem Hash (h : Nat) (s : List UInt8) (hh : h < 18446744073709551616) (hs : s.length ≤ 140737488351232) : Ans T 94 [.int .u64 h, .str s] = some [.int .u64 (fnv h s : Nat)] := by
  apply f94
  have := hash_loop s hs (blockK 0 (seqK T B94x1 (endK [4]))) [.int .u64 (fnv h s : Nat)] s.length 0 h (by omega) hh (by simp -implicitDefEqProofs [lB94x1])
  simp -implicitDefEqProofs
  exact this

def byteAt (h i : Nat) : UInt8 := UInt8.ofNat (h / 2 ^ (56 - 8 * i) % 256)
theorem byteAt_nat (h i : Nat) : (byteAt h i).toNat = h / 2 ^ (56 - 8 * i) % 256 := by simp [byteAt]
theorem sum8_eq (s : List UInt8) : sum8 s = (List.range 8).map (byteAt (fnv hash0 s)) := rfl
theorem sum_loop (h : Nat) (K : RK) (a : List PV) (hK : K (.exit 0, [.undef, .undef, .undef, .undef, .slice false (bytesPV ((List.range 8).map (byteAt h)))] ++ List.replicate 21 .undef) = some a) : ∀ (m i : Nat) (l : List UInt8), i + m = 8 → l.length = 8 → l.take i = (List.range i).map (byteAt h) → WL72x2 (.int .u64 h) (.slice false (bytesPV l)) (.int .i64 8) (.int .i64 i) K = some a
  | 0, i, l, hi, hl, ht => by
    have h1 : ¬ (i : Int) < 8 := by omega
    have : l = (List.range 8).map (byteAt h) := by
      rw [List.take_of_length_le (by omega), show i = 8 by omega] at ht; exact ht
    subst this
    apply oL72x2
    generalize (List.range 8).map (byteAt h) = l at *
    simp -implicitDefEqProofs [h1]
    simpa using hK
  | m + 1, i, l, hi, hl, ht => by
    have h1 : (i : Int) < 8 := by omega
    have h0 : (0 : Int) ≤ (i : Int) := by omega
    have h6 : IntKind.i64.wrap ((i : Int) + 1) = (i : Int) + 1 := wrap_i64 (by omega) (by omega)
    have e1 : IntKind.i64.wrap (8 * (i : Int)) = 8 * (i : Int) := wrap_i64 (by omega) (by omega)
    have e2 : IntKind.i64.wrap (56 - 8 * (i : Int)) = ((56 - 8 * i : Nat) : Int) := by rw [wrap_i64 (by omega) (by omega)]; omega
    have hmin : min (56 - 8 * i) IntKind.u64.bits = 56 - 8 * i := by simp [IntKind.bits]; omega
    have e3 : (h : Int).fdiv (2 ^ (min (56 - 8 * i) IntKind.u64.bits)) = ((h / 2 ^ (56 - 8 * i) : Nat) : Int) := by
      rw [hmin, show (2 : Int) ^ (56 - 8 * i) = ((2 ^ (56 - 8 * i) : Nat) : Int) by simp, Int.fdiv_eq_ediv_of_nonneg _ (Int.natCast_nonneg _)]; simp
    have e4 : IntKind.u8.wrap ((h / 2 ^ (56 - 8 * i) : Nat) : Int) = ((byteAt h i).toNat : Int) := by rw [wrap_u8, byteAt_nat]
    have e5 : ¬ ((56 - 8 * i : Nat) : Int) < 0 := by omega
    have e6 : (bytesPV l).set i (.int .u8 ((byteAt h i).toNat : Int)) = bytesPV (l.set i (byteAt h i)) := bytesPV_set l i _
    have hil : i < l.length := by omega
    have hget : (bytesPV l)[i]? = some (.int .u8 (l[i].toNat : Int)) := by rw [bytesPV_get, List.getElem?_eq_getElem hil]; rfl
    have ih := sum_loop h K a hK m (i + 1) (l.set i (byteAt h i)) (by omega) (by simp [hl]) (by
      rw [List.range_succ, List.map_append, ← ht]
      apply List.ext_getElem?
      intro j
      by_cases hj : j < i
      · rw [List.getElem?_take_of_lt (by omega), List.getElem?_set_ne (by omega), List.getElem?_append_left (by simp; omega), List.getElem?_take_of_lt hj]
      · by_cases hj2 : j = i
        · subst hj2
          rw [List.getElem?_take_of_lt (by omega), List.getElem?_set, if_pos rfl, if_pos hil, List.getElem?_append_right (by simp; omega), show j - (l.take j).length = 0 by simp; omega]
          rfl
        · rw [List.getElem?_eq_none (by simp; omega), List.getElem?_eq_none (by simp; omega)])
    generalize hsh : 56 - 8 * i = sh at *
    generalize h / 2 ^ sh = hd at *
    generalize byteAt h i = u at *
    have hl' : (8 : Int) = (l.length : Int) := by omega
    apply oL72x2
    simp -implicitDefEqProofs [h1, h0, h6, e1, e2, e3, e4, e5, e6, hget, hl]
    exact ih
theorem sum (s : List UInt8) (hs : s.length ≤ 140737488351232) : Ans T 72 [.str s] = some [.str (sum8 s)] := by
  apply f72
  have h1 := Hash hash0 s (by decide) hs
  have h2 := sum_loop (fnv hash0 s) (blockK 0 (seqK T B72x1 (endK [2]))) [.str (sum8 s)] (by rw [← sum8_eq]; simp -implicitDefEqProofs [lB72x1]) 8 0 (List.replicate 8 0) (by omega) (by simp) (by simp)
  have h3 : bytesPV (List.replicate 8 0) = List.replicate 8 (.int .u8 0) := rfl
  rw [h3] at h2
  have h4 : ((hash0 : Nat) : Int) = 14695981039346656037 := rfl
  rw [h4] at h1
  generalize fnv hash0 s = h at *
  simp -implicitDefEqProofs [h1]
  simpa using h2
theorem text (s : List UInt8) (hs : s.length ≤ 1000000) : Ans T 71 [.str s] = some [.str (uvar s.length ++ s)] := by
  apply f71
  have h1 := PutUvarint s.length (by omega)
  have h2 : IntKind.u64.wrap (s.length : Int) = (s.length : Int) := wrap_u64_id (by omega) (by omega)
  have h3 := uvar_len 10 s.length (by omega) (by omega)
  have h4 : (uvar s.length).length + s.length ≤ 9223372036854775807 := by omega
  generalize uvar s.length = u at *
  simp -implicitDefEqProofs [h1, h2, h4]
theorem Seal (x : Nat) (s : List UInt8) (hx : x < 18446744073709551616) (hs : s.length ≤ 1000000) : Ans T 47 [.int .u64 x, .str s] = some [.str (sealS x s)] := by
  apply f47
  have h1 := PutUvarint x hx
  have h2 := text s hs
  have h3 := uvar_len 10 s.length (by omega) (by omega)
  have h4 := uvar_len 10 x (by omega) (by omega)
  have h5 : (uvar x).length + (uvar s.length ++ s).length ≤ 9223372036854775807 := by simp; omega
  have h6 := sum (uvar x ++ (uvar s.length ++ s)) (by simp; omega)
  have h7 : (uvar x ++ (uvar s.length ++ s)).length ≤ 9223372036854775799 := by simp; omega
  have h8 : sealS x s = (uvar x ++ (uvar s.length ++ s)) ++ sum8 (uvar x ++ (uvar s.length ++ s)) := rfl
  rw [h8]
  generalize hB : uvar s.length ++ s = B at *
  generalize hU : uvar x = U at *
  generalize hUB : U ++ B = UB at *
  simp -implicitDefEqProofs [h1, h2, h5, hUB, h6, h7]
end Go.Proofs.Ytaldhebldjphbaa

/-
  The law JournalCodes: what its functions compute, and that it answers true.
  Conditions: none.
-/
import Derived.Test.YtaldhebldjphbaaJrn12
namespace Go.Proofs.Ytaldhebldjphbaa
open Go.Vm
set_option maxRecDepth 100000
set_option linter.unusedSimpArgs false

abbrev capV (m p : Int) (up : Bool) : PV := .agg [.int .i64 m, .int .i64 p, .bool up]

theorem unit10 : Ans T 110 [.int .i64 10] = some [.bool true] := by
  apply f110
  simp -implicitDefEqProofs
theorem host10 : Ans T 98 [capV 10 10 true] = some [.bool true] := by
  apply f98
  simp -implicitDefEqProofs [unit10]
theorem onNil (i : Int) : Ans T 100 [.slice true [], .int .i64 i] = some [.slice true []] := by
  apply f100
  simp -implicitDefEqProofs
  apply oL100x2
  simp -implicitDefEqProofs
theorem fitsNil (c : PV) (hc : c = capV 10 10 true) : Ans T 99 [c, .slice true []] = some [.bool true] := by
  subst hc
  apply f99
  simp -implicitDefEqProofs
  apply oL99x2
  simp -implicitDefEqProofs
theorem valid0 : Ans T 80 [.agg [.slice true [], .slice true []]] = some [.bool true] := by
  apply f80
  simp -implicitDefEqProofs
  apply oL80x2
  simp -implicitDefEqProofs
  apply oL80x4
  simp -implicitDefEqProofs
theorem valid1 : Ans T 80 [.agg [.slice false [capV 10 10 true], .slice true []]] = some [.bool true] := by
  have w1 : IntKind.i64.wrap 1 = 1 := wrap_i64 (by omega) (by omega)
  have h1 := fitsNil _ rfl
  apply f80
  simp -implicitDefEqProofs
  apply oL80x2
  simp -implicitDefEqProofs
  apply oL80x4
  simp -implicitDefEqProofs [host10, onNil, h1, w1]
  apply oL80x4
  simp -implicitDefEqProofs
theorem copy0 : Ans T 84 [.agg [.slice true [], .slice true []]] = some [.agg [.slice true [], .slice true []]] := by
  have h1 : Ans T 101 [.slice true []] = some [.slice true []] := by
    apply f101
    simp -implicitDefEqProofs
  have h2 : Ans T 102 [.slice true []] = some [.slice true []] := by
    apply f102
    simp -implicitDefEqProofs
  apply f84
  simp -implicitDefEqProofs [h1, h2]
theorem set1 : Ans T 85 [.agg [.slice true [], .slice true []], manV 4 [] 0 0 0 0 0 0 10 10 true] = some [.int .i64 0, .agg [.slice false [capV 10 10 true], .slice true []]] := by
  apply f85
  simp -implicitDefEqProofs [host10, valid1]
theorem apply1 : Ans T 56 [.agg [.slice true [], .slice true []], manV 4 [] 0 0 0 0 0 0 10 10 true] = some [.agg [.slice false [capV 10 10 true], .slice true []], .int .i64 0] := by
  apply f56
  simp -implicitDefEqProofs [copy0, valid0, set1]

/-! ### records -/
/-- the value of an operation -/
def manP (o : Man) : PV := match o.l with
  | [a, b, r, l, c, g, m, p] => manV o.k o.name a b r l c g m p o.up
  | _ => .undef
structure ManOK (o : Man) : Prop where
  k : I64 o.k
  name : o.name.length ≤ 1000
  len : o.l.length = 8
  l : ∀ x ∈ o.l, I64 x

theorem dec_man (o : Man) (h : ManOK o) : decR (decM (encM o)) = [manP o, .bool true] := by
  rw [dec_enc o h.k (by have := h.name; omega) h.len h.l]
  have hl := h.len
  unfold decR manP
  match hh : o.l with
  | [a, b, r, l, c, g, m, p] => cases o.up <;> simp
  | [] => rw [hh] at hl; simp at hl
  | [_] => rw [hh] at hl; simp at hl
  | [_, _] => rw [hh] at hl; simp at hl
  | [_, _, _] => rw [hh] at hl; simp at hl
  | [_, _, _, _] => rw [hh] at hl; simp at hl
  | [_, _, _, _, _] => rw [hh] at hl; simp at hl
  | [_, _, _, _, _, _] => rw [hh] at hl; simp at hl
  | [_, _, _, _, _, _, _] => rw [hh] at hl; simp at hl
  | _ :: _ :: _ :: _ :: _ :: _ :: _ :: _ :: _ :: _ => rw [hh] at hl; simp at hl

theorem encs_len : ∀ l : List Int, (encs l).length ≤ 10 * l.length
  | [] => by simp [encs]
  | x :: l => by
    have := uvar_len 10 (u64 x) (by have := u64_lt x; omega) (by omega)
    have := encs_len l
    simp [encs]; omega

theorem encM_len (o : Man) (h : ManOK o) : (encM o).length ≤ 2000 := by
  have h1 := uvar_len 10 (u64 o.k) (by have := u64_lt o.k; omega) (by omega)
  have h2 := uvar_len 10 o.name.length (by have := h.name; omega) (by omega)
  have h3 := encs_len (o.l ++ [if o.up then 1 else 0])
  have h4 := h.name
  have h5 := h.len
  simp [encM] at h3 ⊢
  omega

/-- a record of the journal -/
def recJ (n : Nat) (o : Man) : List UInt8 := uvar (sealS n (encM o)).length ++ sealS n (encM o)

theorem seal_len (n : Nat) (b : List UInt8) (hn : n < 18446744073709551616) (hb : b.length ≤ 2000) : (sealS n b).length ≤ 2100 := by
  have := uvar_len 10 n (by omega) (by omega)
  have := uvar_len 10 b.length (by omega) (by omega)
  simp [sealS]; omega

theorem step_rec (n : Nat) (o : Man) (h : ManOK o) (hn : n < 18446744073709551616) (rest : List UInt8) : stepJ (recJ n o ++ rest) n = some (manP o, (recJ n o).length) := by
  have h1 := encM_len o h
  have h2 := seal_len n (encM o) hn h1
  have h3 := unvar_uvar 10 (sealS n (encM o)).length 0 0 (sealS n (encM o) ++ rest) (by simp; omega) (by omega) (fun h => by omega) (by omega)
  simp at h3
  unfold stepJ recJ
  rw [List.append_assoc, h3]
  simp only []
  rw [if_pos ⟨trivial, by simp⟩]
  have h4 : ((uvar (sealS n (encM o)).length ++ (sealS n (encM o) ++ rest)).drop (uvar (sealS n (encM o)).length).length).take (sealS n (encM o)).length = sealS n (encM o) := by simp
  rw [h4, open_seal n (encM o) hn (by omega)]
  simp only [and_self, if_true]
  rw [dec_man o h]
  simp

theorem unvar_more : ∀ (p : List UInt8) (i acc x n : Nat) (q : List UInt8), unvar i acc p = (x, n, true) → unvar i acc (p ++ q) = (x, n, true)
  | [], i, acc, x, n, q, h => by simp [unvar] at h
  | b :: p, i, acc, x, n, q, h => by
    simp only [List.cons_append]
    unfold unvar at h ⊢
    by_cases hi : i < 10
    · simp only [hi, if_true] at h ⊢
      by_cases hb : b.toNat < 128
      · simp only [hb, if_true] at h ⊢
        exact h
      · simp only [hb, if_false] at h ⊢
        by_cases h9 : i = 9 ∧ 1 < b.toNat
        · simp only [h9, and_self, if_true] at h ⊢
          exact h
        · simp only [h9, if_false] at h ⊢
          exact unvar_more p _ _ x n q h
    · simp only [hi, if_false] at h ⊢
      exact h

/-- a record that is cut off is none -/
theorem step_cut (n m : Nat) (o : Man) (h : ManOK o) (hn : n < 18446744073709551616) (c : Nat) (hc : c < (recJ n o).length) : stepJ ((recJ n o).take c) m = none := by
  have h1 := encM_len o h
  have h2 := seal_len n (encM o) hn h1
  unfold stepJ
  rw [if_neg]
  intro ⟨k1, k2⟩
  have hv : unvar 0 0 ((recJ n o).take c) = ((unvar 0 0 ((recJ n o).take c)).1, (unvar 0 0 ((recJ n o).take c)).2.1, true) := by rw [← k1]
  have h3 := unvar_more _ _ _ _ _ ((recJ n o).drop c) hv
  rw [List.take_append_drop] at h3
  have h4 : unvar 0 0 (recJ n o) = ((sealS n (encM o)).length, (uvar (sealS n (encM o)).length).length, true) := by
    have h4 := unvar_uvar 10 (sealS n (encM o)).length 0 0 (sealS n (encM o)) (by simp; omega) (by omega) (fun h => by omega) (by omega)
    simp at h4
    exact h4
  rw [h4] at h3
  simp only [Prod.mk.injEq, and_true] at h3
  have h5 := (unvar_take hv).2.2
  rw [← h3.1, ← h3.2] at k2
  rw [← h3.2] at h5
  unfold recJ at hc k2 h5
  simp at hc k2 h5
  omega

theorem pj_none {p : List UInt8} {n m : Nat} (h : stepJ p n = none) : pj m p n = ([], 0) := by
  cases m with
  | zero => rfl
  | succ m => unfold pj; rw [h]

theorem step_nil (n : Nat) : stepJ [] n = none := by
  unfold stepJ
  simp [unvar]
end Go.Proofs.Ytaldhebldjphbaa

/-
  The law JournalCodes: what its functions compute, and that it answers true.
  Conditions: none.
-/
import Derived.Test.YtaldhebldjphbaaJrn11
namespace Go.Proofs.Ytaldhebldjphbaa
open Go.Vm
set_option maxRecDepth 100000
set_option linter.unusedSimpArgs false

/-- the record at the front of a string, and how many bytes it takes -/
def stepJ (p : List UInt8) (n : Nat) : Option (PV × Nat) :=
  if (unvar 0 0 p).2.2 = true ∧ (unvar 0 0 p).1 ≤ p.length - (unvar 0 0 p).2.1 then
    if (openS ((p.drop (unvar 0 0 p).2.1).take (unvar 0 0 p).1)).2.2 = 0 ∧ (openS ((p.drop (unvar 0 0 p).2.1).take (unvar 0 0 p).1)).1 = n then
      match decR (decM (openS ((p.drop (unvar 0 0 p).2.1).take (unvar 0 0 p).1)).2.1) with
      | [o, .bool true] => some (o, (unvar 0 0 p).2.1 + (unvar 0 0 p).1)
      | _ => none
    else none
  else none

def pj : Nat → List UInt8 → Nat → List PV × Nat
  | 0, _, _ => ([], 0)
  | m + 1, p, n => match stepJ p n with
    | none => ([], 0)
    | some (o, k) => let r := pj m (p.drop k) (n + 1); (o :: r.1, k + r.2)

theorem unvar_pos {p : List UInt8} (h : (unvar 0 0 p).2.2 = true) : 0 < (unvar 0 0 p).2.1 := by
  have := (unvar_take (s := p) (x := (unvar 0 0 p).1) (n := (unvar 0 0 p).2.1) (by rw [← h])).2.1
  have h2 := uvar_pos (unvar 0 0 p).1
  omega

theorem decR_cases (d : Dec) (hd : d.l.length = 9) : (∃ o, decR d = [o, .bool true] ∧ o ≠ .undef) ∨ (∃ o, decR d = [o, .bool false] ∧ o ≠ .undef) := by
  unfold decR
  match h : d.l with
  | [a, b, r, l, c, g, m, p, u] =>
    simp only []
    split
    · exact .inl ⟨_, rfl, by simp⟩
    · exact .inr ⟨_, rfl, by simp⟩
  | [] => rw [h] at hd; simp at hd
  | [_] => rw [h] at hd; simp at hd
  | [_, _] => rw [h] at hd; simp at hd
  | [_, _, _] => rw [h] at hd; simp at hd
  | [_, _, _, _] => rw [h] at hd; simp at hd
  | [_, _, _, _, _] => rw [h] at hd; simp at hd
  | [_, _, _, _, _, _] => rw [h] at hd; simp at hd
  | [_, _, _, _, _, _, _] => rw [h] at hd; simp at hd
  | [_, _, _, _, _, _, _, _] => rw [h] at hd; simp at hd
  | _ :: _ :: _ :: _ :: _ :: _ :: _ :: _ :: _ :: _ :: _ => rw [h] at hd; simp at hd

theorem decM_len (s : List UInt8) : (decM s).l.length = 9 := by
  unfold decM; simp only []; exact nums_length 9 _ _

theorem open_len (s : List UInt8) : (openS s).2.1.length ≤ s.length := by
  unfold openS
  simp only []
  split
  · simp
  · split
    · split
      · simp only [List.length_take, List.length_drop]; omega
      · simp
    · simp

theorem parse_loop (s : List UInt8) (hs : s.length ≤ 1000000) : ∀ (m at' : Nat) (out : List PV), at' ≤ s.length → s.length - at' < m → out.length ≤ at' →
    WL79x1 (.str s) (.slice out.isEmpty out) (.int .i64 (at' : Nat)) (blockK 0 (endK [2, 3])) = some [.slice (out ++ (pj m (s.drop at') out.length).1).isEmpty (out ++ (pj m (s.drop at') out.length).1), .int .i64 ((at' + (pj m (s.drop at') out.length).2 : Nat) : Int)]
  | 0, at', out, h1, h2, h3 => by omega
  | m + 1, at', out, h1, h2, h3 => by
    have hd : (s.drop at').length = s.length - at' := by simp
    have hU := Uvarint (s.drop at') (by omega)
    obtain ⟨b1, b2⟩ := unvar_bounds (s.drop at') 0 0 (by simp) (by omega)
    have hp := unvar_pos (p := s.drop at')
    have hat : (at' : Int) ≤ (s.length : Int) := by omega
    unfold pj stepJ
    generalize hv : unvar 0 0 (s.drop at') = v at *
    obtain ⟨x, k, ok⟩ := v
    simp only [] at hU b1 b2 hp ⊢
    cases ok with
    | false =>
      simp only [Bool.false_eq_true, false_and, if_false]
      apply oL79x1
      simp -implicitDefEqProofs [hU, hat]
    | true =>
      have hp := hp rfl
      have e1 : IntKind.i64.wrap ((s.length : Int) - (at' : Int)) = (s.length : Int) - (at' : Int) := wrap_i64 (by omega) (by omega)
      have e2 : IntKind.i64.wrap ((s.length : Int) - (at' : Int) - (k : Int)) = (s.length : Int) - (at' : Int) - (k : Int) := wrap_i64 (by omega) (by omega)
      have e3 : IntKind.u64.wrap ((s.length : Int) - (at' : Int) - (k : Int)) = (s.length : Int) - (at' : Int) - (k : Int) := wrap_u64_id (by omega) (by omega)
      by_cases hx : (s.length : Int) - (at' : Int) - (k : Int) < (x : Int)
      · rw [if_neg (by simp; omega)]
        apply oL79x1
        simp -implicitDefEqProofs [hU, hat, e1, e2, e3, hx]
      · rw [if_pos (by simp; omega)]
        have e4 : IntKind.i64.wrap ((at' : Int) + (k : Int)) = (at' : Int) + (k : Int) := wrap_i64 (by omega) (by omega)
        have e5 : IntKind.i64.wrap (x : Int) = (x : Int) := wrap_i64 (by omega) (by omega)
        have e6 : IntKind.i64.wrap ((at' : Int) + (k : Int) + (x : Int)) = (at' : Int) + (k : Int) + (x : Int) := wrap_i64 (by omega) (by omega)
        have e7 : (0 : Int) ≤ (at' : Int) + (k : Int) + (x : Int) ∧ (at' : Int) + (k : Int) + (x : Int) ≤ (s.length : Int) := by omega
        have e8 : (0 : Int) ≤ (at' : Int) + (k : Int) ∧ (at' : Int) + (k : Int) ≤ (at' : Int) + (k : Int) + (x : Int) := by omega
        have e9 : ((at' : Int) + (k : Int) + (x : Int)).toNat = at' + k + x := by omega
        have e10 : ((at' : Int) + (k : Int)).toNat = at' + k := by omega
        have e11 : (s.take (at' + k + x)).drop (at' + k) = ((s.drop at').drop k).take x := by
          rw [List.drop_take, List.drop_drop]
          congr 1; omega
        have e12 : IntKind.u64.wrap (out.length : Int) = (out.length : Int) := wrap_u64_id (by omega) (by omega)
        have hO := Open (((s.drop at').drop k).take x) (by simp; omega)
        have hol := open_len (((s.drop at').drop k).take x)
        have hol2 : (((s.drop at').drop k).take x).length ≤ 1000000 := by simp; omega
        generalize ((s.drop at').drop k).take x = q at *
        generalize openS q = w at *
        obtain ⟨seq, body, er⟩ := w
        simp only [] at hO hol ⊢
        by_cases her : er = 0
        · by_cases hseq : seq = out.length
          · subst her
            subst hseq
            simp only [and_self, if_true]
            have hD := jdec body (by omega)
            rcases decR_cases (decM body) (decM_len body) with ⟨o, ho, hne⟩ | ⟨o, ho, hne⟩
            · rw [ho] at hD ⊢
              simp only []
              have ih := parse_loop s hs m (at' + (k + x)) (out ++ [o]) (by omega) (by omega) (by simp; omega)
              rw [show (out ++ [o]).isEmpty = false by simp, show (out ++ [o]).length = out.length + 1 by simp, ← List.drop_drop] at ih
              have happ : (out.length + 1) * 96 ≤ 140737488355328 := by omega
              have hz : chk o (some : PV → Option PV) = some o := by cases o <;> first | rfl | exact absurd rfl hne
              generalize pj m ((s.drop at').drop (k + x)) (out.length + 1) = r at *
              simp only [List.append_assoc, List.singleton_append] at ih
              have hcast : ((at' + (k + x) : Nat) : Int) = (at' : Int) + (k : Int) + (x : Int) := by omega
              have hcast2 : ((at' + (k + x) + r.2 : Nat) : Int) = ((at' + (k + x + r.2) : Nat) : Int) := by omega
              rw [hcast, hcast2] at ih
              have hchk : ∀ {α : Type} (f : PV → Option α), chk o f = f o := fun f => by cases o <;> first | rfl | exact absurd rfl hne
              apply oL79x1
              simp -implicitDefEqProofs [hU, hat, e1, e2, e3, hx, e4, e5, e6, e7, e8, e9, e10, e11, e12, hO, hD, hchk, happ]
              simp -implicitDefEqProofs at ih
              exact ih
            · rw [ho] at hD ⊢
              simp only []
              have hchk : ∀ {α : Type} (f : PV → Option α), chk o f = f o := fun f => by cases o <;> first | rfl | exact absurd rfl hne
              apply oL79x1
              simp -implicitDefEqProofs [hU, hat, e1, e2, e3, hx, e4, e5, e6, e7, e8, e9, e10, e11, e12, hO, hD, hchk]
          · have hseq' : ¬ (seq : Int) = (out.length : Int) := by omega
            rw [if_neg (by simp [hseq])]
            subst her
            apply oL79x1
            simp -implicitDefEqProofs [hU, hat, e1, e2, e3, hx, e4, e5, e6, e7, e8, e9, e10, e11, e12, hO, hseq']
        · have her' : ¬ (er : Int) = 0 := by omega
          rw [if_neg (by simp [her])]
          apply oL79x1
          simp -implicitDefEqProofs [hU, hat, e1, e2, e3, hx, e4, e5, e6, e7, e8, e9, e10, e11, e12, hO, her', her]

theorem Parse (s : List UInt8) (hs : s.length ≤ 1000000) : Ans T 79 [.str s] = some [.slice (pj (s.length + 1) s 0).1.isEmpty (pj (s.length + 1) s 0).1, .int .i64 ((pj (s.length + 1) s 0).2 : Nat)] := by
  have h := parse_loop s hs (s.length + 1) 0 [] (by omega) (by omega) (by simp)
  apply f79
  simp -implicitDefEqProofs at h ⊢
  exact h
end Go.Proofs.Ytaldhebldjphbaa

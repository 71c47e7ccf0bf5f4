/-
  The law JournalCodes: what its functions compute, and that it answers true.
  Conditions: none.
-/
import Derived.Test.YtaldhebldjphbaaJrn14
namespace Go.Proofs.Ytaldhebldjphbaa
open Go.Vm
set_option maxRecDepth 100000
set_option linter.unusedSimpArgs false

def man1 : Man := ⟨4, [], [0, 0, 0, 0, 0, 0, 10, 10], true⟩
theorem man1_ok : ManOK man1 := ⟨⟨by decide, by decide⟩, by simp [man1], rfl, by
  intro x hx
  simp [man1] at hx
  rcases hx with rfl | rfl <;> exact ⟨by decide, by decide⟩⟩
theorem man1_P : manP man1 = manV 4 [] 0 0 0 0 0 0 10 10 true := rfl

theorem pj_rec (m n : Nat) (o : Man) (h : ManOK o) (hn : n < 18446744073709551616) (rest : List UInt8) : pj (m + 1) (recJ n o ++ rest) n = (manP o :: (pj m rest (n + 1)).1, (recJ n o).length + (pj m rest (n + 1)).2) := by
  conv => lhs; unfold pj
  rw [step_rec n o h hn rest]
  simp

theorem recJ_pos (n : Nat) (o : Man) : 0 < (recJ n o).length := by
  have := uvar_pos (sealS n (encM o)).length
  unfold recJ; simp; omega

theorem recJ_len (n : Nat) (o : Man) (h : ManOK o) (hn : n < 18446744073709551616) : (recJ n o).length ≤ 2200 := by
  have h1 := encM_len o h
  have h2 := seal_len n (encM o) hn h1
  have h3 := uvar_len 10 (sealS n (encM o)).length (by omega) (by omega)
  unfold recJ; simp; omega

theorem eqvM (neg : Bool) (k : Int) (name : List UInt8) (a b r l c g m p : Int) (up : Bool) : Prim.run (.eqv neg (manV 0 [] 0 0 0 0 0 0 0 0 false)) [manV k name a b r l c g m p up, manV k name a b r l c g m p up] = some (.bool (!neg)) := by
  cases neg <;> simp [Prim.run, two, fits, fitss, eqP, eqPs]
theorem eqvC (neg : Bool) (m p : Int) (up : Bool) : Prim.run (.eqv neg (capV 0 0 false)) [capV m p up, capV m p up] = some (.bool (!neg)) := by
  cases neg <;> simp [Prim.run, two, fits, fitss, eqP, eqPs]

theorem awake42 : Ans T 51 [] = some [.bool true] := by
  have w1 : IntKind.i64.wrap 1 = 1 := wrap_i64 (by omega) (by omega)
  have hA := Append [] man1 (by simp) man1_ok
  have hp0 : pj 1 [] 0 = ([], 0) := pj_none (step_nil 0)
  simp only [List.length_nil, Nat.zero_add, List.nil_append, hp0, man1_P] at hA
  have hl := recJ_len 0 man1 man1_ok (by omega)
  have hl2 := recJ_pos 0 man1
  rw [if_neg (by omega)] at hA
  have hP := Parse (recJ 0 man1) (by omega)
  have hp1 := pj_rec (recJ 0 man1).length 0 man1 man1_ok (by omega) []
  rw [List.append_nil, pj_none (step_nil _), man1_P] at hp1
  rw [hp1] at hP
  simp only [List.isEmpty_cons, Nat.add_zero] at hP
  have hC := Parse ((recJ 0 man1).take ((recJ 0 man1).length - 1)) (by simp; omega)
  rw [pj_none (step_cut 0 0 man1 man1_ok (by omega) _ (by omega))] at hC
  simp only [List.isEmpty_nil] at hC
  have hE := jenc 4 [] 0 0 0 0 0 0 10 10 true (by simp)
  have hE : Ans T 53 [manV 4 [] 0 0 0 0 0 0 10 10 true] = some [.str (encM man1)] := hE
  have hD := jdec (encM man1) (by have := encM_len man1 man1_ok; omega)
  rw [dec_man man1 man1_ok, man1_P] at hD
  generalize encM man1 = en1 at *
  generalize recJ 0 man1 = z at *
  have hR : Ans T 57 [.str z] = some [.agg [.slice false [capV 10 10 true], .slice true []], .str z] := by
    have hz : z.take z.length = z := List.take_length
    apply f57
    simp -implicitDefEqProofs [hP]
    apply oL57x2
    simp -implicitDefEqProofs [apply1, w1]
    apply oL57x2
    simp -implicitDefEqProofs [hz]
  have hV := valid1
  have w2 : IntKind.i64.wrap ((z.length : Int) - 1) = ((z.length - 1 : Nat) : Int) := by rw [wrap_i64 (by omega) (by omega)]; omega
  have hz0 : ¬ z.length = 0 := by omega
  have hz1 : z.length - 1 ≤ z.length := by omega
  have hz2 : z ≠ [] := by intro e; subst e; simp at hl2
  generalize z.length - 1 = z1 at *
  apply f51
  simp -implicitDefEqProofs [hA, hP, hR, hE, hD, hC, hV, w2, hz0, hz1, hz2, eqvM, eqvC]

theorem JournalCodes (o : Man) (s : List UInt8) (h : ManOK { o with name := [] }) : Ans T 13 [manP o, .str s] = some [.bool true] := by
  have hP : ∀ o : Man, (o.l.length = 8) → ∃ a b r l c g m p, o.l = [a, b, r, l, c, g, m, p] ∧ manP o = manV o.k o.name a b r l c g m p o.up := fun o hl => by
    obtain ⟨k, name, l, up⟩ := o
    simp only [] at hl
    unfold manP
    match l, hl with
    | [a, b, r, l, c, g, m, p], _ => exact ⟨a, b, r, l, c, g, m, p, rfl, rfl⟩
  obtain ⟨a, b, r, l, c, g, m, p, hl, hm⟩ := hP o h.len
  by_cases h1 : (300 : Int) < (o.name.length : Int)
  · rw [hm]
    apply f13
    simp -implicitDefEqProofs [h1, awake42]
  by_cases h2 : (300 : Int) < (s.length : Int)
  · rw [hm]
    apply f13
    simp -implicitDefEqProofs [h1, h2, awake42]
  have hok : ManOK o := ⟨h.k, by omega, h.len, h.l⟩
  have hE := jenc o.k o.name a b r l c g m p o.up (by omega)
  have ho : (⟨o.k, o.name, [a, b, r, l, c, g, m, p], o.up⟩ : Man) = o := by cases o; simp at hl ⊢; exact hl.symm
  rw [ho] at hE
  have hD := jdec (encM o) (by have := encM_len o hok; omega)
  rw [dec_man o hok, hm] at hD
  have hS := jdec s (by omega)
  have hcan : ∀ x, decR (decM s) = [x, .bool true] → Ans T 53 [x] = some [.str s] ∧ ∃ k name a b r l c g m p up, x = manV k name a b r l c g m p up := fun x hx => by
    have hlen := decM_len s
    have henc := enc_dec s (by omega)
    generalize decM s = d at *
    obtain ⟨k, name, li, rest, ok⟩ := d
    simp only [] at hlen henc
    unfold decR at hx
    match li, hlen with
    | [a, b, r, l, c, g, m, p, u], _ =>
      simp only [] at hx henc
      split at hx
      · rename_i hc
        obtain ⟨c1, c2, c3, c4⟩ := hc
        simp only [List.cons.injEq, and_true] at hx
        subst hx
        refine ⟨?_, _, _, _, _, _, _, _, _, _, _, _, rfl⟩
        have hse := henc c1 c2
        have hnl : name.length ≤ s.length := by rw [hse]; simp; omega
        have := jenc k name a b r l c g m p (decide (u = 1)) (by omega)
        rw [this]
        congr 3
        rw [hse]
        unfold encM
        have hu : (if decide (u = 1) = true then (1 : Int) else 0) = u := by
          by_cases h1 : u = 1
          · simp [h1]
          · simp [h1]; omega
        simp only [hu]
        rfl
      · simp at hx
  have hfalse : ∀ x, decR (decM s) = [x, .bool false] → x = manV 0 [] 0 0 0 0 0 0 0 0 false := fun x hx => by
    have hlen := decM_len s
    generalize decM s = d at *
    obtain ⟨k, name, li, rest, ok⟩ := d
    simp only [] at hlen
    unfold decR at hx
    match li, hlen with
    | [a, b, r, l, c, g, m, p, u], _ =>
      simp only [] at hx
      split at hx
      · simp at hx
      · simp only [List.cons.injEq, and_true] at hx; exact hx.symm
  rcases decR_cases (decM s) (decM_len s) with ⟨y, hy, hne⟩ | ⟨y, hy, hne⟩
  · obtain ⟨g1, k', name', a', b', r', l', c', g', m', p', up', rfl⟩ := hcan y hy
    rw [hy] at hS
    rw [hm]
    generalize encM o = en1 at *
    apply f13
    simp -implicitDefEqProofs [h1, h2, hE, hD, hS, g1, eqvM, awake42]
  · have := hfalse y hy
    subst this
    rw [hy] at hS
    rw [hm]
    generalize encM o = en1 at *
    apply f13
    simp -implicitDefEqProofs [h1, h2, hE, hD, hS, eqvM, awake42]
end Go.Proofs.Ytaldhebldjphbaa

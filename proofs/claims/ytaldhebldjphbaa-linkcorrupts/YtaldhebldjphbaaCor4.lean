/-
  The law LinkCorrupts: what its functions compute, and that it answers true.
  Conditions: none.
-/
import Derived.Test.YtaldhebldjphbaaCor3
namespace Go.Proofs.Ytaldhebldjphbaa
open Go.Vm
set_option maxRecDepth 100000
/-- the count of places at which the two differ -/
theorem diff_loop (n1 n2 : Bool) (xs : List PV) (c1 c2 : Bool) (hs : ∀ x ∈ xs, ∃ s, x = .str s) (hl : xs.length ≤ 1000) (i0 : Nat) (s0 s1 : List UInt8) (h0 : xs[i0]? = some (.str s0)) (hne : s1 ≠ s0) (t1 t2 : PV) (K : RK) (a : List PV) : ∀ m i n : Nat, i + m = xs.length → n ≤ i → n = (if i0 < i then 1 else 0) →
    K (.exit 0, [.undef, t1, t2, lnk n1 xs c1, .undef, .undef, .undef, lnk n2 (xs.set i0 (.str s1)) c2, .undef, .int .i64 1] ++ List.replicate 116 .undef) = some a → WL4x2 t1 t2 (lnk n1 xs c1) (lnk n2 (xs.set i0 (.str s1)) c2) (.int .i64 n) (.int .i64 i) K = some a
  | 0, i, n, hi, hn, hc, h1 => by
    have h4 : ¬ (i : Int) < (xs.length : Int) := by omega
    have h5 : i0 < i := by have := (List.getElem?_eq_some_iff.1 h0).1; omega
    rw [if_pos h5] at hc
    subst hc
    apply oL4x2
    simp -implicitDefEqProofs [h4]
    simpa using h1
  | m + 1, i, n, hi, hn, hc, h1 => by
    have h4 : (i : Int) < (xs.length : Int) := by omega
    have hi0 : (0 : Int) ≤ (i : Int) := by omega
    obtain ⟨s, hx⟩ := hs xs[i] (List.getElem_mem _)
    have hx' : xs[i]? = some (.str s) := by rw [← hx]; simp
    have h6 : IntKind.i64.wrap ((i : Int) + 1) = ((i + 1 : Nat) : Int) := wrap_i64 (by omega) (by omega)
    have h7 : IntKind.i64.wrap ((n : Int) + 1) = ((n + 1 : Nat) : Int) := wrap_i64 (by omega) (by omega)
    apply oL4x2
    by_cases he : i = i0
    · subst he
      have hss : s = s0 := by rw [hx'] at h0; simpa using h0
      subst hss
      have hlt : i < xs.length := by omega
      have hb : (s1 == s) = false := by simpa using hne
      have hg : (xs.set i (PV.str s1))[i]? = some (.str s1) := by simp [hlt]
      have hn0 : n = 0 := by rw [if_neg (by omega)] at hc; exact hc
      simp -implicitDefEqProofs [h4, hi0, hx', h6, h7, hg, hb]
      exact diff_loop n1 n2 xs c1 c2 hs hl i s s1 hx' hne t1 t2 K a m (i + 1) (n + 1) (by omega) (by omega) (by rw [if_pos (by omega)]; omega) h1
    · have hg : (xs.set i0 (PV.str s1))[i]? = some (.str s) := by rw [List.getElem?_set_ne (fun e => he e.symm)]; exact hx'
      simp -implicitDefEqProofs [h4, hi0, hx', h6, hg]
      exact diff_loop n1 n2 xs c1 c2 hs hl i0 s0 s1 h0 hne t1 t2 K a m (i + 1) n (by omega) (by omega) (by
        rw [hc]; by_cases h : i0 < i
        · rw [if_pos h, if_pos (by omega)]
        · rw [if_neg h, if_neg (by omega)]) h1

theorem LinkCorrupts (nl : Bool) (xs : List PV) (cut : Bool) (at_ bit : Int) (hs : ∀ x ∈ xs, ∃ s, x = .str s) : Ans T 4 [lnk nl xs cut, .int .i64 at_, .int .i64 bit] = some [.bool true] := by
  apply f4
  obtain ⟨b, hb, hb2⟩ := few nl xs cut hs
  cases b with
  | false => simp -implicitDefEqProofs [hb, awake]
  | true =>
    obtain ⟨hl, hlen⟩ := hb2 rfl
    by_cases hz : xs = []
    · subst hz
      simp -implicitDefEqProofs [hb, awake]
    · have hpos : 0 < xs.length := List.length_pos_iff.2 hz
      obtain ⟨i, hr, hi, _⟩ := Round at_ (xs.length : Int) (by omega) (by omega)
      have hz1 : ¬ (xs.length : Int) = 0 := by omega
      obtain ⟨s, hx⟩ := hs xs[i] (List.getElem_mem (by omega))
      have hx' : xs[i]? = some (.str s) := by rw [← hx]; simp
      have hi0 : (0 : Int) ≤ (i : Int) := by omega
      by_cases hse : s = []
      · subst hse
        have h1 := CorruptNo nl xs cut i bit (by omega) hx'
        have h2 := SameLink xs.isEmpty nl xs cut hs (by omega)
        simp -implicitDefEqProofs [hb, hz, hr, h1, h2, awake, hi0, hi, hx']
      · have hsl : s.length ≤ 1000 := by have := hlen _ (List.mem_of_getElem? hx'); simp [strLen] at this; omega
        have h1 := CorruptYes nl xs cut i bit s (by omega) hx' hse hsl
        have hk : corBit s bit < 8 * s.length := Nat.mod_lt _ (by have := List.length_pos_iff.2 hse; omega)
        have hk8 : corBit s bit / 8 < s.length := by omega
        have hf : corBit (Vm.flip s (corBit s bit)) bit = corBit s bit := by unfold corBit; rw [flip_len]
        have hne : Vm.flip s (corBit s bit) ≠ s := flip_ne hk8
        have hnil : Vm.flip s (corBit s bit) ≠ [] := fun e => by have := flip_len s (corBit s bit); rw [e] at this; simp at this; exact hse (List.length_eq_zero_iff.1 this.symm)
        have hg : (xs.set i (PV.str (Vm.flip s (corBit s bit))))[i]? = some (.str (Vm.flip s (corBit s bit))) := by rw [List.getElem?_set, if_pos rfl, if_pos (by omega)]
        have hie : ∀ y, (xs.set i y).isEmpty = false := fun y => by simp [hz]
        have h2 := CorruptYes xs.isEmpty (xs.set i (PV.str (Vm.flip s (corBit s bit)))) cut i bit _ (by rw [List.length_set]; omega) hg hnil (by rw [flip_len]; exact hsl)
        rw [hf, Vm.flip_flip] at h2
        have hback : (xs.set i (PV.str (Vm.flip s (corBit s bit)))).set i (PV.str s) = xs := by
          rw [List.set_set]
          apply List.ext_getElem?
          intro j
          by_cases e : i = j
          · subst e; rw [hx', List.getElem?_set, if_pos rfl, if_pos (by omega)]
          · rw [List.getElem?_set_ne e]
        rw [hback] at h2
        have h3 := SameLink (xs.set i (PV.str (Vm.flip s (corBit s bit)))).isEmpty nl xs cut hs (by omega)
        have hbne : (Vm.flip s (corBit s bit) == s) = false := by simpa using hne
        have hlf := flip_len s (corBit s bit)
        generalize Vm.flip s (corBit s bit) = s' at *
        simp -implicitDefEqProofs [hb, hz, hr, h1, hi0, hi, hx', hg, hlf]
        refine diff_loop nl xs.isEmpty xs cut cut hs (by omega) i s s' hx' hne _ _ _ _ xs.length 0 0 (by omega) (by omega) (by simp) ?_
        simp -implicitDefEqProofs [lB4x1, endK, h2, h3, hi0, hi, hx', hg, hbne, awake, Vm.get]
end Go.Proofs.Ytaldhebldjphbaa

/-
  The law HeartTells: what its functions compute, and that it answers true.
  Conditions: none.
-/
import Derived.Test.YtaldhebldjphbaaHte5
namespace Go.Proofs.Ytaldhebldjphbaa
open Go.Vm
set_option maxRecDepth 100000
set_option linter.unusedSimpArgs false

theorem eqdet (n : Bool) (a b c a' b' c' : Int) : Prim.run (.eqv n (.agg [.int .i64 0, .int .i64 0, .int .u64 0])) [det a b c, det a' b' c'] = some (.bool ((decide (a = a') && (decide (b = b') && decide (c = c'))) != n)) := by
  simp [run_eqv, fits, fitss, eqP, eqPs]
theorem limit_loop (l ticks seen : Int) (nl : Bool) (old : List PV) (ho : ∀ x ∈ old, ∃ n, x = .int .u64 n) (hl : 1 ≤ l ∧ l ≤ 20) (ht : 0 ≤ ticks ∧ ticks ≤ 60) (hs : 0 ≤ seen) (holen : old.length ≤ 60) (b : PV) (K : RK) (a : List PV)
    (hK : K (.exit 0, [.int .i64 l, .int .i64 ticks, .undef, .undef, .undef, .undef, .undef, .undef, .undef, det l (min ticks l) seen, b] ++ List.replicate 80 .undef) = some a) : ∀ (m i : Nat), (i : Int) + m = ticks → ∀ s : Int, s = min (i : Int) l →
    WL7x2 (.int .i64 l) (.int .i64 ticks) (.int .u64 seen) (.slice nl old) (det l s seen) b (.int .i64 i) K = some a
  | 0, i, hi, s, hsi => by
    have h1 : ¬ (i : Int) < ticks := by omega
    have : s = min ticks l := by omega
    subst this
    apply oL7x2
    simp -implicitDefEqProofs [h1]
    simpa using hK
  | m + 1, i, hi, s, hsi => by
    have h1 : (i : Int) < ticks := by omega
    have h0 : (0 : Int) ≤ (i : Int) := by omega
    have h6 : IntKind.i64.wrap ((i : Int) + 1) = ((i + 1 : Nat) : Int) := wrap_i64 (by omega) (by omega)
    have hv : vdet l s = true := by simp [vdet]; omega
    have h2 := Suspects l s seen
    rw [hv] at h2
    have ht2 : ∃ s2, Ans T 37 [det l s seen] = some [det l s2 seen] ∧ s2 = min ((i + 1 : Nat) : Int) l := by
      by_cases hlt : s < l
      · exact ⟨s + 1, TickUp l s seen hl (by omega) hlt, by omega⟩
      · exact ⟨s, TickSame l s seen (.inl hlt), by omega⟩
    obtain ⟨s2, h3, hs2⟩ := ht2
    have ih := limit_loop l ticks seen nl old ho hl ht hs holen b K a hK m (i + 1) (by omega) s2 hs2
    have hd : decide (s = l) = decide (l ≤ (i : Int)) := by
      by_cases h : l ≤ (i : Int)
      · rw [decide_eq_true h]; simp; omega
      · rw [decide_eq_false h]; simp; omega
    rw [hd] at h2
    by_cases ho1 : i < old.length
    · have ho2 : (i : Int) < (old.length : Int) := by omega
      obtain ⟨n, hx⟩ := ho old[i] (List.getElem_mem _)
      have hx' : old[i]? = some (.int .u64 n) := by rw [← hx]; simp
      have hmin : ¬ (seen < (if seen < n then seen else n)) := by split <;> omega
      have h4 := BeatNo l s2 seen (if seen < n then seen else n) (.inr (by omega))
      generalize hmn : (if seen < n then seen else n) = mn at *
      apply oL7x2
      simp -implicitDefEqProofs [h1, h2, h3, ho2, h0, h6, hx', h4, hmn, eqdet]
      exact ih
    · have ho2 : ¬ (i : Int) < (old.length : Int) := by omega
      apply oL7x2
      simp -implicitDefEqProofs [h1, h2, h3, ho2, h6]
      exact ih
theorem HeartLimit (l ticks seen : Int) (nl : Bool) (old : List PV) (ho : ∀ x ∈ old, ∃ n, x = .int .u64 n) (hs : 0 ≤ seen) : Ans T 7 [.int .i64 l, .int .i64 ticks, .int .u64 seen, .slice nl old] = some [.bool true] := by
  apply f7
  by_cases g1 : l < 1
  · simp -implicitDefEqProofs [g1, awake]
  · by_cases g2 : 20 < l
    · simp -implicitDefEqProofs [g1, g2, awake]
    · by_cases g3 : ticks < 0
      · simp -implicitDefEqProofs [g1, g2, g3, awake]
      · by_cases g4 : 60 < ticks
        · simp -implicitDefEqProofs [g1, g2, g3, g4, awake]
        · by_cases g5 : (60 : Int) < (old.length : Int)
          · simp -implicitDefEqProofs [g1, g2, g3, g4, g5, awake]
          · have h1 := NewYes l (by omega)
            have h2 : ∃ b, Ans T 31 [det l 0 0, .int .u64 seen] = some [det l 0 seen, .bool b] := by
              by_cases h : seen ≤ 0
              · have : seen = 0 := by omega
                subst this
                exact ⟨false, BeatNo l 0 0 0 (.inr (by omega))⟩
              · exact ⟨true, BeatYes l 0 0 seen (by simp [vdet]; omega) h⟩
            obtain ⟨b, h2⟩ := h2
            have hv : vdet l (min ticks l) = true := by simp [vdet]; omega
            have h3 := Suspects l (min ticks l) seen
            rw [hv] at h3
            have hd : decide (min ticks l = l) = decide (l ≤ ticks) := by
              by_cases h : l ≤ ticks
              · rw [decide_eq_true h]; simp; omega
              · rw [decide_eq_false h]; simp; omega
            rw [hd] at h3
            have := limit_loop l ticks seen nl old ho (by omega) (by omega) hs (by omega) (.bool true) (blockK 0 (seqK T B7x1 (endK [8]))) [.bool true] (by
              generalize min ticks l = mt at *
              simp -implicitDefEqProofs [h3, awake]) ticks.toNat 0 (by omega) 0 (by omega)
            simp -implicitDefEqProofs [g1, g2, g3, g4, g5, h1, h2]
            simpa using this
end Go.Proofs.Ytaldhebldjphbaa

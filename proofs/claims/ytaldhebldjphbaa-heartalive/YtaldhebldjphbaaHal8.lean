/-
  The law HeartAlive: what its functions compute, and that it answers true.
  Conditions: none.
-/
import Derived.Test.YtaldhebldjphbaaHal7
namespace Go.Proofs.Ytaldhebldjphbaa
open Go.Vm
set_option maxRecDepth 100000
set_option linter.unusedSimpArgs false

theorem alive_loop (l : Int) (nl : Bool) (acts : List PV) (ha : ∀ x ∈ acts, ∃ n, x = .int .i64 n) (hl : 1 ≤ l ∧ l ≤ 20) (hlen : acts.length ≤ 100) (b : PV) (K : RK) (a : List PV)
    (hK : K (.exit 0, [.undef, .undef, .undef, .undef, .undef, .undef, b] ++ List.replicate 73 .undef) = some a) : ∀ (m i : Nat), i + m = acts.length → ∀ (d number silent : Nat), d = min silent l.toNat → number ≤ 3 * i → silent ≤ i →
    WL8x2 (.int .i64 l) (.slice nl acts) (det l d number) b (.int .u64 number) (.int .i64 silent) (.int .i64 i) K = some a
  | 0, i, hi, d, number, silent, hd, hn, hs => by
    have h1 : ¬ (i : Int) < (acts.length : Int) := by omega
    apply oL8x2
    simp -implicitDefEqProofs [h1]
    simpa using hK
  | m + 1, i, hi, d, number, silent, hd, hn, hs => by
    have h1 : (i : Int) < (acts.length : Int) := by omega
    have h0 : (0 : Int) ≤ (i : Int) := by omega
    have h6 : IntKind.i64.wrap ((i : Int) + 1) = ((i + 1 : Nat) : Int) := wrap_i64 (by omega) (by omega)
    obtain ⟨v, hx⟩ := ha acts[i] (List.getElem_mem _)
    have hx' : acts[i]? = some (.int .i64 v) := by rw [← hx]; simp
    obtain ⟨r, hr1, hr2, _⟩ := Round v 4 (by omega) (by omega)
    have hvd : vdet l d = true := by simp [vdet]; omega
    by_cases hr0 : r = 0
    · subst hr0
      obtain ⟨q, hq1, hq2, _⟩ := Round (IntKind.i64.wrap (v.tdiv 4)) 3 (by omega) (by omega)
      have e1 : IntKind.u64.wrap ((number : Int) + 1) = (number : Int) + 1 := wrap_u64_id (by omega) (by omega)
      have e2 : IntKind.u64.wrap (q : Int) = (q : Int) := wrap_u64_id (by omega) (by omega)
      have e3 : IntKind.u64.wrap ((number : Int) + 1 + (q : Int)) = ((number + 1 + q : Nat) : Int) := by rw [wrap_u64_id (by omega) (by omega)]; omega
      have hb := BeatYes l d number ((number + 1 + q : Nat) : Int) hvd (by omega)
      have hs2 := Suspects l 0 ((number + 1 + q : Nat) : Int)
      have hv0 : vdet l 0 = true := by simp [vdet]; omega
      have hl0 : decide ((0 : Int) = l) = false := by simp; omega
      have hl1 : ¬ l ≤ 0 := by omega
      rw [hv0, hl0] at hs2
      have ih := alive_loop l nl acts ha hl hlen b K a hK m (i + 1) (by omega) 0 (number + 1 + q) 0 (by omega) (by omega) (by omega)
      generalize number + 1 + q = num2 at *
      apply oL8x2
      simp -implicitDefEqProofs [h1, h0, h6, hx', hr1, hq1, e1, e2, e3, hb, hs2, hl1]
      exact ih
    · have hr0' : ¬ (r : Int) = 0 := by omega
      have e1 : IntKind.i64.wrap ((silent : Int) + 1) = ((silent + 1 : Nat) : Int) := wrap_i64 (by omega) (by omega)
      have ht : ∃ d2 : Nat, Ans T 37 [det l d number] = some [det l d2 number] ∧ d2 = min (silent + 1) l.toNat := by
        by_cases hlt : (d : Int) < l
        · refine ⟨d + 1, ?_, by omega⟩
          have := TickUp l d number hl (by omega) hlt
          rwa [show (d : Int) + 1 = ((d + 1 : Nat) : Int) by omega] at this
        · exact ⟨d, TickSame l d number (.inl hlt), by omega⟩
      obtain ⟨d2, ht1, ht2⟩ := ht
      have hs2 := Suspects l d2 number
      have hv0 : vdet l d2 = true := by simp [vdet]; omega
      have hd2 : decide ((d2 : Int) = l) = decide (l ≤ ((silent + 1 : Nat) : Int)) := by
        by_cases h : l ≤ ((silent + 1 : Nat) : Int)
        · rw [decide_eq_true h]; simp; omega
        · rw [decide_eq_false h]; simp; omega
      rw [hv0, hd2] at hs2
      have ih := alive_loop l nl acts ha hl hlen b K a hK m (i + 1) (by omega) d2 number (silent + 1) ht2 (by omega) (by omega)
      generalize silent + 1 = sil2 at *
      apply oL8x2
      simp -implicitDefEqProofs [h1, h0, h6, hx', hr1, hr0, hr0', e1, ht1, hs2]
      exact ih
theorem HeartAlive (l : Int) (nl : Bool) (acts : List PV) (ha : ∀ x ∈ acts, ∃ n, x = .int .i64 n) : Ans T 8 [.int .i64 l, .slice nl acts] = some [.bool true] := by
  apply f8
  by_cases g1 : l < 1
  · simp -implicitDefEqProofs [g1, awake]
  · by_cases g2 : 20 < l
    · simp -implicitDefEqProofs [g1, g2, awake]
    · by_cases g5 : (100 : Int) < (acts.length : Int)
      · simp -implicitDefEqProofs [g1, g2, g5, awake]
      · have h1 := NewYes l (by omega)
        have := alive_loop l nl acts ha (by omega) (by omega) (.bool true) (blockK 0 (seqK T B8x1 (endK [4]))) [.bool true] (by simp -implicitDefEqProofs [awake]) acts.length 0 (by omega) 0 0 0 (by omega) (by omega) (by omega)
        simp -implicitDefEqProofs [g1, g2, g5, h1]
        simpa using this
end Go.Proofs.Ytaldhebldjphbaa

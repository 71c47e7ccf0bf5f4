/-
  The law LinkCarries: what its functions compute, and that it answers true.
  Conditions: none.
-/
import Derived.Test.YtaldhebldjphbaaCar2
namespace Go.Proofs.Ytaldhebldjphbaa
open Go.Vm
set_option maxRecDepth 100000
def nm (j : Nat) : List UInt8 := [112, UInt8.ofNat (65 + j)]
theorem name (j : Nat) (h : j ≤ 100) : Ans T 24 [.int .i64 j] = some [.str (nm j)] := by
  have h1 : IntKind.i64.wrap (65 + (j : Int)) = 65 + (j : Int) := wrap_i64 (by omega) (by omega)
  have h2 : IntKind.u8.wrap (65 + (j : Int)) = (((UInt8.ofNat (65 + j)).toNat : Nat) : Int) := by
    rw [wrap_u8_id (by omega) (by omega)]
    have : (UInt8.ofNat (65 + j)).toNat = 65 + j := by simp; omega
    rw [this]; simp
  have h3 := unbytes_bytesPV [UInt8.ofNat (65 + j)]
  rw [bytesPV_cons, bytesPV_nil] at h3
  have h4 : nm j = [112, UInt8.ofNat (65 + j)] := rfl
  rw [h4]
  apply f24
  generalize UInt8.ofNat (65 + j) = u at *
  simp -implicitDefEqProofs [h1, h2, h3]
theorem known_loop (j n : Nat) (hj : j < n) (hn : n ≤ 100) (K : RK) (a : List PV) (h1 : K (.ret, [.undef, .undef, .undef, .undef, .bool true, .undef, .undef, .undef, .undef, .undef, .undef, .undef, .undef, .undef, .undef]) = some a) : ∀ m i : Nat, i + m = j → WL25x2 (.str (nm j)) (.int .i64 n) (.int .i64 i) K = some a
  | 0, i, hi => by
    have h4 : (i : Int) < (n : Int) := by omega
    have h5 : i = j := by omega
    subst h5
    apply oL25x2
    simp -implicitDefEqProofs [h4, name i (by omega)]
    exact h1
  | m + 1, i, hi => by
    have h4 : (i : Int) < (n : Int) := by omega
    have h6 : IntKind.i64.wrap ((i : Int) + 1) = ((i + 1 : Nat) : Int) := wrap_i64 (by omega) (by omega)
    apply oL25x2
    by_cases he : (nm j == nm i) = true
    · simp -implicitDefEqProofs [h4, name i (by omega), he]
      exact h1
    · have he : (nm j == nm i) = false := by simpa using he
      simp -implicitDefEqProofs [h4, name i (by omega), he, h6]
      exact known_loop j n hj hn K a h1 m (i + 1) (by omega)
theorem known (j n : Nat) (hj : j < n) (hn : n ≤ 100) : Ans T 25 [.str (nm j), .int .i64 n] = some [.bool true] := by
  apply f25
  simp -implicitDefEqProofs
  refine known_loop j n hj hn _ _ ?_ j 0 (by omega)
  simp -implicitDefEqProofs

theorem LoseYes (nl : Bool) (xs : List PV) (i : Nat) (h : xs.length ≤ 1000) (hi : i < xs.length) : ∃ nl', Ans T 26 [lnk nl xs false, .int .i64 i] = some [lnk nl' (xs.take i ++ xs.drop (i + 1)) false, .bool true] := by
  refine ⟨xs.isEmpty && (xs.drop (i + 1)).isEmpty, ?_⟩
  have h7 : (0 : Int) ≤ (i : Int) := by omega
  have h8 : (i : Int) < (xs.length : Int) := by omega
  apply f26
  simp -implicitDefEqProofs [copyOf nl xs false h, has, h7, h8, remove _ xs false i h hi]
theorem LoseNo (nl : Bool) (xs : List PV) (i : Int) (h : xs.length ≤ 1000) (hi : ¬ i < (xs.length : Int)) : ∃ nl', Ans T 26 [lnk nl xs false, .int .i64 i] = some [lnk nl' xs false, .bool false] := by
  refine ⟨xs.isEmpty, ?_⟩
  apply f26
  simp -implicitDefEqProofs [copyOf nl xs false h, has, hi]
theorem DupYes (nl : Bool) (xs : List PV) (i : Nat) (s : List UInt8) (h : xs.length < 24) (hi : xs[i]? = some (.str s)) : ∃ nl', Ans T 27 [lnk nl xs false, .int .i64 i] = some [lnk nl' (xs ++ [.str s]) false, .bool true] := by
  refine ⟨false, ?_⟩
  have hl := (List.getElem?_eq_some_iff.1 hi).1
  have h7 : (0 : Int) ≤ (i : Int) := by omega
  have h8 : (i : Int) < (xs.length : Int) := by omega
  have h9 : (xs.length : Int) < 24 := by omega
  have h1 : (xs.length + 1) * 16 ≤ 140737488355328 := by omega
  apply f27
  simp -implicitDefEqProofs [copyOf nl xs false (by omega), room, has, h7, h8, h9, hi, h1]
theorem DupNo (nl : Bool) (xs : List PV) (i : Nat) (h : xs.length ≤ 1000) (hi : ¬ (xs.length < 24 ∧ i < xs.length)) : ∃ nl', Ans T 27 [lnk nl xs false, .int .i64 i] = some [lnk nl' xs false, .bool false] := by
  refine ⟨xs.isEmpty, ?_⟩
  have h7 : (0 : Int) ≤ (i : Int) := by omega
  apply f27
  by_cases h9 : (xs.length : Int) < 24
  · have h8 : ¬ (i : Int) < (xs.length : Int) := by omega
    simp -implicitDefEqProofs [copyOf nl xs false h, room, has, h7, h8, h9]
  · simp -implicitDefEqProofs [copyOf nl xs false h, room, h9]
theorem SendYes (nl : Bool) (xs : List PV) (s : List UInt8) (h : xs.length < 24) : Ans T 19 [lnk nl xs false, .str s] = some [lnk false (xs ++ [.str s]) false, .bool true] := by
  rw [Send nl xs false s (by omega), if_pos ⟨rfl, by omega⟩]
theorem SendNo (nl : Bool) (xs : List PV) (s : List UInt8) (h : ¬ xs.length < 24) (h2 : xs.length ≤ 1000) : Ans T 19 [lnk nl xs false, .str s] = some [lnk xs.isEmpty xs false, .bool false] := by
  rw [Send nl xs false s (by omega), if_neg (fun h => by omega)]

/-- what holds at the head of the loop -/
structure CInv (n i : Nat) (xs : List PV) (sent got : Nat) (plain : Bool) : Prop where
  i_le : i ≤ n
  n_le : n ≤ 60
  sent_le : sent ≤ i
  got_le : got ≤ i
  len : xs.length ≤ 24
  all : ∀ x ∈ xs, ∃ j, j < sent ∧ x = .str (nm j)
  plainly : plain = true → got + xs.length = sent

theorem carry_loop (nl0 : Bool) (acts : List PV) (ha : ∀ x ∈ acts, ∃ n, x = .int .i64 n) (K : RK) (a : List PV)
    (hK : ∀ nl xs sent got plain, CInv acts.length acts.length xs sent got plain → K (.exit 0, [.undef, .undef, .undef, lnk nl xs false, .int .i64 sent, .int .i64 got, .bool plain] ++ List.replicate 134 .undef) = some a) :
    ∀ m i : Nat, i + m = acts.length → ∀ nl xs sent got plain, CInv acts.length i xs sent got plain → WL5x2 (.slice nl0 acts) (lnk nl xs false) (.int .i64 sent) (.int .i64 got) (.bool plain) (.int .i64 i) K = some a
  | 0, i, hi, nl, xs, sent, got, plain, inv => by
    have h4 : ¬ (i : Int) < (acts.length : Int) := by omega
    have : i = acts.length := by omega
    subst this
    apply oL5x2
    simp -implicitDefEqProofs [h4]
    simpa using hK nl xs sent got plain inv
  | m + 1, i, hi, nl, xs, sent, got, plain, inv => by
    have ih := carry_loop nl0 acts ha K a hK m (i + 1) (by omega)
    obtain ⟨i_le, n_le, sent_le, got_le, len, hall, plainly⟩ := inv
    have h4 : (i : Int) < (acts.length : Int) := by omega
    have h0 : (0 : Int) ≤ (i : Int) := by omega
    obtain ⟨v, hx⟩ := ha acts[i] (List.getElem_mem _)
    have hx' : acts[i]? = some (.int .i64 v) := by rw [← hx]; simp
    have h6 : IntKind.i64.wrap ((i : Int) + 1) = ((i + 1 : Nat) : Int) := wrap_i64 (by omega) (by omega)
    have h7 : IntKind.i64.wrap ((xs.length : Int) + 1) = (xs.length : Int) + 1 := wrap_i64 (by omega) (by omega)
    obtain ⟨at_, ha1, ha2, _⟩ := Round (v.fdiv (2 ^ (min 4 IntKind.i64.bits))) ((xs.length : Int) + 1) (by omega) (by omega)
    obtain ⟨r, hr1, hr2, _⟩ := Round v 6 (by omega) (by omega)
    have hs : IntKind.i64.wrap ((sent : Int) + 1) = ((sent + 1 : Nat) : Int) := wrap_i64 (by omega) (by omega)
    have hg : IntKind.i64.wrap ((got : Int) + 1) = ((got + 1 : Nat) : Int) := wrap_i64 (by omega) (by omega)
    have hname := name sent (by omega)
    have hstr : ∀ x ∈ xs, ∃ s, x = .str s := fun x hx => by obtain ⟨j, _, rfl⟩ := hall x hx; exact ⟨_, rfl⟩
    apply oL5x2
    by_cases hr0 : r = 0 ∨ r = 1
    · by_cases hl : xs.length < 24
      · have ih1 := ih false (xs ++ [.str (nm sent)]) (sent + 1) got plain ⟨by omega, n_le, by omega, by omega, by simp; omega, fun x hx => by
          rcases List.mem_append.1 hx with hx | hx
          · obtain ⟨j, h1, h2⟩ := hall x hx; exact ⟨j, by omega, h2⟩
          · simp at hx; exact ⟨sent, by omega, hx⟩, fun hp => by have := plainly hp; simp; omega⟩
        rcases hr0 with rfl | rfl <;> simp -implicitDefEqProofs [h4, h0, hx', h7, ha1, hr1, lB5x4, lB5x3, hname, SendYes nl xs _ hl, hs, h6] <;> exact ih1
      · have ih1 := ih xs.isEmpty xs sent got plain ⟨by omega, n_le, by omega, by omega, len, hall, plainly⟩
        rcases hr0 with rfl | rfl <;> simp -implicitDefEqProofs [h4, h0, hx', h7, ha1, hr1, lB5x4, lB5x3, hname, SendNo nl xs _ hl (by omega), h6] <;> exact ih1
    · have hc : r = 2 ∨ r = 3 ∨ r = 4 ∨ r = 5 := by omega
      have hrem : ∀ x ∈ xs.take at_ ++ xs.drop (at_ + 1), ∃ j, j < sent ∧ x = .str (nm j) := fun x hx => by
        rcases List.mem_append.1 hx with hx | hx
        · exact hall x (List.mem_of_mem_take hx)
        · exact hall x (List.mem_of_mem_drop hx)
      rcases hc with rfl | rfl | rfl | rfl
      · -- deliver
        by_cases hat : at_ < xs.length
        · obtain ⟨j, hj, hjx⟩ := hall xs[at_] (List.getElem_mem _)
          have hx2 : xs[at_]? = some (.str (nm j)) := by rw [← hjx]; simp
          have hd := DeliverYes nl xs at_ (nm j) (by omega) hx2
          have hkn := known j sent hj (by omega)
          have ih1 := ih (xs.isEmpty && (xs.drop (at_ + 1)).isEmpty) (xs.take at_ ++ xs.drop (at_ + 1)) sent (got + 1) plain ⟨by omega, n_le, by omega, by omega, by simp; omega, hrem, fun hp => by have := plainly hp; simp; omega⟩
          simp -implicitDefEqProofs [h4, h0, hx', h7, ha1, hr1, lB5x4, lB5x3, hd, hkn, hg, h6]
          simpa using ih1
        · have hd := DeliverNo nl xs false at_ (by omega) (.inr (by omega))
          have ih1 := ih xs.isEmpty xs sent got plain ⟨by omega, n_le, by omega, by omega, len, hall, plainly⟩
          simp -implicitDefEqProofs [h4, h0, hx', h7, ha1, hr1, lB5x4, lB5x3, hd, h6]
          exact ih1
      · -- lose
        by_cases hat : at_ < xs.length
        · obtain ⟨nl', hd⟩ := LoseYes nl xs at_ (by omega) hat
          have ih1 := ih nl' (xs.take at_ ++ xs.drop (at_ + 1)) sent got false ⟨by omega, n_le, by omega, by omega, by simp; omega, hrem, fun hp => by cases hp⟩
          cases plain <;> simp -implicitDefEqProofs [h4, h0, hx', h7, ha1, hr1, lB5x4, lB5x3, hd, h6] <;> exact ih1
        · obtain ⟨nl', hd⟩ := LoseNo nl xs at_ (by omega) (by omega)
          have ih1 := ih nl' xs sent got plain ⟨by omega, n_le, by omega, by omega, len, hall, plainly⟩
          cases plain <;> simp -implicitDefEqProofs [h4, h0, hx', h7, ha1, hr1, lB5x4, lB5x3, hd, h6] <;> exact ih1
      · -- duplicate
        by_cases hat : xs.length < 24 ∧ at_ < xs.length
        · have hlt := hat.2
          obtain ⟨j, hj, hjx⟩ := hall xs[at_] (List.getElem_mem _)
          have hx2 : xs[at_]? = some (.str (nm j)) := by rw [← hjx]; simp
          obtain ⟨nl', hd⟩ := DupYes nl xs at_ (nm j) hat.1 hx2
          have ih1 := ih nl' (xs ++ [.str (nm j)]) sent got false ⟨by omega, n_le, by omega, by omega, by simp; omega, fun x hx => by
            rcases List.mem_append.1 hx with hx | hx
            · exact hall x hx
            · simp at hx; exact ⟨j, hj, hx⟩, fun hp => by cases hp⟩
          cases plain <;> simp -implicitDefEqProofs [h4, h0, hx', h7, ha1, hr1, lB5x4, lB5x3, hd, h6] <;> exact ih1
        · obtain ⟨nl', hd⟩ := DupNo nl xs at_ (by omega) hat
          have ih1 := ih nl' xs sent got plain ⟨by omega, n_le, by omega, by omega, len, hall, plainly⟩
          cases plain <;> simp -implicitDefEqProofs [h4, h0, hx', h7, ha1, hr1, lB5x4, lB5x3, hd, h6] <;> exact ih1
      · have ih1 := ih nl xs sent got plain ⟨by omega, n_le, by omega, by omega, len, hall, plainly⟩
        simp -implicitDefEqProofs [h4, h0, hx', h7, ha1, hr1, lB5x4, lB5x3, h6]
        exact ih1

theorem all_known (nl : Bool) (xs : List PV) (sent : Nat) (t5 t6 : PV) (hn : sent ≤ 60) (hl : xs.length ≤ 24) (hall : ∀ x ∈ xs, ∃ j, j < sent ∧ x = .str (nm j)) (K : RK) (a : List PV)
    (hK : K (.exit 3, [.undef, .undef, .undef, lnk nl xs false, .int .i64 sent, t5, t6] ++ List.replicate 134 .undef) = some a) : ∀ m i : Nat, i + m = xs.length → WL5x6 (lnk nl xs false) (.int .i64 sent) t5 t6 (.int .i64 i) K = some a
  | 0, i, hi => by
    have h4 : ¬ (i : Int) < (xs.length : Int) := by omega
    apply oL5x6
    simp -implicitDefEqProofs [h4]
    simpa using hK
  | m + 1, i, hi => by
    have h4 : (i : Int) < (xs.length : Int) := by omega
    have h0 : (0 : Int) ≤ (i : Int) := by omega
    obtain ⟨j, hj, hx⟩ := hall xs[i] (List.getElem_mem _)
    have hx' : xs[i]? = some (.str (nm j)) := by rw [← hx]; simp
    have h6 : IntKind.i64.wrap ((i : Int) + 1) = ((i + 1 : Nat) : Int) := wrap_i64 (by omega) (by omega)
    have hkn := known j sent hj (by omega)
    apply oL5x6
    simp -implicitDefEqProofs [h4, h0, hx', h6, hkn]
    exact all_known nl xs sent t5 t6 hn hl hall K a hK m (i + 1) (by omega)

theorem LinkCarries (nl0 : Bool) (acts : List PV) (ha : ∀ x ∈ acts, ∃ n, x = .int .i64 n) : Ans T 5 [.slice nl0 acts] = some [.bool true] := by
  apply f5
  by_cases hn : (60 : Int) < (acts.length : Int)
  · simp -implicitDefEqProofs [hn, awake]
  · simp -implicitDefEqProofs [hn]
    refine carry_loop nl0 acts ha _ _ ?_ acts.length 0 (by omega) true [] 0 0 true ⟨by omega, by omega, by omega, by omega, by simp, fun x hx => by simp at hx, fun _ => rfl⟩
    rintro nl xs sent got plain ⟨_, n_le, sent_le, got_le, len, hall, plainly⟩
    simp -implicitDefEqProofs [lB5x1]
    refine all_known nl xs sent _ _ (by omega) len hall _ _ ?_ xs.length 0 (by omega)
    have h1 : (xs.length : Int) ≤ 24 := by omega
    have h2 : IntKind.i64.wrap ((got : Int) + (xs.length : Int)) = (got : Int) + (xs.length : Int) := wrap_i64 (by omega) (by omega)
    cases plain with
    | false => simp -implicitDefEqProofs [lB5x5, h1, awake]
    | true =>
      have h3 : (got : Int) + (xs.length : Int) = (sent : Int) := by have := plainly rfl; omega
      have h4 : IntKind.i64.wrap (sent : Int) = (sent : Int) := wrap_i64 (by omega) (by omega)
      simp -implicitDefEqProofs [lB5x5, h1, h2, h3, h4, awake]
end Go.Proofs.Ytaldhebldjphbaa

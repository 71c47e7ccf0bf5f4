/-
  The law EventlogOpens: what its functions compute, and that it answers true.
  Conditions: none.
-/
import Derived.Test.YtaldhebldjphbaaEvo6
namespace Go.Proofs.Ytaldhebldjphbaa
open Go.Vm
set_option maxRecDepth 100000
set_option linter.unusedSimpArgs false

abbrev ev (k n : Int) (s : List UInt8) : PV := .agg [.int .i64 k, .int .u32 n, .str s]
abbrev ent (t : Int) (e : PV) : PV := .agg [.int .u64 t, e]
/-- whether an event is valid -/
def vev (k n : Int) (s : List UInt8) : Bool :=
  if k = 1 then decide (s.length = 0)
  else if k = 6 then decide (s.length = 0)
  else if k = 2 then decide (n = 0) && decide (s.length = 0)
  else if k = 3 then decide (n ≤ 255) && decide (s.length = 0)
  else if k = 4 then decide (n ≤ 1) && decide (s.length = 0) || decide (n = 1) && decide (s.length = 128)
  else if k = 5 then decide (n = 0) && (decide (1 ≤ s.length) && decide (s.length ≤ 128))
  else false
theorem EValid (k n : Int) (s : List UInt8) : Ans T 45 [ev k n s] = some [.bool (vev k n s)] := by
  unfold vev
  have hs : (s = [] ∧ s.length = 0) ∨ (¬ s = [] ∧ ¬ s.length = 0 ∧ (1 : Int) ≤ (s.length : Int)) := by
    cases s with
    | nil => simp
    | cons b t => right; simp; omega
  apply f45
  by_cases h1 : k = 1
  · subst h1
    rcases hs with ⟨rfl, hl⟩ | ⟨hs, hl, hl2⟩
    · simp -implicitDefEqProofs
    · simp -implicitDefEqProofs [hl, hs]
  by_cases h6 : k = 6
  · subst h6
    rcases hs with ⟨rfl, hl⟩ | ⟨hs, hl, hl2⟩
    · simp -implicitDefEqProofs
    · simp -implicitDefEqProofs [hl, hs]
  by_cases h2 : k = 2
  · subst h2
    by_cases hn : n = 0
    · rcases hs with ⟨rfl, hl⟩ | ⟨hs, hl, hl2⟩
      · simp -implicitDefEqProofs [hn]
      · simp -implicitDefEqProofs [hl, hs, hn]
    · simp -implicitDefEqProofs [hn]
  by_cases h3 : k = 3
  · subst h3
    by_cases hn : n ≤ 255
    · rcases hs with ⟨rfl, hl⟩ | ⟨hs, hl, hl2⟩
      · simp -implicitDefEqProofs [hn]
      · simp -implicitDefEqProofs [hl, hs, hn]
    · simp -implicitDefEqProofs [hn]
  by_cases h4 : k = 4
  · subst h4
    have hl3 : (s.length : Int) = 128 ↔ s.length = 128 := by omega
    by_cases hn : n ≤ 1
    · rcases hs with ⟨rfl, hl⟩ | ⟨hs, hl, hl2⟩
      · simp -implicitDefEqProofs [hn]
      · by_cases hn1 : n = 1
        · subst hn1
          by_cases h128 : s.length = 128
          · simp -implicitDefEqProofs [hl, hs, h128]
          · have h128' : ¬ (s.length : Int) = 128 := by omega
            simp -implicitDefEqProofs [hl, hs, h128, h128']
        · simp -implicitDefEqProofs [hl, hs, hn, hn1]
    · have hn1 : ¬ n = 1 := by omega
      simp -implicitDefEqProofs [hn, hn1]
  by_cases h5 : k = 5
  · subst h5
    by_cases hn : n = 0
    · rcases hs with ⟨rfl, hl⟩ | ⟨hs, hl, hl2⟩
      · simp -implicitDefEqProofs [hn]
      · by_cases h128 : s.length ≤ 128
        · have h128' : (s.length : Int) ≤ 128 := by omega
          have hl4 : 1 ≤ s.length := by omega
          simp -implicitDefEqProofs [hl2, hl4, hn, h128, h128']
        · have h128' : ¬ (s.length : Int) ≤ 128 := by omega
          simp -implicitDefEqProofs [hl2, hn, h128, h128']
    · simp -implicitDefEqProofs [hn]
  simp -implicitDefEqProofs [h1, h2, h3, h4, h5, h6]
theorem rEValid (k n : Int) (s : List UInt8) : Ans T 46 [ev k n s] = some [.bool (vev k n s)] := by
  unfold vev
  have hs : (s = [] ∧ s.length = 0) ∨ (¬ s = [] ∧ ¬ s.length = 0 ∧ (1 : Int) ≤ (s.length : Int)) := by
    cases s with
    | nil => simp
    | cons b t => right; simp; omega
  apply f46
  by_cases h1 : k = 1
  · subst h1
    rcases hs with ⟨rfl, hl⟩ | ⟨hs, hl, hl2⟩
    · simp -implicitDefEqProofs
    · simp -implicitDefEqProofs [hl, hs]
  by_cases h6 : k = 6
  · subst h6
    rcases hs with ⟨rfl, hl⟩ | ⟨hs, hl, hl2⟩
    · simp -implicitDefEqProofs
    · simp -implicitDefEqProofs [hl, hs]
  by_cases h2 : k = 2
  · subst h2
    by_cases hn : n = 0
    · rcases hs with ⟨rfl, hl⟩ | ⟨hs, hl, hl2⟩
      · simp -implicitDefEqProofs [hn]
      · simp -implicitDefEqProofs [hl, hs, hn]
    · simp -implicitDefEqProofs [hn]
  by_cases h3 : k = 3
  · subst h3
    by_cases hn : n ≤ 255
    · rcases hs with ⟨rfl, hl⟩ | ⟨hs, hl, hl2⟩
      · simp -implicitDefEqProofs [hn]
      · simp -implicitDefEqProofs [hl, hs, hn]
    · simp -implicitDefEqProofs [hn]
  by_cases h4 : k = 4
  · subst h4
    by_cases hn : n ≤ 1
    · rcases hs with ⟨rfl, hl⟩ | ⟨hs, hl, hl2⟩
      · simp -implicitDefEqProofs [hn]
      · by_cases hn1 : n = 1
        · subst hn1
          by_cases h128 : s.length = 128
          · simp -implicitDefEqProofs [hl, hs, h128]
          · have h128' : ¬ (s.length : Int) = 128 := by omega
            simp -implicitDefEqProofs [hl, hs, h128, h128']
        · simp -implicitDefEqProofs [hl, hs, hn, hn1]
    · have hn1 : ¬ n = 1 := by omega
      simp -implicitDefEqProofs [hn, hn1]
  by_cases h5 : k = 5
  · subst h5
    by_cases hn : n = 0
    · rcases hs with ⟨rfl, hl⟩ | ⟨hs, hl, hl2⟩
      · simp -implicitDefEqProofs [hn]
      · by_cases h128 : s.length ≤ 128
        · have h128' : (s.length : Int) ≤ 128 := by omega
          have hl4 : 1 ≤ s.length := by omega
          simp -implicitDefEqProofs [hl2, hl4, hn, h128, h128']
        · have h128' : ¬ (s.length : Int) ≤ 128 := by omega
          simp -implicitDefEqProofs [hl2, hn, h128, h128']
    · simp -implicitDefEqProofs [hn]
  simp -implicitDefEqProofs [h1, h2, h3, h4, h5, h6]

theorem awake19 : Ans T 44 [] = some [.bool true] := by
  have w1 : IntKind.i64.wrap 1 = 1 := wrap_i64 (by omega) (by omega)
  have w2 : IntKind.u64.wrap 1 = 1 := wrap_u64_id (by omega) (by omega)
  have w3 : IntKind.u64.wrap 2 = 2 := wrap_u64_id (by omega) (by omega)
  have o1 : Ans T 109 [.slice false [ent 7 (ev 2 0 [])]] = some [.bool true] := by
    apply f109
    simp -implicitDefEqProofs
    apply oL109x2
    simp -implicitDefEqProofs
  have v1 := EValid 2 0 []
  rw [show vev 2 0 [] = true by decide] at v1
  have c1 : Ans T 92 [.slice false [ent 7 (ev 2 0 [])], .int .u64 5] = some [.int .i64 0] := by
    apply f92
    simp -implicitDefEqProofs
    apply oL92x2
    simp -implicitDefEqProofs [v1, w1]
    apply oL92x2
    simp -implicitDefEqProofs [o1, w1]
  have u1 : uvar 1 = [1] := by unfold uvar; simp
  have u2 : uvar 2 = [2] := by unfold uvar; simp
  have p1 := PutUvarint 1 (by omega)
  have p2 := PutUvarint 2 (by omega)
  rw [u1] at p1
  rw [u2] at p2
  simp only [Int.cast_ofNat_Int] at p1 p2
  have n1 : Ans T 93 [ev 2 0 []] = some [.str [2]] := by
    apply f93
    simp -implicitDefEqProofs [p2, w3]
  have e1 : Ans T 70 [.slice false [ent 7 (ev 2 0 [])], .int .u64 5] = some [.str [1, 2, 2], .int .i64 0] := by
    apply f70
    simp -implicitDefEqProofs [c1, p1, w2]
    apply oL70x2
    simp -implicitDefEqProofs [p2, n1, w3, w1]
    apply oL70x2
    simp -implicitDefEqProofs
  have s1 := Seal 300 [97, 98] (by omega) (by simp)
  have s2 : (sealS 300 [97, 98]).length ≤ 140737488351232 := by
    have := uvar_len 10 300 (by omega) (by omega)
    have := uvar_len 10 2 (by omega) (by omega)
    simp [sealS]; omega
  have s3 := Open _ s2
  rw [open_seal 300 [97, 98] (by omega) (by simp)] at s3
  simp only [Int.cast_ofNat_Int] at s1 s3
  generalize sealS 300 [97, 98] = p at *
  apply f44
  simp -implicitDefEqProofs [e1, s1, s3, v1]
end Go.Proofs.Ytaldhebldjphbaa

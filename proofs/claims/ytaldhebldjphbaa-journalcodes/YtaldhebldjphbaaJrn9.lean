/-
  Operations of the journal as strings: the plain law, with no program in sight.
  Conditions: none.
-/
import Derived.Test.YtaldhebldjphbaaVmF
set_option linter.unusedVariables false
set_option linter.unusedSimpArgs false
namespace Go.Vm

/-- the number of an int -/
def u64 (x : Int) : Nat := (IntKind.u64.wrap x).toNat
def i64 (n : Nat) : Int := IntKind.i64.wrap (n : Int)

def I64 (x : Int) : Prop := -9223372036854775808 ≤ x ∧ x < 9223372036854775808

theorem u64_lt (x : Int) : u64 x < 18446744073709551616 := by
  unfold u64
  simp only [IntKind.wrap, IntKind.signed, IntKind.bits]
  simp
  omega

theorem u64_wrap (x : Int) : IntKind.u64.wrap x = ((u64 x : Nat) : Int) := by
  unfold u64
  simp only [IntKind.wrap, IntKind.signed, IntKind.bits]
  simp
  omega

theorem i64_u64 {x : Int} (h : I64 x) : i64 (u64 x) = x := by
  obtain ⟨h1, h2⟩ := h
  unfold i64 u64
  simp only [IntKind.wrap, IntKind.signed, IntKind.bits]
  simp
  split <;> omega

theorem u64_i64 {n : Nat} (h : n < 18446744073709551616) : u64 (i64 n) = n := by
  unfold i64 u64
  simp only [IntKind.wrap, IntKind.signed, IntKind.bits]
  simp
  split <;> omega

theorem i64_range (n : Nat) : I64 (i64 n) := by
  unfold i64 I64
  simp only [IntKind.wrap, IntKind.signed, IntKind.bits]
  simp
  split <;> omega

/-- a reader's number -/
def num (s : List UInt8) (ok : Bool) : Int × List UInt8 × Bool :=
  if (unvar 0 0 s).2.2 = true then (i64 (unvar 0 0 s).1, s.drop (unvar 0 0 s).2.1, ok) else (0, s, false)
/-- a reader's text -/
def txt (s : List UInt8) (ok : Bool) : List UInt8 × List UInt8 × Bool :=
  let v := num s ok
  if v.2.2 = true ∧ 0 ≤ v.1 ∧ v.1 ≤ v.2.1.length then (v.2.1.take v.1.toNat, v.2.1.drop v.1.toNat, true) else ([], v.2.1, false)

theorem num_len (s : List UInt8) (ok : Bool) : (num s ok).2.1.length ≤ s.length := by
  unfold num; split <;> simp
theorem num_range (s : List UInt8) (ok : Bool) : I64 (num s ok).1 := by
  unfold num; split
  · exact i64_range _
  · exact ⟨by simp, by simp⟩
theorem txt_len (s : List UInt8) (ok : Bool) : (txt s ok).2.1.length ≤ s.length := by
  unfold txt
  have := num_len s ok
  simp only []
  split <;> simp <;> omega

/-- numbers one after the other -/
def nums : Nat → List UInt8 → Bool → List Int × List UInt8 × Bool
  | 0, s, ok => ([], s, ok)
  | n + 1, s, ok => let v := num s ok; let w := nums n v.2.1 v.2.2; (v.1 :: w.1, w.2)

def encs : List Int → List UInt8
  | [] => []
  | x :: l => uvar (u64 x) ++ encs l

/-- an operation: its fields as the program has them -/
structure Man where
  k : Int
  name : List UInt8
  l : List Int
  up : Bool

def encM (o : Man) : List UInt8 := uvar (u64 o.k) ++ (uvar o.name.length ++ (o.name ++ encs (o.l ++ [if o.up then 1 else 0])))

/-- what a string's operation is: kind, name, nine numbers, the rest -/
structure Dec where
  k : Int
  name : List UInt8
  l : List Int
  rest : List UInt8
  ok : Bool

def decM (s : List UInt8) : Dec :=
  let a := num s true
  let b := txt a.2.1 a.2.2
  let c := nums 9 b.2.1 b.2.2
  ⟨a.1, b.1, c.1, c.2.1, c.2.2⟩

theorem num_uvar {x : Int} (hx : I64 x) (s : List UInt8) : num (uvar (u64 x) ++ s) true = (x, s, true) := by
  have := unvar_uvar 10 (u64 x) 0 0 s (by simpa using u64_lt x) (by omega) (fun h => by omega) (by omega)
  simp at this
  unfold num
  rw [this]
  simp [i64_u64 hx]

theorem nums_encs : ∀ (l : List Int) (s : List UInt8), (∀ x ∈ l, I64 x) → nums l.length (encs l ++ s) true = (l, s, true)
  | [], s, h => rfl
  | x :: l, s, h => by
    simp only [List.length_cons, nums, encs, List.append_assoc]
    rw [num_uvar (h x (by simp))]
    simp only []
    rw [nums_encs l s fun y hy => h y (by simp [hy])]

theorem u64_nat {n : Nat} (h : n < 9223372036854775808) : u64 (n : Int) = n ∧ I64 (n : Int) := by
  constructor
  · unfold u64
    simp only [IntKind.wrap, IntKind.signed, IntKind.bits]
    simp
    omega
  · exact ⟨by omega, by omega⟩

theorem dec_enc (o : Man) (hk : I64 o.k) (hn : o.name.length < 9223372036854775808) (hl : o.l.length = 8) (h : ∀ x ∈ o.l, I64 x) :
    decM (encM o) = ⟨o.k, o.name, o.l ++ [if o.up then 1 else 0], [], true⟩ := by
  obtain ⟨h1, h2⟩ := u64_nat hn
  unfold decM encM
  simp only [num_uvar hk]
  have ht : txt (uvar o.name.length ++ (o.name ++ encs (o.l ++ [if o.up then 1 else 0]))) true = (o.name, encs (o.l ++ [if o.up then 1 else 0]), true) := by
    have := num_uvar h2 (o.name ++ encs (o.l ++ [if o.up then 1 else 0]))
    rw [h1] at this
    unfold txt
    simp only [this]
    rw [if_pos (by simp; omega)]
    simp
  rw [ht]
  simp only []
  have := nums_encs (o.l ++ [if o.up then 1 else 0]) [] (by
    intro x hx
    rcases List.mem_append.1 hx with hx | hx
    · exact h x hx
    · simp at hx; subst hx; cases o.up <;> exact ⟨by decide, by decide⟩)
  simp [hl] at this
  rw [this]

theorem num_ok {s : List UInt8} {ok : Bool} (h : (num s ok).2.2 = true) : ok = true ∧ s = uvar (u64 (num s ok).1) ++ (num s ok).2.1 := by
  unfold num at h ⊢
  split at h
  · rename_i hv
    rw [if_pos hv]
    have hb := (unvar_bounds s 0 0 (by simp) (by omega)).1
    refine ⟨h, ?_⟩
    simp only []
    rw [u64_i64 hb]
    exact unvar_front (x := (unvar 0 0 s).1) (n := (unvar 0 0 s).2.1) (by rw [← hv])
  · cases h

theorem nums_ok : ∀ (n : Nat) {s : List UInt8} {ok : Bool}, (nums n s ok).2.2 = true → ok = true ∧ s = encs (nums n s ok).1 ++ (nums n s ok).2.1
  | 0, s, ok, h => ⟨h, rfl⟩
  | n + 1, s, ok, h => by
    simp only [nums] at h ⊢
    obtain ⟨h1, h2⟩ := nums_ok n h
    obtain ⟨h3, h4⟩ := num_ok h1
    refine ⟨h3, ?_⟩
    simp only [encs, List.append_assoc]
    rw [← h2]
    exact h4

theorem nums_length : ∀ (n : Nat) (s : List UInt8) (ok : Bool), (nums n s ok).1.length = n
  | 0, s, ok => rfl
  | n + 1, s, ok => by simp [nums, nums_length n]

theorem txt_ok {s : List UInt8} {ok : Bool} (h : (txt s ok).2.2 = true) (hs : s.length < 9223372036854775808) : ok = true ∧ s = uvar (txt s ok).1.length ++ ((txt s ok).1 ++ (txt s ok).2.1) := by
  unfold txt at h ⊢
  simp only [] at h ⊢
  have hl := num_len s ok
  split at h
  · rename_i hc
    rw [if_pos hc]
    obtain ⟨c1, c2, c3⟩ := hc
    obtain ⟨h1, h2⟩ := num_ok c1
    refine ⟨h1, ?_⟩
    simp only [List.take_append_drop]
    have hlen : ((num s ok).2.1.take (num s ok).1.toNat).length = (num s ok).1.toNat := by simp; omega
    have hu : u64 (num s ok).1 = (num s ok).1.toNat := by
      have := (u64_nat (n := (num s ok).1.toNat) (by omega)).1
      rw [Int.toNat_of_nonneg c2] at this
      exact this
    rw [hlen, ← hu]
    exact h2
  · cases h

theorem enc_dec (s : List UInt8) (hs : s.length < 9223372036854775808) (h : (decM s).ok = true) (hr : (decM s).rest = []) :
    s = uvar (u64 (decM s).k) ++ (uvar (decM s).name.length ++ ((decM s).name ++ encs (decM s).l)) := by
  unfold decM at h hr ⊢
  simp only [] at h hr ⊢
  obtain ⟨h1, h2⟩ := nums_ok 9 h
  obtain ⟨h3, h4⟩ := txt_ok h1 (by have := num_len s true; omega)
  obtain ⟨_, h5⟩ := num_ok h3
  rw [hr, List.append_nil] at h2
  rw [← h2, ← h4]
  exact h5

end Go.Vm

/-
  The law LinkCarries: what its functions compute, and that it answers true.
  Conditions: none.
-/
import Derived.Test.YtaldhebldjphbaaCar1
import Derived.Test.YtaldhebldjphbaaVmF
namespace Go.Proofs.Ytaldhebldjphbaa
open Go.Vm
set_option maxRecDepth 100000
abbrev lnk (nl : Bool) (xs : List PV) (cut : Bool) : PV := .agg [.slice nl xs, .bool cut]

theorem copyOf (nl : Bool) (xs : List PV) (cut : Bool) (h : xs.length ≤ 1000) : Ans T 59 [lnk nl xs cut] = some [lnk xs.isEmpty xs cut] := by
  apply f59
  have h1 : xs.length * 16 ≤ 140737488355328 := by omega
  simp [h1]
theorem room (nl : Bool) (xs : List PV) (cut : Bool) : Ans T 60 [lnk nl xs cut] = some [.bool (!cut && decide ((xs.length : Int) < 24))] := by
  apply f60
  cases cut <;> simp
theorem has (nl : Bool) (xs : List PV) (cut : Bool) (at_ : Int) : Ans T 61 [lnk nl xs cut, .int .i64 at_] = some [.bool (decide (0 ≤ at_) && decide (at_ < (xs.length : Int)))] := by
  apply f61
  by_cases h : 0 ≤ at_ <;> simp [h]
theorem Send (nl : Bool) (xs : List PV) (cut : Bool) (s : List UInt8) (h : xs.length ≤ 1000) : Ans T 19 [lnk nl xs cut, .str s] = some (if cut = false ∧ (xs.length : Int) < 24 then [lnk false (xs ++ [.str s]) cut, .bool true] else [lnk xs.isEmpty xs cut, .bool false]) := by
  apply f19
  have h1 : (xs.length + 1) * 16 ≤ 140737488355328 := by omega
  by_cases hc : cut = false ∧ (xs.length : Int) < 24
  · obtain ⟨rfl, hc⟩ := hc
    simp [copyOf nl xs false h, room, hc, h1]
  · simp [copyOf nl xs cut h, room, hc, h1]
theorem remove (nl : Bool) (xs : List PV) (cut : Bool) (i : Nat) (h : xs.length ≤ 1000) (hi : i < xs.length) : Ans T 62 [lnk nl xs cut, .int .i64 i] = some [lnk (nl && (xs.drop (i + 1)).isEmpty) (xs.take i ++ xs.drop (i + 1)) cut] := by
  apply f62
  have h2 : IntKind.i64.wrap ((i : Int) + 1) = (i : Int) + 1 := wrap_i64 (by omega) (by omega)
  have h3 : (0 : Int) ≤ (i : Int) ∧ (i : Int) ≤ (xs.length : Int) := by omega
  have h4 : (0 : Int) ≤ (i : Int) + 1 ∧ (i : Int) + 1 ≤ (xs.length : Int) := by omega
  have h5 : ((i : Int) + 1).toNat = i + 1 := by omega
  have h1 : (min i xs.length + (xs.length - (i + 1))) * 16 ≤ 140737488355328 := by omega
  simp [h2, h3, h4, h5, h1]
theorem DeliverNo (nl : Bool) (xs : List PV) (cut : Bool) (at_ : Int) (h : xs.length ≤ 1000) (hc : cut = true ∨ ¬(0 ≤ at_ ∧ at_ < (xs.length : Int))) : Ans T 20 [lnk nl xs cut, .int .i64 at_] = some [lnk xs.isEmpty xs cut, .str [], .bool false] := by
  apply f20
  cases cut with
  | true => simp [copyOf nl xs true h]
  | false =>
    have hc : ¬(0 ≤ at_ ∧ at_ < (xs.length : Int)) := by simpa using hc
    have h6 : (decide (0 ≤ at_) && decide (at_ < (xs.length : Int))) = false := by simpa using hc
    simp [copyOf nl xs false h, has, h6]
theorem DeliverYes (nl : Bool) (xs : List PV) (i : Nat) (s : List UInt8) (h : xs.length ≤ 1000) (hi : xs[i]? = some (.str s)) : Ans T 20 [lnk nl xs false, .int .i64 i] = some [lnk (xs.isEmpty && (xs.drop (i + 1)).isEmpty) (xs.take i ++ xs.drop (i + 1)) false, .str s, .bool true] := by
  apply f20
  have hl : i < xs.length := (List.getElem?_eq_some_iff.1 hi).1
  have h6 : (decide ((0 : Int) ≤ (i : Int)) && decide ((i : Int) < (xs.length : Int))) = true := by simp; omega
  have h7 : (0 : Int) ≤ (i : Int) ∧ (i : Int) < (xs.length : Int) := by omega
  simp [copyOf nl xs false h, has, h6, h7, hi, remove _ xs false i h hl]
theorem SetCut (nl : Bool) (xs : List PV) (cut c : Bool) (h : xs.length ≤ 1000) : Ans T 18 [lnk nl xs cut, .bool c] = some [if c then lnk true [] true else lnk xs.isEmpty xs false] := by
  apply f18
  cases c <;> simp [copyOf nl xs cut h]
theorem awake : Ans T 17 [] = some [.bool true] := by
  apply f17
  have h1 : ∀ s, Ans T 19 [lnk true [] false, .str s] = some [lnk false [.str s] false, .bool true] := fun s => by rw [Send _ _ _ _ (by simp)]; simp
  have h2 : ∀ s, Ans T 20 [lnk false [.str s] false, .int .i64 0] = some [lnk false [] false, .str s, .bool true] := fun s => by
    have := DeliverYes false [.str s] 0 s (by simp) rfl
    simpa using this
  have h3 : ∀ s, Ans T 18 [lnk false [.str s] false, .bool true] = some [lnk true [] true] := fun s => by rw [SetCut _ _ _ _ (by simp)]; rfl
  have h4 : ∀ s, Ans T 19 [lnk true [] true, .str s] = some [lnk true [] true, .bool false] := fun s => by rw [Send _ _ _ _ (by simp)]; simp
  simp -implicitDefEqProofs [h1, h2, h3, h4]
theorem Round (n k : Int) (hk : 0 < k) (hk2 : k ≤ 1000) : ∃ r : Nat, Ans T 21 [.int .i64 n, .int .i64 k] = some [.int .i64 r] ∧ (r : Int) < k ∧ (r : Int) = n % k := by
  have h0 : ¬ k = 0 := by omega
  have h1 := Int.emod_nonneg n h0
  have h2 := Int.emod_lt_of_pos n hk
  have h3 : n.tmod k = n % k - (if 0 ≤ n ∨ k ∣ n then 0 else k.natAbs : Nat) := Int.tmod_eq_emod
  refine ⟨(n % k).toNat, ?_, by omega, by omega⟩
  have h4 : ((n % k).toNat : Int) = n % k := by omega
  have hk3 : (k.natAbs : Int) = k := by omega
  apply f21
  by_cases hd : 0 ≤ n ∨ k ∣ n
  · rw [if_pos hd] at h3
    have h5 : n.tmod k = n % k := by simpa using h3
    have hn : ¬ n % k < 0 := by omega
    simp -implicitDefEqProofs [h0, h5, hn, h4]
  · rw [if_neg hd, hk3] at h3
    have hn : n % k - k < 0 := by omega
    have h5 : IntKind.i64.wrap (n % k - k + k) = n % k := by
      rw [show n % k - k + k = n % k by omega]; exact wrap_i64 (by omega) (by omega)
    simp -implicitDefEqProofs only [chk_int, run_mov, Option.bind_some, run_rem, h0, if_false, h3, run_lss, hn, decide_true, chk_bool, isB_bool, if_true, run_add, h5, h4, allDef_int, allDef_nil, Option.map_some]

end Go.Proofs.Ytaldhebldjphbaa

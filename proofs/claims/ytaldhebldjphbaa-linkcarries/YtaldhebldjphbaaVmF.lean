/-
  A verified evaluator of the program's functions by value, part 6.
  Conditions: none.
-/
import Derived.Test.YtaldhebldjphbaaVmE

/-
  How the value language's text is worked out: rules for 'simp'.
  Conditions: none.
-/
set_option linter.unusedVariables false
set_option linter.unusedSimpArgs false
namespace Go.Vm

section
variable {α : Type}
@[simp] theorem chk_bool (b : Bool) (K : PV → Option α) : chk (.bool b) K = K (.bool b) := rfl
@[simp] theorem chk_int (k : IntKind) (n : Int) (K : PV → Option α) : chk (.int k n) K = K (.int k n) := rfl
@[simp] theorem chk_str (s : List UInt8) (K : PV → Option α) : chk (.str s) K = K (.str s) := rfl
@[simp] theorem chk_agg (xs : List PV) (K : PV → Option α) : chk (.agg xs) K = K (.agg xs) := rfl
@[simp] theorem chk_slice (nl : Bool) (xs : List PV) (K : PV → Option α) : chk (.slice nl xs) K = K (.slice nl xs) := rfl
@[simp] theorem chk_tup (xs : List PV) (K : PV → Option α) : chk (.tup xs) K = K (.tup xs) := rfl
@[simp] theorem chk_ptr (p : List Nat) (K : PV → Option α) : chk (.ptr p) K = K (.ptr p) := rfl
@[simp] theorem asPath_ptr (p : List Nat) (K : List Nat → Option α) : asPath (.ptr p) K = K p := rfl
@[simp] theorem isB_bool (b : Bool) (x y : Option α) : isB (.bool b) x y = if b = true then x else y := by cases b <;> rfl
@[simp] theorem grd_bool (b w : Bool) (v : Option PV) : grd (.bool b) w v = if b = w then v else some .undef := rfl
@[simp] theorem nilK_nil (r : Option α) : nilK [] r = r := rfl
@[simp] theorem consK_cons (y : PV) (ys : List PV) (K : PV → List PV → Option α) : consK (y :: ys) K = K y ys := rfl
@[simp] theorem thenK_normal (s : St) (N : St → Option (List PV)) (K : RK) : thenK (.normal, s) N K = N s := rfl
@[simp] theorem thenK_ret (s : St) (N : St → Option (List PV)) (K : RK) : thenK (.ret, s) N K = K (.ret, s) := rfl
@[simp] theorem thenK_exit (i : Nat) (s : St) (N : St → Option (List PV)) (K : RK) : thenK (.exit i, s) N K = K (.exit i, s) := rfl
@[simp] theorem unblock_normal (i : Nat) (s : St) : unblock i (.normal, s) = (.normal, s) := rfl
@[simp] theorem unblock_ret (i : Nat) (s : St) : unblock i (.ret, s) = (.ret, s) := rfl
@[simp] theorem unblock_exit (i j : Nat) (s : St) : unblock i (.exit j, s) = if j = i then (.normal, s) else (.exit j, s) := rfl
@[simp] theorem seqK_normal (T : Nat → Option VFunc) (b : VCode) (K : RK) (s : St) : seqK T b K (.normal, s) = denK T b s K := rfl
@[simp] theorem seqK_ret (T : Nat → Option VFunc) (b : VCode) (K : RK) (s : St) : seqK T b K (.ret, s) = K (.ret, s) := rfl
@[simp] theorem seqK_exit (T : Nat → Option VFunc) (b : VCode) (K : RK) (i : Nat) (s : St) : seqK T b K (.exit i, s) = K (.exit i, s) := rfl
@[simp] theorem blockK_normal (i : Nat) (K : RK) (s : St) : blockK i K (.normal, s) = K (.normal, s) := rfl
@[simp] theorem blockK_ret (i : Nat) (K : RK) (s : St) : blockK i K (.ret, s) = K (.ret, s) := rfl
@[simp] theorem blockK_exit (i j : Nat) (K : RK) (s : St) : blockK i K (.exit j, s) = if j = i then K (.normal, s) else K (.exit j, s) := by
  unfold blockK; rw [unblock_exit]; split <;> rfl
@[simp] theorem againK_ret (T : Nat → Option VFunc) (kill : List Nat) (c : VCode) (K : RK) (s : St) : againK T kill c K (.ret, s) = K (.ret, s) := rfl
@[simp] theorem againK_exit (T : Nat → Option VFunc) (kill : List Nat) (c : VCode) (K : RK) (i : Nat) (s : St) : againK T kill c K (.exit i, s) = K (.exit i, s) := rfl
@[simp] theorem endK_exit (l : List Nat) (i : Nat) (s : St) : endK l (.exit i, s) = none := rfl
@[simp] theorem endK_ret (l : List Nat) (s : St) : endK l (.ret, s) = allDef (l.map (Vm.get s)) := rfl
@[simp] theorem endK_normal (l : List Nat) (s : St) : endK l (.normal, s) = allDef (l.map (Vm.get s)) := rfl
@[simp] theorem ret1 (x : PV) : retV 1 [x] = some x := rfl
@[simp] theorem ret2 (x y : PV) : retV 2 [x, y] = some (.tup [x, y]) := rfl
@[simp] theorem ret3 (x y z : PV) : retV 3 [x, y, z] = some (.tup [x, y, z]) := rfl
@[simp] theorem ret4 (x y z u : PV) : retV 4 [x, y, z, u] = some (.tup [x, y, z, u]) := rfl
@[simp] theorem ret0 : retV 0 [] = some (.tup []) := rfl
@[simp] theorem allDef_nil : allDef [] = some [] := rfl
@[simp] theorem allDef_bool (b : Bool) (l : List PV) : allDef (.bool b :: l) = (allDef l).map (.bool b :: ·) := rfl
@[simp] theorem allDef_int (k : IntKind) (n : Int) (l : List PV) : allDef (.int k n :: l) = (allDef l).map (.int k n :: ·) := rfl
@[simp] theorem allDef_str (s : List UInt8) (l : List PV) : allDef (.str s :: l) = (allDef l).map (.str s :: ·) := rfl
@[simp] theorem allDef_agg (s : List PV) (l : List PV) : allDef (.agg s :: l) = (allDef l).map (.agg s :: ·) := rfl
@[simp] theorem allDef_slice (nl : Bool) (s : List PV) (l : List PV) : allDef (.slice nl s :: l) = (allDef l).map (.slice nl s :: ·) := rfl

@[simp] theorem getP_nil (x : PV) : getP [] x = some x := by cases x <;> rfl
@[simp] theorem getP_agg (i : Nat) (p : List Nat) (xs : List PV) : getP (i :: p) (.agg xs) = (xs[i]?).bind (getP p) := rfl
@[simp] theorem getP_slice (i : Nat) (p : List Nat) (nl : Bool) (xs : List PV) : getP (i :: p) (.slice nl xs) = (xs[i]?).bind (getP p) := rfl
@[simp] theorem setP_nil (x y : PV) : setP [] x y = some y := by cases x <;> rfl
@[simp] theorem setP_agg (i : Nat) (p : List Nat) (xs : List PV) (y : PV) : setP (i :: p) (.agg xs) y = (xs[i]?).bind fun x => (setP p x y).map fun z => .agg (xs.set i z) := rfl
@[simp] theorem setP_slice (i : Nat) (p : List Nat) (nl : Bool) (xs : List PV) (y : PV) : setP (i :: p) (.slice nl xs) y = (xs[i]?).bind fun x => (setP p x y).map fun z => .slice nl (xs.set i z) := rfl
@[simp] theorem resultOf1 (x : PV) (l : List PV) : resultOf 1 (x :: l) = x := rfl

@[simp] theorem run_mov (x : PV) : Prim.run .mov [x] = some x := rfl
@[simp] theorem run_fptr (f : Nat) (p : List Nat) : Prim.run (.fptr f) [.ptr p] = some (.ptr (p ++ [f])) := rfl
@[simp] theorem run_aptr (n : Nat) (p : List Nat) (k : IntKind) (i : Int) : Prim.run (.aptr n) [.ptr p, .int k i] = if 0 ≤ i ∧ i < n then some (.ptr (p ++ [i.toNat])) else none := rfl
@[simp] theorem run_iptr (b : List Nat) (nl : Bool) (xs : List PV) (k : IntKind) (i : Int) : Prim.run (.iptr b) [.slice nl xs, .int k i] = if 0 ≤ i ∧ i < xs.length then some (.ptr (b ++ [i.toNat])) else none := rfl
@[simp] theorem run_load (x : PV) (p : List Nat) : Prim.run .load [x, .ptr p] = getP p x := by cases x <;> rfl
@[simp] theorem run_len_str (s : List UInt8) : Prim.run .len [.str s] = some (.int .i64 s.length) := rfl
@[simp] theorem run_len_slice (nl : Bool) (s : List PV) : Prim.run .len [.slice nl s] = some (.int .i64 s.length) := rfl
@[simp] theorem run_len_agg (s : List PV) : Prim.run .len [.agg s] = some (.int .i64 s.length) := rfl
@[simp] theorem run_not (b : Bool) : Prim.run (.un .not) [.bool b] = some (.bool !b) := rfl
@[simp] theorem run_ext (i : Nat) (xs : List PV) : Prim.run (.ext i) [.tup xs] = xs[i]? := rfl
@[simp] theorem run_field (i : Nat) (xs : List PV) : Prim.run (.field i) [.agg xs] = xs[i]? := rfl
@[simp] theorem run_isNil (n nl : Bool) (xs : List PV) : Prim.run (.isNil n) [.slice nl xs] = some (.bool (nl != n)) := rfl
@[simp] theorem run_toInt (k k' : IntKind) (n : Int) : Prim.run (.toInt k) [.int k' n] = some (.int k (k.wrap n)) := rfl
@[simp] theorem run_toBytes (s : List UInt8) : Prim.run .toBytes [.str s] = some (.slice false (bytesPV s)) := rfl
@[simp] theorem run_toStr_str (s : List UInt8) : Prim.run .toStr [.str s] = some (.str s) := rfl
@[simp] theorem run_toStr_slice (nl : Bool) (xs : List PV) : Prim.run .toStr [.slice nl xs] = (unbytes xs).map .str := rfl
@[simp] theorem run_min (k k' : IntKind) (a b : Int) : Prim.run .minI [.int k a, .int k' b] = some (.int k (if b < a then b else a)) := rfl
@[simp] theorem run_max (k k' : IntKind) (a b : Int) : Prim.run .maxI [.int k a, .int k' b] = some (.int k (if a < b then b else a)) := rfl
@[simp] theorem run_index_agg (xs : List PV) (k : IntKind) (i : Int) : Prim.run .index [.agg xs, .int k i] = if 0 ≤ i then xs[i.toNat]? else none := rfl
@[simp] theorem run_index_str (s : List UInt8) (k : IntKind) (i : Int) : Prim.run .index [.str s, .int k i] = if 0 ≤ i then (s[i.toNat]?).map fun b => .int .u8 b.toNat else none := rfl
@[simp] theorem run_tup (xs : List PV) : Prim.run .tup xs = some (.tup xs) := rfl
@[simp] theorem run_app (e : Nat) (nl nl' : Bool) (xs ys : List PV) : Prim.run (.app e) [.slice nl xs, .slice nl' ys] = if (xs.length + ys.length) * e ≤ 140737488355328 then some (.slice (nl && ys.isEmpty) (xs ++ ys)) else none := rfl
@[simp] theorem run_app_str (e : Nat) (nl : Bool) (xs : List PV) (s : List UInt8) : Prim.run (.app e) [.slice nl xs, .str s] = if (xs.length + s.length) * e ≤ 140737488355328 then some (.slice (nl && s.isEmpty) (xs ++ bytesPV s)) else none := rfl
@[simp] theorem run_build (z : List PV) (is : List Nat) (xs : List PV) : Prim.run (.build z is) xs = if is.length = xs.length then (setAll z (is.zip xs)).map .agg else none := rfl
@[simp] theorem run_buildSl (z : PV) (n : Nat) (is : List Nat) (xs : List PV) : Prim.run (.buildSl z n is) xs = if is.length = xs.length then (setAll (List.replicate n z) (is.zip xs)).map (.slice false) else none := rfl
@[simp] theorem run_mkSl (z : PV) (e : Nat) (k k' : IntKind) (l c : Int) : Prim.run (.mkSl z e) [.int k l, .int k' c] = if 0 ≤ l ∧ l ≤ c ∧ c ≤ 9223372036854775807 ∧ c.toNat * e ≤ 140737488355328 then some (.slice false (List.replicate l.toNat z)) else none := rfl
@[simp] theorem run_copyTo (nl nl' : Bool) (xs ys : List PV) : Prim.run .copyTo [.slice nl xs, .slice nl' ys] = some (.slice nl (ys.take xs.length ++ xs.drop ys.length)) := rfl
@[simp] theorem run_copyN (nl nl' : Bool) (xs ys : List PV) : Prim.run .copyN [.slice nl xs, .slice nl' ys] = some (.int .i64 (min ys.length xs.length)) := by rfl
@[simp] theorem setAll_nil (xs : List PV) : setAll xs [] = some xs := rfl
@[simp] theorem setAll_cons (xs : List PV) (i : Nat) (y : PV) (r : List (Nat × PV)) : setAll xs ((i, y) :: r) = if i < xs.length then setAll (xs.set i y) r else none := rfl

/-! ints -/
@[simp] theorem run_add (k : IntKind) (a b : Int) : Prim.run (.bin .add) [.int k a, .int k b] = some (.int k (k.wrap (a + b))) := by simp [Prim.run, two, Vm.bin, isShift, binI]
@[simp] theorem run_sub (k : IntKind) (a b : Int) : Prim.run (.bin .sub) [.int k a, .int k b] = some (.int k (k.wrap (a - b))) := by simp [Prim.run, two, Vm.bin, isShift, binI]
@[simp] theorem run_mul (k : IntKind) (a b : Int) : Prim.run (.bin .mul) [.int k a, .int k b] = some (.int k (k.wrap (a * b))) := by simp [Prim.run, two, Vm.bin, isShift, binI]
@[simp] theorem run_quo (k : IntKind) (a b : Int) : Prim.run (.bin .quo) [.int k a, .int k b] = if b = 0 then none else some (.int k (k.wrap (a.tdiv b))) := by simp [Prim.run, two, Vm.bin, isShift, binI]
@[simp] theorem run_rem (k : IntKind) (a b : Int) : Prim.run (.bin .rem) [.int k a, .int k b] = if b = 0 then none else some (.int k (a.tmod b)) := by simp [Prim.run, two, Vm.bin, isShift, binI]
@[simp] theorem run_and (k : IntKind) (a b : Int) : Prim.run (.bin .and) [.int k a, .int k b] = some (.int k (bitsI (fun _ x y => x &&& y) k a b)) := by simp [Prim.run, two, Vm.bin, isShift, binI]
@[simp] theorem run_or (k : IntKind) (a b : Int) : Prim.run (.bin .or) [.int k a, .int k b] = some (.int k (bitsI (fun _ x y => x ||| y) k a b)) := by simp [Prim.run, two, Vm.bin, isShift, binI]
@[simp] theorem run_xor (k : IntKind) (a b : Int) : Prim.run (.bin .xor) [.int k a, .int k b] = some (.int k (bitsI (fun _ x y => x ^^^ y) k a b)) := by simp [Prim.run, two, Vm.bin, isShift, binI]
@[simp] theorem run_eql (k : IntKind) (a b : Int) : Prim.run (.bin .eql) [.int k a, .int k b] = some (.bool (decide (a = b))) := by simp [Prim.run, two, Vm.bin, isShift, binI, cmpI]
@[simp] theorem run_neq (k : IntKind) (a b : Int) : Prim.run (.bin .neq) [.int k a, .int k b] = some (.bool (!decide (a = b))) := by simp [Prim.run, two, Vm.bin, isShift, binI, cmpI]
@[simp] theorem run_lss (k : IntKind) (a b : Int) : Prim.run (.bin .lss) [.int k a, .int k b] = some (.bool (decide (a < b))) := by simp [Prim.run, two, Vm.bin, isShift, binI, cmpI]
@[simp] theorem run_leq (k : IntKind) (a b : Int) : Prim.run (.bin .leq) [.int k a, .int k b] = some (.bool (decide (a ≤ b))) := by simp [Prim.run, two, Vm.bin, isShift, binI, cmpI]
@[simp] theorem run_gtr (k : IntKind) (a b : Int) : Prim.run (.bin .gtr) [.int k a, .int k b] = some (.bool (decide (b < a))) := by simp [Prim.run, two, Vm.bin, isShift, binI, cmpI]
@[simp] theorem run_geq (k : IntKind) (a b : Int) : Prim.run (.bin .geq) [.int k a, .int k b] = some (.bool (decide (b ≤ a))) := by simp [Prim.run, two, Vm.bin, isShift, binI, cmpI]
@[simp] theorem run_shl (k k' : IntKind) (a b : Int) : Prim.run (.bin .shl) [.int k a, .int k' b] = if b < 0 then none else some (.int k (k.wrap (a * 2 ^ (min b.toNat k.bits)))) := by simp [Prim.run, two, Vm.bin, isShift, shiftI]
@[simp] theorem run_shr (k k' : IntKind) (a b : Int) : Prim.run (.bin .shr) [.int k a, .int k' b] = if b < 0 then none else some (.int k (a.fdiv (2 ^ (min b.toNat k.bits)))) := by simp [Prim.run, two, Vm.bin, isShift, shiftI]
@[simp] theorem run_neg (k : IntKind) (a : Int) : Prim.run (.un .neg) [.int k a] = some (.int k (k.wrap (0 - a))) := rfl
@[simp] theorem run_eqlS (x y : List UInt8) : Prim.run (.bin .eql) [.str x, .str y] = some (.bool (x == y)) := rfl
@[simp] theorem run_neqS (x y : List UInt8) : Prim.run (.bin .neq) [.str x, .str y] = some (.bool !(x == y)) := rfl
@[simp] theorem run_addS (x y : List UInt8) : Prim.run (.bin .add) [.str x, .str y] = if x.length + y.length ≤ 9223372036854775807 then some (.str (x ++ y)) else none := rfl
@[simp] theorem run_lssS (x y : List UInt8) : Prim.run (.bin .lss) [.str x, .str y] = some (.bool (Op.bytesLess x y)) := rfl

theorem bound_some (k : IntKind) (n : Int) (y : Nat) (d : Nat) : bound (some (.int k n)) d y = if 0 ≤ n ∧ n ≤ y then some n.toNat else none := rfl
@[simp] theorem run_sl3 (nl : Bool) (xs : List PV) (k k' : IntKind) (h m : Int) : Prim.run (.sl3 false) [.slice nl xs, .int k h, .int k' m] = if h = m then if 0 ≤ h ∧ h ≤ xs.length then some (.slice nl (xs.take h.toNat)) else none else none := by
  simp only [Prim.run, sl3V, intOf, List.getElem?_cons_zero, List.getElem?_cons_succ, Bool.false_eq_true, if_false, Option.bind_some, bound_some]
  split
  · split <;> simp [bound, sub]
  · rfl
@[simp] theorem run_sl_tt (nl : Bool) (xs : List PV) (k k' : IntKind) (l h : Int) : Prim.run (.sl true true) [.slice nl xs, .int k l, .int k' h] = if 0 ≤ h ∧ h ≤ xs.length then if 0 ≤ l ∧ l ≤ h then some (.slice nl ((xs.take h.toNat).drop l.toNat)) else none else none := by
  simp only [Prim.run, slV, List.getElem?_cons_zero, List.getElem?_cons_succ, if_true, bound_some]
  split
  · rename_i hh
    simp only [Option.bind_some]
    by_cases hl : 0 ≤ l ∧ l ≤ h
    · rw [if_pos ⟨hl.1, by omega⟩, if_pos hl]; rfl
    · rw [if_neg (by omega), if_neg hl]; rfl
  · rfl
@[simp] theorem run_sl_tf (nl : Bool) (xs : List PV) (k : IntKind) (l : Int) : Prim.run (.sl true false) [.slice nl xs, .int k l] = if 0 ≤ l ∧ l ≤ xs.length then some (.slice nl (xs.drop l.toNat)) else none := by
  simp only [Prim.run, slV, List.getElem?_cons_zero, if_true, bound_some, Bool.false_eq_true, if_false, bound, Nat.le_refl, Option.bind_some]
  split
  · simp [sub]
  · rfl
@[simp] theorem run_sl_ft (nl : Bool) (xs : List PV) (k : IntKind) (h : Int) : Prim.run (.sl false true) [.slice nl xs, .int k h] = if 0 ≤ h ∧ h ≤ xs.length then some (.slice nl (xs.take h.toNat)) else none := by
  simp only [Prim.run, slV, List.getElem?_cons_zero, if_true, bound_some, Bool.false_eq_true, if_false]
  split
  · simp [sub, bound]
  · rfl
@[simp] theorem run_slS_tt (xs : List UInt8) (k k' : IntKind) (l h : Int) : Prim.run (.sl true true) [.str xs, .int k l, .int k' h] = if 0 ≤ h ∧ h ≤ xs.length then if 0 ≤ l ∧ l ≤ h then some (.str ((xs.take h.toNat).drop l.toNat)) else none else none := by
  simp only [Prim.run, slV, List.getElem?_cons_zero, List.getElem?_cons_succ, if_true, bound_some]
  split
  · rename_i hh
    simp only [Option.bind_some]
    by_cases hl : 0 ≤ l ∧ l ≤ h
    · rw [if_pos ⟨hl.1, by omega⟩, if_pos hl]; rfl
    · rw [if_neg (by omega), if_neg hl]; rfl
  · rfl
@[simp] theorem run_slS_tf (xs : List UInt8) (k : IntKind) (l : Int) : Prim.run (.sl true false) [.str xs, .int k l] = if 0 ≤ l ∧ l ≤ xs.length then some (.str (xs.drop l.toNat)) else none := by
  simp only [Prim.run, slV, List.getElem?_cons_zero, if_true, bound_some, Bool.false_eq_true, if_false, bound, Nat.le_refl, Option.bind_some]
  split
  · simp [sub]
  · rfl
@[simp] theorem run_slS_ft (xs : List UInt8) (k : IntKind) (h : Int) : Prim.run (.sl false true) [.str xs, .int k h] = if 0 ≤ h ∧ h ≤ xs.length then some (.str (xs.take h.toNat)) else none := by
  simp only [Prim.run, slV, List.getElem?_cons_zero, if_true, bound_some, Bool.false_eq_true, if_false]
  split
  · simp [sub, bound]
  · rfl

theorem wrap_id {k : IntKind} {n : Int} (h1 : k.min ≤ n) (h2 : n ≤ k.max) : k.wrap n = n := by
  cases k <;> simp [IntKind.wrap, IntKind.min, IntKind.max, IntKind.signed, IntKind.bits] at h1 h2 ⊢ <;> (try split) <;> omega
theorem wrap_i64 {n : Int} (h1 : -9223372036854775808 ≤ n) (h2 : n ≤ 9223372036854775807) : IntKind.i64.wrap n = n := wrap_id h1 h2
end
@[simp] theorem get_cons0 (x : PV) (l : List PV) : get (x :: l) 0 = x := rfl
@[simp] theorem get_cons (x : PV) (l : List PV) (n : Nat) : get (x :: l) (n + 1) = get l n := by simp [get]
end Go.Vm

/-
  Bytes and ints, for the laws.
  Conditions: none.
-/
set_option linter.unusedVariables false
set_option linter.unusedSimpArgs false
namespace Go.Vm

@[simp] theorem bytesPV_len (s : List UInt8) : (bytesPV s).length = s.length := by simp [bytesPV]
theorem bytesPV_get (s : List UInt8) (i : Nat) : (bytesPV s)[i]? = (s[i]?).map fun b => .int .u8 b.toNat := by simp [bytesPV]
theorem bytesPV_set (s : List UInt8) (i : Nat) (v : UInt8) : (bytesPV s).set i (.int .u8 v.toNat) = bytesPV (s.set i v) := by simp [bytesPV, List.map_set]
theorem bytesPV_append (s t : List UInt8) : bytesPV (s ++ t) = bytesPV s ++ bytesPV t := by simp [bytesPV]
theorem bytesPV_cons (b : UInt8) (t : List UInt8) : bytesPV (b :: t) = .int .u8 b.toNat :: bytesPV t := by simp [bytesPV]
@[simp] theorem bytesPV_nil : bytesPV [] = [] := rfl
theorem bytesPV_take (s : List UInt8) (n : Nat) : (bytesPV s).take n = bytesPV (s.take n) := by simp [bytesPV, List.map_take]
theorem bytesPV_drop (s : List UInt8) (n : Nat) : (bytesPV s).drop n = bytesPV (s.drop n) := by simp [bytesPV, List.map_drop]
@[simp] theorem unbytes_bytesPV (s : List UInt8) : unbytes (bytesPV s) = some s := by
  induction s with
  | nil => rfl
  | cons b s ih =>
    rw [bytesPV_cons]
    simp [unbytes, ih]

theorem u8_wrap (b : UInt8) : IntKind.u8.wrap (b.toNat : Int) = (b.toNat : Int) := by
  have := b.toNat_lt
  exact wrap_id (by simp [IntKind.min, IntKind.signed]) (by simp [IntKind.max, IntKind.signed, IntKind.bits]; omega)

theorem xor8 (a b : UInt8) : bitsI (fun _ x y => x ^^^ y) .u8 (a.toNat : Int) (b.toNat : Int) = ((a ^^^ b).toNat : Int) := by
  have h : (BitVec.ofInt IntKind.u8.bits (a.toNat : Int) ^^^ BitVec.ofInt IntKind.u8.bits (b.toNat : Int)).toNat = (a ^^^ b).toNat := by
    have ha := a.toNat_lt
    have hb := b.toNat_lt
    simp [IntKind.bits, UInt8.toNat_xor, BitVec.ofInt_natCast]
    exact BitVec.toNat_xor _ _
  unfold bitsI
  rw [h]
  exact u8_wrap _

theorem xor_ne {a m : UInt8} (hm : m ≠ 0) : a ^^^ m ≠ a := fun h => by
  have : a ^^^ (a ^^^ m) = a ^^^ a := by rw [h]
  rw [← UInt8.xor_assoc, UInt8.xor_self, UInt8.zero_xor] at this
  exact hm this
theorem xor_xor (a m : UInt8) : (a ^^^ m) ^^^ m = a := by rw [UInt8.xor_assoc, UInt8.xor_self, UInt8.xor_zero]

def bitU (k : Nat) : UInt8 := UInt8.ofNat (2 ^ (k % 8))
theorem bitU_nat (k : Nat) : (bitU k).toNat = 2 ^ (k % 8) := by
  unfold bitU
  have h : k % 8 < 8 := Nat.mod_lt _ (by omega)
  have : 2 ^ (k % 8) < 256 := Nat.lt_of_lt_of_le (Nat.pow_lt_pow_right (by omega) h) (by decide)
  simp [Nat.mod_eq_of_lt this]
theorem bitU_ne (k : Nat) : bitU k ≠ 0 := fun h => by
  have := bitU_nat k
  rw [h] at this
  have h2 : 0 < 2 ^ (k % 8) := Nat.pow_pos (by omega)
  simp at this
  omega

/-- a string with one bit flipped -/
def flip (s : List UInt8) (k : Nat) : List UInt8 := s.set (k / 8) ((s[k / 8]?).getD 0 ^^^ bitU k)
@[simp] theorem flip_len (s : List UInt8) (k : Nat) : (flip s k).length = s.length := by simp [flip]
theorem flip_ne {s : List UInt8} {k : Nat} (h : k / 8 < s.length) : flip s k ≠ s := fun e => by
  have h1 : (flip s k)[k / 8]? = some ((s[k / 8]?).getD 0 ^^^ bitU k) := by simp [flip, h]
  rw [e, List.getElem?_eq_getElem h] at h1
  simp at h1
  exact xor_ne (bitU_ne k) h1.symm
theorem flip_flip (s : List UInt8) (k : Nat) : flip (flip s k) k = s := by
  by_cases h : k / 8 < s.length
  · have h1 : ((flip s k)[k / 8]?).getD 0 = (s[k / 8]?).getD 0 ^^^ bitU k := by simp [flip, h]
    have e : flip (flip s k) k = (flip s k).set (k / 8) (((flip s k)[k / 8]?).getD 0 ^^^ bitU k) := rfl
    rw [e, h1]
    simp only [flip, List.set_set]
    rw [xor_xor, List.getElem?_eq_getElem h]
    simp
  · simp [flip, List.set_eq_of_length_le (Nat.le_of_not_lt h)]

@[simp] theorem run_eqv_bool (n z a b : Bool) : Prim.run (.eqv n (.bool z)) [.bool a, .bool b] = some (.bool ((a == b) != n)) := rfl
theorem wrap_u64 (n : Int) : IntKind.u64.wrap n = n % 18446744073709551616 := by simp [IntKind.wrap, IntKind.signed, IntKind.bits]
theorem wrap_u64_id {n : Int} (h1 : 0 ≤ n) (h2 : n < 18446744073709551616) : IntKind.u64.wrap n = n := by rw [wrap_u64]; omega
theorem wrap_u8_id {n : Int} (h1 : 0 ≤ n) (h2 : n < 256) : IntKind.u8.wrap n = n := wrap_id (by simpa [IntKind.min, IntKind.signed] using h1) (by simp [IntKind.max, IntKind.signed, IntKind.bits]; omega)
end Go.Vm

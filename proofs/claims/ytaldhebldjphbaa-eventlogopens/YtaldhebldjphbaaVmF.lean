/-
  A verified evaluator of the program's functions by value, part 6.
  Conditions: none.
-/
import Derived.Test.YtaldhebldjphbaaVmE

/-
  How the value language's text is worked out: rules for 'simp'.
  Conditions: none.
-/
set_option linter.unusedVariables false
set_option linter.unusedSimpArgs false
namespace Go.Vm

section
variable {α : Type}
@[simp] theorem chk_bool (b : Bool) (K : PV → Option α) : chk (.bool b) K = K (.bool b) := rfl
@[simp] theorem chk_int (k : IntKind) (n : Int) (K : PV → Option α) : chk (.int k n) K = K (.int k n) := rfl
@[simp] theorem chk_str (s : List UInt8) (K : PV → Option α) : chk (.str s) K = K (.str s) := rfl
@[simp] theorem chk_agg (xs : List PV) (K : PV → Option α) : chk (.agg xs) K = K (.agg xs) := rfl
@[simp] theorem chk_slice (nl : Bool) (xs : List PV) (K : PV → Option α) : chk (.slice nl xs) K = K (.slice nl xs) := rfl
@[simp] theorem chk_tup (xs : List PV) (K : PV → Option α) : chk (.tup xs) K = K (.tup xs) := rfl
@[simp] theorem chk_ptr (p : List Nat) (K : PV → Option α) : chk (.ptr p) K = K (.ptr p) := rfl
@[simp] theorem asPath_ptr (p : List Nat) (K : List Nat → Option α) : asPath (.ptr p) K = K p := rfl
@[simp] theorem isB_bool (b : Bool) (x y : Option α) : isB (.bool b) x y = if b = true then x else y := by cases b <;> rfl
@[simp] theorem grd_bool (b w : Bool) (v : Option PV) : grd (.bool b) w v = if b = w then v else some .undef := rfl
@[simp] theorem grd_undef (w : Bool) (v : Option PV) : grd .undef w v = some .undef := rfl
@[simp] theorem nilK_nil (r : Option α) : nilK [] r = r := rfl
@[simp] theorem consK_cons (y : PV) (ys : List PV) (K : PV → List PV → Option α) : consK (y :: ys) K = K y ys := rfl
@[simp] theorem thenK_normal (s : St) (N : St → Option (List PV)) (K : RK) : thenK (.normal, s) N K = N s := rfl
@[simp] theorem thenK_ret (s : St) (N : St → Option (List PV)) (K : RK) : thenK (.ret, s) N K = K (.ret, s) := rfl
@[simp] theorem thenK_exit (i : Nat) (s : St) (N : St → Option (List PV)) (K : RK) : thenK (.exit i, s) N K = K (.exit i, s) := rfl
@[simp] theorem unblock_normal (i : Nat) (s : St) : unblock i (.normal, s) = (.normal, s) := rfl
@[simp] theorem unblock_ret (i : Nat) (s : St) : unblock i (.ret, s) = (.ret, s) := rfl
@[simp] theorem unblock_exit (i j : Nat) (s : St) : unblock i (.exit j, s) = if j = i then (.normal, s) else (.exit j, s) := rfl
@[simp] theorem seqK_normal (T : Nat → Option VFunc) (b : VCode) (K : RK) (s : St) : seqK T b K (.normal, s) = denK T b s K := rfl
@[simp] theorem seqK_ret (T : Nat → Option VFunc) (b : VCode) (K : RK) (s : St) : seqK T b K (.ret, s) = K (.ret, s) := rfl
@[simp] theorem seqK_exit (T : Nat → Option VFunc) (b : VCode) (K : RK) (i : Nat) (s : St) : seqK T b K (.exit i, s) = K (.exit i, s) := rfl
@[simp] theorem blockK_normal (i : Nat) (K : RK) (s : St) : blockK i K (.normal, s) = K (.normal, s) := rfl
@[simp] theorem blockK_ret (i : Nat) (K : RK) (s : St) : blockK i K (.ret, s) = K (.ret, s) := rfl
@[simp] theorem blockK_exit (i j : Nat) (K : RK) (s : St) : blockK i K (.exit j, s) = if j = i then K (.normal, s) else K (.exit j, s) := by
  unfold blockK; rw [unblock_exit]; split <;> rfl
@[simp] theorem againK_ret (T : Nat → Option VFunc) (kill : List Nat) (c : VCode) (K : RK) (s : St) : againK T kill c K (.ret, s) = K (.ret, s) := rfl
@[simp] theorem againK_exit (T : Nat → Option VFunc) (kill : List Nat) (c : VCode) (K : RK) (i : Nat) (s : St) : againK T kill c K (.exit i, s) = K (.exit i, s) := rfl
@[simp] theorem endK_exit (l : List Nat) (i : Nat) (s : St) : endK l (.exit i, s) = none := rfl
@[simp] theorem endK_ret (l : List Nat) (s : St) : endK l (.ret, s) = allDef (l.map (Vm.get s)) := rfl
@[simp] theorem endK_normal (l : List Nat) (s : St) : endK l (.normal, s) = allDef (l.map (Vm.get s)) := rfl
@[simp] theorem ret1 (x : PV) : retV 1 [x] = some x := rfl
@[simp] theorem ret2 (x y : PV) : retV 2 [x, y] = some (.tup [x, y]) := rfl
@[simp] theorem ret3 (x y z : PV) : retV 3 [x, y, z] = some (.tup [x, y, z]) := rfl
@[simp] theorem ret4 (x y z u : PV) : retV 4 [x, y, z, u] = some (.tup [x, y, z, u]) := rfl
@[simp] theorem ret0 : retV 0 [] = some (.tup []) := rfl
@[simp] theorem allDef_nil : allDef [] = some [] := rfl
@[simp] theorem allDef_bool (b : Bool) (l : List PV) : allDef (.bool b :: l) = (allDef l).map (.bool b :: ·) := rfl
@[simp] theorem allDef_int (k : IntKind) (n : Int) (l : List PV) : allDef (.int k n :: l) = (allDef l).map (.int k n :: ·) := rfl
@[simp] theorem allDef_str (s : List UInt8) (l : List PV) : allDef (.str s :: l) = (allDef l).map (.str s :: ·) := rfl
@[simp] theorem allDef_agg (s : List PV) (l : List PV) : allDef (.agg s :: l) = (allDef l).map (.agg s :: ·) := rfl
@[simp] theorem allDef_slice (nl : Bool) (s : List PV) (l : List PV) : allDef (.slice nl s :: l) = (allDef l).map (.slice nl s :: ·) := rfl

@[simp] theorem getP_nil (x : PV) : getP [] x = some x := by cases x <;> rfl
@[simp] theorem getP_agg (i : Nat) (p : List Nat) (xs : List PV) : getP (i :: p) (.agg xs) = (xs[i]?).bind (getP p) := rfl
@[simp] theorem getP_slice (i : Nat) (p : List Nat) (nl : Bool) (xs : List PV) : getP (i :: p) (.slice nl xs) = (xs[i]?).bind (getP p) := rfl
@[simp] theorem setP_nil (x y : PV) : setP [] x y = some y := by cases x <;> rfl
@[simp] theorem setP_agg (i : Nat) (p : List Nat) (xs : List PV) (y : PV) : setP (i :: p) (.agg xs) y = (xs[i]?).bind fun x => (setP p x y).map fun z => .agg (xs.set i z) := rfl
@[simp] theorem setP_slice (i : Nat) (p : List Nat) (nl : Bool) (xs : List PV) (y : PV) : setP (i :: p) (.slice nl xs) y = (xs[i]?).bind fun x => (setP p x y).map fun z => .slice nl (xs.set i z) := rfl
@[simp] theorem resultOf1 (x : PV) (l : List PV) : resultOf 1 (x :: l) = x := rfl

@[simp] theorem run_mov (x : PV) : Prim.run .mov [x] = some x := rfl
@[simp] theorem run_fptr (f : Nat) (p : List Nat) : Prim.run (.fptr f) [.ptr p] = some (.ptr (p ++ [f])) := rfl
@[simp] theorem run_aptr (n : Nat) (p : List Nat) (k : IntKind) (i : Int) : Prim.run (.aptr n) [.ptr p, .int k i] = if 0 ≤ i ∧ i < n then some (.ptr (p ++ [i.toNat])) else none := rfl
@[simp] theorem run_iptr (b : List Nat) (nl : Bool) (xs : List PV) (k : IntKind) (i : Int) : Prim.run (.iptr b) [.slice nl xs, .int k i] = if 0 ≤ i ∧ i < xs.length then some (.ptr (b ++ [i.toNat])) else none := rfl
@[simp] theorem run_load (x : PV) (p : List Nat) : Prim.run .load [x, .ptr p] = getP p x := by cases x <;> rfl
@[simp] theorem run_len_str (s : List UInt8) : Prim.run .len [.str s] = some (.int .i64 s.length) := rfl
@[simp] theorem run_len_slice (nl : Bool) (s : List PV) : Prim.run .len [.slice nl s] = some (.int .i64 s.length) := rfl
@[simp] theorem run_len_agg (s : List PV) : Prim.run .len [.agg s] = some (.int .i64 s.length) := rfl
@[simp] theorem run_not (b : Bool) : Prim.run (.un .not) [.bool b] = some (.bool !b) := rfl
@[simp] theorem run_ext (i : Nat) (xs : List PV) : Prim.run (.ext i) [.tup xs] = xs[i]? := rfl
@[simp] theorem run_field (i : Nat) (xs : List PV) : Prim.run (.field i) [.agg xs] = xs[i]? := rfl
@[simp] theorem run_isNil (n nl : Bool) (xs : List PV) : Prim.run (.isNil n) [.slice nl xs] = some (.bool (nl != n)) := rfl
@[simp] theorem run_toInt (k k' : IntKind) (n : Int) : Prim.run (.toInt k) [.int k' n] = some (.int k (k.wrap n)) := rfl
@[simp] theorem run_toBytes (s : List UInt8) : Prim.run .toBytes [.str s] = some (.slice false (bytesPV s)) := rfl
@[simp] theorem run_toStr_str (s : List UInt8) : Prim.run .toStr [.str s] = some (.str s) := rfl
@[simp] theorem run_toStr_slice (nl : Bool) (xs : List PV) : Prim.run .toStr [.slice nl xs] = (unbytes xs).map .str := rfl
@[simp] theorem run_min (k k' : IntKind) (a b : Int) : Prim.run .minI [.int k a, .int k' b] = some (.int k (if b < a then b else a)) := rfl
@[simp] theorem run_max (k k' : IntKind) (a b : Int) : Prim.run .maxI [.int k a, .int k' b] = some (.int k (if a < b then b else a)) := rfl
@[simp] theorem run_index_agg (xs : List PV) (k : IntKind) (i : Int) : Prim.run .index [.agg xs, .int k i] = if 0 ≤ i then xs[i.toNat]? else none := rfl
@[simp] theorem run_index_str (s : List UInt8) (k : IntKind) (i : Int) : Prim.run .index [.str s, .int k i] = if 0 ≤ i then (s[i.toNat]?).map fun b => .int .u8 b.toNat else none := rfl
@[simp] theorem run_tup (xs : List PV) : Prim.run .tup xs = some (.tup xs) := rfl
@[simp] theorem run_app (e : Nat) (nl nl' : Bool) (xs ys : List PV) : Prim.run (.app e) [.slice nl xs, .slice nl' ys] = if (xs.length + ys.length) * e ≤ 140737488355328 then some (.slice (nl && ys.isEmpty) (xs ++ ys)) else none := rfl
@[simp] theorem run_app_str (e : Nat) (nl : Bool) (xs : List PV) (s : List UInt8) : Prim.run (.app e) [.slice nl xs, .str s] = if (xs.length + s.length) * e ≤ 140737488355328 then some (.slice (nl && s.isEmpty) (xs ++ bytesPV s)) else none := rfl
@[simp] theorem run_build (z : List PV) (is : List Nat) (xs : List PV) : Prim.run (.build z is) xs = if is.length = xs.length then (setAll z (is.zip xs)).map .agg else none := rfl
@[simp] theorem run_buildSl (z : PV) (n : Nat) (is : List Nat) (xs : List PV) : Prim.run (.buildSl z n is) xs = if is.length = xs.length then (setAll (List.replicate n z) (is.zip xs)).map (.slice false) else none := rfl
@[simp] theorem run_mkSl (z : PV) (e : Nat) (k k' : IntKind) (l c : Int) : Prim.run (.mkSl z e) [.int k l, .int k' c] = if 0 ≤ l ∧ l ≤ c ∧ c ≤ 9223372036854775807 ∧ c.toNat * e ≤ 140737488355328 then some (.slice false (List.replicate l.toNat z)) else none := rfl
@[simp] theorem run_copyTo (nl nl' : Bool) (xs ys : List PV) : Prim.run .copyTo [.slice nl xs, .slice nl' ys] = some (.slice nl (ys.take xs.length ++ xs.drop ys.length)) := rfl
@[simp] theorem run_copyN (nl nl' : Bool) (xs ys : List PV) : Prim.run .copyN [.slice nl xs, .slice nl' ys] = some (.int .i64 (min ys.length xs.length)) := by rfl
@[simp] theorem setAll_nil (xs : List PV) : setAll xs [] = some xs := rfl
@[simp] theorem setAll_cons (xs : List PV) (i : Nat) (y : PV) (r : List (Nat × PV)) : setAll xs ((i, y) :: r) = if i < xs.length then setAll (xs.set i y) r else none := rfl

/-! ints -/
@[simp] theorem run_add (k : IntKind) (a b : Int) : Prim.run (.bin .add) [.int k a, .int k b] = some (.int k (k.wrap (a + b))) := by simp [Prim.run, two, Vm.bin, isShift, binI]
@[simp] theorem run_sub (k : IntKind) (a b : Int) : Prim.run (.bin .sub) [.int k a, .int k b] = some (.int k (k.wrap (a - b))) := by simp [Prim.run, two, Vm.bin, isShift, binI]
@[simp] theorem run_mul (k : IntKind) (a b : Int) : Prim.run (.bin .mul) [.int k a, .int k b] = some (.int k (k.wrap (a * b))) := by simp [Prim.run, two, Vm.bin, isShift, binI]
@[simp] theorem run_quo (k : IntKind) (a b : Int) : Prim.run (.bin .quo) [.int k a, .int k b] = if b = 0 then none else some (.int k (k.wrap (a.tdiv b))) := by simp [Prim.run, two, Vm.bin, isShift, binI]
@[simp] theorem run_rem (k : IntKind) (a b : Int) : Prim.run (.bin .rem) [.int k a, .int k b] = if b = 0 then none else some (.int k (a.tmod b)) := by simp [Prim.run, two, Vm.bin, isShift, binI]
@[simp] theorem run_and (k : IntKind) (a b : Int) : Prim.run (.bin .and) [.int k a, .int k b] = some (.int k (bitsI (fun _ x y => x &&& y) k a b)) := by simp [Prim.run, two, Vm.bin, isShift, binI]
@[simp] theorem run_or (k : IntKind) (a b : Int) : Prim.run (.bin .or) [.int k a, .int k b] = some (.int k (bitsI (fun _ x y => x ||| y) k a b)) := by simp [Prim.run, two, Vm.bin, isShift, binI]
@[simp] theorem run_xor (k : IntKind) (a b : Int) : Prim.run (.bin .xor) [.int k a, .int k b] = some (.int k (bitsI (fun _ x y => x ^^^ y) k a b)) := by simp [Prim.run, two, Vm.bin, isShift, binI]
@[simp] theorem run_eql (k : IntKind) (a b : Int) : Prim.run (.bin .eql) [.int k a, .int k b] = some (.bool (decide (a = b))) := by simp [Prim.run, two, Vm.bin, isShift, binI, cmpI]
@[simp] theorem run_neq (k : IntKind) (a b : Int) : Prim.run (.bin .neq) [.int k a, .int k b] = some (.bool (!decide (a = b))) := by simp [Prim.run, two, Vm.bin, isShift, binI, cmpI]
@[simp] theorem run_lss (k : IntKind) (a b : Int) : Prim.run (.bin .lss) [.int k a, .int k b] = some (.bool (decide (a < b))) := by simp [Prim.run, two, Vm.bin, isShift, binI, cmpI]
@[simp] theorem run_leq (k : IntKind) (a b : Int) : Prim.run (.bin .leq) [.int k a, .int k b] = some (.bool (decide (a ≤ b))) := by simp [Prim.run, two, Vm.bin, isShift, binI, cmpI]
@[simp] theorem run_gtr (k : IntKind) (a b : Int) : Prim.run (.bin .gtr) [.int k a, .int k b] = some (.bool (decide (b < a))) := by simp [Prim.run, two, Vm.bin, isShift, binI, cmpI]
@[simp] theorem run_geq (k : IntKind) (a b : Int) : Prim.run (.bin .geq) [.int k a, .int k b] = some (.bool (decide (b ≤ a))) := by simp [Prim.run, two, Vm.bin, isShift, binI, cmpI]
@[simp] theorem run_shl (k k' : IntKind) (a b : Int) : Prim.run (.bin .shl) [.int k a, .int k' b] = if b < 0 then none else some (.int k (k.wrap (a * 2 ^ (min b.toNat k.bits)))) := by simp [Prim.run, two, Vm.bin, isShift, shiftI]
@[simp] theorem run_shr (k k' : IntKind) (a b : Int) : Prim.run (.bin .shr) [.int k a, .int k' b] = if b < 0 then none else some (.int k (a.fdiv (2 ^ (min b.toNat k.bits)))) := by simp [Prim.run, two, Vm.bin, isShift, shiftI]
@[simp] theorem run_neg (k : IntKind) (a : Int) : Prim.run (.un .neg) [.int k a] = some (.int k (k.wrap (0 - a))) := rfl
@[simp] theorem run_eqlS (x y : List UInt8) : Prim.run (.bin .eql) [.str x, .str y] = some (.bool (x == y)) := rfl
@[simp] theorem run_neqS (x y : List UInt8) : Prim.run (.bin .neq) [.str x, .str y] = some (.bool !(x == y)) := rfl
@[simp] theorem run_addS (x y : List UInt8) : Prim.run (.bin .add) [.str x, .str y] = if x.length + y.length ≤ 9223372036854775807 then some (.str (x ++ y)) else none := rfl
@[simp] theorem run_lssS (x y : List UInt8) : Prim.run (.bin .lss) [.str x, .str y] = some (.bool (Op.bytesLess x y)) := rfl

theorem bound_some (k : IntKind) (n : Int) (y : Nat) (d : Nat) : bound (some (.int k n)) d y = if 0 ≤ n ∧ n ≤ y then some n.toNat else none := rfl
@[simp] theorem run_sl3 (nl : Bool) (xs : List PV) (k k' : IntKind) (h m : Int) : Prim.run (.sl3 false) [.slice nl xs, .int k h, .int k' m] = if h = m then if 0 ≤ h ∧ h ≤ xs.length then some (.slice nl (xs.take h.toNat)) else none else none := by
  simp only [Prim.run, sl3V, intOf, List.getElem?_cons_zero, List.getElem?_cons_succ, Bool.false_eq_true, if_false, Option.bind_some, bound_some]
  split
  · split <;> simp [bound, sub]
  · rfl
@[simp] theorem run_sl_tt (nl : Bool) (xs : List PV) (k k' : IntKind) (l h : Int) : Prim.run (.sl true true) [.slice nl xs, .int k l, .int k' h] = if 0 ≤ h ∧ h ≤ xs.length then if 0 ≤ l ∧ l ≤ h then some (.slice nl ((xs.take h.toNat).drop l.toNat)) else none else none := by
  simp only [Prim.run, slV, List.getElem?_cons_zero, List.getElem?_cons_succ, if_true, bound_some]
  split
  · rename_i hh
    simp only [Option.bind_some]
    by_cases hl : 0 ≤ l ∧ l ≤ h
    · rw [if_pos ⟨hl.1, by omega⟩, if_pos hl]; rfl
    · rw [if_neg (by omega), if_neg hl]; rfl
  · rfl
@[simp] theorem run_sl_tf (nl : Bool) (xs : List PV) (k : IntKind) (l : Int) : Prim.run (.sl true false) [.slice nl xs, .int k l] = if 0 ≤ l ∧ l ≤ xs.length then some (.slice nl (xs.drop l.toNat)) else none := by
  simp only [Prim.run, slV, List.getElem?_cons_zero, if_true, bound_some, Bool.false_eq_true, if_false, bound, Nat.le_refl, Option.bind_some]
  split
  · simp [sub]
  · rfl
@[simp] theorem run_sl_ft (nl : Bool) (xs : List PV) (k : IntKind) (h : Int) : Prim.run (.sl false true) [.slice nl xs, .int k h] = if 0 ≤ h ∧ h ≤ xs.length then some (.slice nl (xs.take h.toNat)) else none := by
  simp only [Prim.run, slV, List.getElem?_cons_zero, if_true, bound_some, Bool.false_eq_true, if_false]
  split
  · simp [sub, bound]
  · rfl
@[simp] theorem run_slS_tt (xs : List UInt8) (k k' : IntKind) (l h : Int) : Prim.run (.sl true true) [.str xs, .int k l, .int k' h] = if 0 ≤ h ∧ h ≤ xs.length then if 0 ≤ l ∧ l ≤ h then some (.str ((xs.take h.toNat).drop l.toNat)) else none else none := by
  simp only [Prim.run, slV, List.getElem?_cons_zero, List.getElem?_cons_succ, if_true, bound_some]
  split
  · rename_i hh
    simp only [Option.bind_some]
    by_cases hl : 0 ≤ l ∧ l ≤ h
    · rw [if_pos ⟨hl.1, by omega⟩, if_pos hl]; rfl
    · rw [if_neg (by omega), if_neg hl]; rfl
  · rfl
@[simp] theorem run_slS_tf (xs : List UInt8) (k : IntKind) (l : Int) : Prim.run (.sl true false) [.str xs, .int k l] = if 0 ≤ l ∧ l ≤ xs.length then some (.str (xs.drop l.toNat)) else none := by
  simp only [Prim.run, slV, List.getElem?_cons_zero, if_true, bound_some, Bool.false_eq_true, if_false, bound, Nat.le_refl, Option.bind_some]
  split
  · simp [sub]
  · rfl
@[simp] theorem run_slS_ft (xs : List UInt8) (k : IntKind) (h : Int) : Prim.run (.sl false true) [.str xs, .int k h] = if 0 ≤ h ∧ h ≤ xs.length then some (.str (xs.take h.toNat)) else none := by
  simp only [Prim.run, slV, List.getElem?_cons_zero, if_true, bound_some, Bool.false_eq_true, if_false]
  split
  · simp [sub, bound]
  · rfl

theorem wrap_id {k : IntKind} {n : Int} (h1 : k.min ≤ n) (h2 : n ≤ k.max) : k.wrap n = n := by
  cases k <;> simp [IntKind.wrap, IntKind.min, IntKind.max, IntKind.signed, IntKind.bits] at h1 h2 ⊢ <;> (try split) <;> omega
theorem wrap_i64 {n : Int} (h1 : -9223372036854775808 ≤ n) (h2 : n ≤ 9223372036854775807) : IntKind.i64.wrap n = n := wrap_id h1 h2
end
@[simp] theorem get_cons0 (x : PV) (l : List PV) : get (x :: l) 0 = x := rfl
@[simp] theorem get_cons (x : PV) (l : List PV) (n : Nat) : get (x :: l) (n + 1) = get l n := by simp [get]
end Go.Vm

/-
  Bytes and ints, for the laws.
  Conditions: none.
-/
set_option linter.unusedVariables false
set_option linter.unusedSimpArgs false
namespace Go.Vm

@[simp] theorem bytesPV_len (s : List UInt8) : (bytesPV s).length = s.length := by simp [bytesPV]
theorem bytesPV_get (s : List UInt8) (i : Nat) : (bytesPV s)[i]? = (s[i]?).map fun b => .int .u8 b.toNat := by simp [bytesPV]
theorem bytesPV_set (s : List UInt8) (i : Nat) (v : UInt8) : (bytesPV s).set i (.int .u8 v.toNat) = bytesPV (s.set i v) := by simp [bytesPV, List.map_set]
theorem bytesPV_append (s t : List UInt8) : bytesPV (s ++ t) = bytesPV s ++ bytesPV t := by simp [bytesPV]
theorem bytesPV_cons (b : UInt8) (t : List UInt8) : bytesPV (b :: t) = .int .u8 b.toNat :: bytesPV t := by simp [bytesPV]
@[simp] theorem bytesPV_nil : bytesPV [] = [] := rfl
theorem bytesPV_take (s : List UInt8) (n : Nat) : (bytesPV s).take n = bytesPV (s.take n) := by simp [bytesPV, List.map_take]
theorem bytesPV_drop (s : List UInt8) (n : Nat) : (bytesPV s).drop n = bytesPV (s.drop n) := by simp [bytesPV, List.map_drop]
@[simp] theorem unbytes_bytesPV (s : List UInt8) : unbytes (bytesPV s) = some s := by
  induction s with
  | nil => rfl
  | cons b s ih =>
    rw [bytesPV_cons]
    simp [unbytes, ih]

theorem u8_wrap (b : UInt8) : IntKind.u8.wrap (b.toNat : Int) = (b.toNat : Int) := by
  have := b.toNat_lt
  exact wrap_id (by simp [IntKind.min, IntKind.signed]) (by simp [IntKind.max, IntKind.signed, IntKind.bits]; omega)

theorem xor8 (a b : UInt8) : bitsI (fun _ x y => x ^^^ y) .u8 (a.toNat : Int) (b.toNat : Int) = ((a ^^^ b).toNat : Int) := by
  have h : (BitVec.ofInt IntKind.u8.bits (a.toNat : Int) ^^^ BitVec.ofInt IntKind.u8.bits (b.toNat : Int)).toNat = (a ^^^ b).toNat := by
    have ha := a.toNat_lt
    have hb := b.toNat_lt
    simp [IntKind.bits, UInt8.toNat_xor, BitVec.ofInt_natCast]
    exact BitVec.toNat_xor _ _
  unfold bitsI
  rw [h]
  exact u8_wrap _

theorem xor_ne {a m : UInt8} (hm : m ≠ 0) : a ^^^ m ≠ a := fun h => by
  have : a ^^^ (a ^^^ m) = a ^^^ a := by rw [h]
  rw [← UInt8.xor_assoc, UInt8.xor_self, UInt8.zero_xor] at this
  exact hm this
theorem xor_xor (a m : UInt8) : (a ^^^ m) ^^^ m = a := by rw [UInt8.xor_assoc, UInt8.xor_self, UInt8.xor_zero]

def bitU (k : Nat) : UInt8 := UInt8.ofNat (2 ^ (k % 8))
theorem bitU_nat (k : Nat) : (bitU k).toNat = 2 ^ (k % 8) := by
  unfold bitU
  have h : k % 8 < 8 := Nat.mod_lt _ (by omega)
  have : 2 ^ (k % 8) < 256 := Nat.lt_of_lt_of_le (Nat.pow_lt_pow_right (by omega) h) (by decide)
  simp [Nat.mod_eq_of_lt this]
theorem bitU_ne (k : Nat) : bitU k ≠ 0 := fun h => by
  have := bitU_nat k
  rw [h] at this
  have h2 : 0 < 2 ^ (k % 8) := Nat.pow_pos (by omega)
  simp at this
  omega

/-- a string with one bit flipped -/
def flip (s : List UInt8) (k : Nat) : List UInt8 := s.set (k / 8) ((s[k / 8]?).getD 0 ^^^ bitU k)
@[simp] theorem flip_len (s : List UInt8) (k : Nat) : (flip s k).length = s.length := by simp [flip]
theorem flip_ne {s : List UInt8} {k : Nat} (h : k / 8 < s.length) : flip s k ≠ s := fun e => by
  have h1 : (flip s k)[k / 8]? = some ((s[k / 8]?).getD 0 ^^^ bitU k) := by simp [flip, h]
  rw [e, List.getElem?_eq_getElem h] at h1
  simp at h1
  exact xor_ne (bitU_ne k) h1.symm
theorem flip_flip (s : List UInt8) (k : Nat) : flip (flip s k) k = s := by
  by_cases h : k / 8 < s.length
  · have h1 : ((flip s k)[k / 8]?).getD 0 = (s[k / 8]?).getD 0 ^^^ bitU k := by simp [flip, h]
    have e : flip (flip s k) k = (flip s k).set (k / 8) (((flip s k)[k / 8]?).getD 0 ^^^ bitU k) := rfl
    rw [e, h1]
    simp only [flip, List.set_set]
    rw [xor_xor, List.getElem?_eq_getElem h]
    simp
  · simp [flip, List.set_eq_of_length_le (Nat.le_of_not_lt h)]

theorem run_eqv (n : Bool) (z x y : PV) : Prim.run (.eqv n z) [x, y] = if fits z x && fits z y then (eqP x y).map fun b => .bool (b != n) else none := rfl
@[simp] theorem run_eqv_bool (n z a b : Bool) : Prim.run (.eqv n (.bool z)) [.bool a, .bool b] = some (.bool ((a == b) != n)) := rfl
theorem wrap_u64 (n : Int) : IntKind.u64.wrap n = n % 18446744073709551616 := by simp [IntKind.wrap, IntKind.signed, IntKind.bits]
theorem wrap_u64_id {n : Int} (h1 : 0 ≤ n) (h2 : n < 18446744073709551616) : IntKind.u64.wrap n = n := by rw [wrap_u64]; omega
theorem wrap_u8_id {n : Int} (h1 : 0 ≤ n) (h2 : n < 256) : IntKind.u8.wrap n = n := wrap_id (by simpa [IntKind.min, IntKind.signed] using h1) (by simp [IntKind.max, IntKind.signed, IntKind.bits]; omega)
end Go.Vm

/-
  Unsigned numbers, variable-length numbers, hashes.
  Conditions: none.
-/
set_option linter.unusedVariables false
set_option linter.unusedSimpArgs false
namespace Go.Vm

theorem wrap_u32_id {n : Int} (h1 : 0 ≤ n) (h2 : n < 4294967296) : IntKind.u32.wrap n = n := wrap_id (by simpa [IntKind.min, IntKind.signed] using h1) (by simp [IntKind.max, IntKind.signed, IntKind.bits]; omega)
theorem bv_or {n a b : Nat} (ha : a < 2 ^ n) (hb : b < 2 ^ n) : (BitVec.ofInt n (a : Int) ||| BitVec.ofInt n (b : Int)).toNat = a ||| b := by
  rw [BitVec.toNat_or, BitVec.ofInt_natCast, BitVec.ofInt_natCast, BitVec.toNat_ofNat, BitVec.toNat_ofNat, Nat.mod_eq_of_lt ha, Nat.mod_eq_of_lt hb]
theorem bv_and {n a b : Nat} (ha : a < 2 ^ n) (hb : b < 2 ^ n) : (BitVec.ofInt n (a : Int) &&& BitVec.ofInt n (b : Int)).toNat = a &&& b := by
  rw [BitVec.toNat_and, BitVec.ofInt_natCast, BitVec.ofInt_natCast, BitVec.toNat_ofNat, BitVec.toNat_ofNat, Nat.mod_eq_of_lt ha, Nat.mod_eq_of_lt hb]
theorem bv_xor {n a b : Nat} (ha : a < 2 ^ n) (hb : b < 2 ^ n) : (BitVec.ofInt n (a : Int) ^^^ BitVec.ofInt n (b : Int)).toNat = a ^^^ b := by
  rw [BitVec.toNat_xor, BitVec.ofInt_natCast, BitVec.ofInt_natCast, BitVec.toNat_ofNat, BitVec.toNat_ofNat, Nat.mod_eq_of_lt ha, Nat.mod_eq_of_lt hb]
theorem or64 {a b : Nat} (ha : a < 18446744073709551616) (hb : b < 18446744073709551616) : bitsI (fun _ x y => x ||| y) .u64 (a : Int) (b : Int) = ((a ||| b : Nat) : Int) := by
  have h1 := bv_or (n := IntKind.u64.bits) (a := a) (b := b) ha hb
  have h2 : a ||| b < 2 ^ 64 := Nat.or_lt_two_pow ha hb
  unfold bitsI
  rw [h1]
  exact wrap_u64_id (Int.natCast_nonneg _) (Int.ofNat_lt.2 h2)
theorem xor64 {a b : Nat} (ha : a < 18446744073709551616) (hb : b < 18446744073709551616) : bitsI (fun _ x y => x ^^^ y) .u64 (a : Int) (b : Int) = ((a ^^^ b : Nat) : Int) := by
  have h1 := bv_xor (n := IntKind.u64.bits) (a := a) (b := b) ha hb
  have h2 : a ^^^ b < 2 ^ 64 := Nat.xor_lt_two_pow ha hb
  unfold bitsI
  rw [h1]
  exact wrap_u64_id (Int.natCast_nonneg _) (Int.ofNat_lt.2 h2)
theorem and64 {a b : Nat} (ha : a < 18446744073709551616) (hb : b < 18446744073709551616) : bitsI (fun _ x y => x &&& y) .u64 (a : Int) (b : Int) = ((a &&& b : Nat) : Int) := by
  have h1 := bv_and (n := IntKind.u64.bits) (a := a) (b := b) ha hb
  have h2 : a &&& b < 2 ^ 64 := Nat.and_lt_two_pow a hb
  unfold bitsI
  rw [h1]
  exact wrap_u64_id (Int.natCast_nonneg _) (Int.ofNat_lt.2 h2)
theorem or32 {a b : Nat} (ha : a < 4294967296) (hb : b < 4294967296) : bitsI (fun _ x y => x ||| y) .u32 (a : Int) (b : Int) = ((a ||| b : Nat) : Int) := by
  have h1 := bv_or (n := IntKind.u32.bits) (a := a) (b := b) ha hb
  have h2 : a ||| b < 2 ^ 32 := Nat.or_lt_two_pow ha hb
  unfold bitsI
  rw [h1]
  exact wrap_u32_id (Int.natCast_nonneg _) (Int.ofNat_lt.2 h2)
theorem xor32 {a b : Nat} (ha : a < 4294967296) (hb : b < 4294967296) : bitsI (fun _ x y => x ^^^ y) .u32 (a : Int) (b : Int) = ((a ^^^ b : Nat) : Int) := by
  have h1 := bv_xor (n := IntKind.u32.bits) (a := a) (b := b) ha hb
  have h2 : a ^^^ b < 2 ^ 32 := Nat.xor_lt_two_pow ha hb
  unfold bitsI
  rw [h1]
  exact wrap_u32_id (Int.natCast_nonneg _) (Int.ofNat_lt.2 h2)
theorem and32 {a b : Nat} (ha : a < 4294967296) (hb : b < 4294967296) : bitsI (fun _ x y => x &&& y) .u32 (a : Int) (b : Int) = ((a &&& b : Nat) : Int) := by
  have h1 := bv_and (n := IntKind.u32.bits) (a := a) (b := b) ha hb
  have h2 : a &&& b < 2 ^ 32 := Nat.and_lt_two_pow a hb
  unfold bitsI
  rw [h1]
  exact wrap_u32_id (Int.natCast_nonneg _) (Int.ofNat_lt.2 h2)
theorem or8n {a b : Nat} (ha : a < 256) (hb : b < 256) : bitsI (fun _ x y => x ||| y) .u8 (a : Int) (b : Int) = ((a ||| b : Nat) : Int) := by
  have h1 := bv_or (n := IntKind.u8.bits) (a := a) (b := b) ha hb
  have h2 : a ||| b < 2 ^ 8 := Nat.or_lt_two_pow ha hb
  unfold bitsI
  rw [h1]
  exact wrap_u8_id (Int.natCast_nonneg _) (Int.ofNat_lt.2 h2)
theorem xor8n {a b : Nat} (ha : a < 256) (hb : b < 256) : bitsI (fun _ x y => x ^^^ y) .u8 (a : Int) (b : Int) = ((a ^^^ b : Nat) : Int) := by
  have h1 := bv_xor (n := IntKind.u8.bits) (a := a) (b := b) ha hb
  have h2 : a ^^^ b < 2 ^ 8 := Nat.xor_lt_two_pow ha hb
  unfold bitsI
  rw [h1]
  exact wrap_u8_id (Int.natCast_nonneg _) (Int.ofNat_lt.2 h2)
theorem and8n {a b : Nat} (ha : a < 256) (hb : b < 256) : bitsI (fun _ x y => x &&& y) .u8 (a : Int) (b : Int) = ((a &&& b : Nat) : Int) := by
  have h1 := bv_and (n := IntKind.u8.bits) (a := a) (b := b) ha hb
  have h2 : a &&& b < 2 ^ 8 := Nat.and_lt_two_pow a hb
  unfold bitsI
  rw [h1]
  exact wrap_u8_id (Int.natCast_nonneg _) (Int.ofNat_lt.2 h2)
theorem low7 (b : UInt8) : bitsI (fun _ x y => x &&& y) .u8 (b.toNat : Int) 127 = ((b.toNat % 128 : Nat) : Int) := by
  have h := and8n (a := b.toNat) (b := 127) b.toNat_lt (by decide)
  rw [show ((127 : Nat) : Int) = 127 from rfl] at h
  rw [h]
  have := Nat.and_two_pow_sub_one_eq_mod b.toNat 7
  simp at this
  rw [this]
set_option maxRecDepth 100000 in
theorem top8 (x : Nat) : bitsI (fun _ x y => x ||| y) .u8 ((x % 256 : Nat) : Int) 128 = ((x % 128 + 128 : Nat) : Int) := by
  have hx : x % 256 < 256 := Nat.mod_lt _ (by decide)
  have h := or8n (a := x % 256) (b := 128) hx (by decide)
  rw [show ((128 : Nat) : Int) = 128 from rfl] at h
  rw [h]
  have key : ∀ n : Fin 256, n.val ||| 128 = n.val % 128 + 128 := by decide
  have := key ⟨x % 256, hx⟩
  simp only [] at this
  rw [this]
  congr 1
  omega
theorem wrap_u8 (x : Nat) : IntKind.u8.wrap (x : Int) = ((x % 256 : Nat) : Int) := by
  simp [IntKind.wrap, IntKind.signed, IntKind.bits]

/-- a number in sevens of bits -/
def uvar (x : Nat) : List UInt8 := if h : x < 128 then [UInt8.ofNat x] else UInt8.ofNat (x % 128 + 128) :: uvar (x / 128)
termination_by x
decreasing_by omega

theorem uvar_len : ∀ (n x : Nat), x < 128 ^ n → 0 < n → (uvar x).length ≤ n
  | 0, x, h, h0 => by omega
  | n + 1, x, h, _ => by
    unfold uvar
    split
    · simp
    · rename_i hx
      simp only [List.length_cons]
      have h2 : x / 128 < 128 ^ n := by
        rw [Nat.pow_succ] at h
        exact Nat.div_lt_of_lt_mul (by rw [Nat.mul_comm]; exact h)
      have hn : 0 < n := by
        rcases Nat.eq_zero_or_pos n with rfl | hn
        · simp at h; omega
        · exact hn
      have := uvar_len n (x / 128) h2 hn
      omega
theorem uvar_pos (x : Nat) : 0 < (uvar x).length := by unfold uvar; split <;> simp

/-- a number read from the front: the number, how many bytes, whether it is one -/
def unvar : Nat → Nat → List UInt8 → Nat × Nat × Bool
  | i, _, [] => (0, 0, false)
  | i, acc, b :: s =>
    if i < 10 then
      if i = 9 ∧ 1 < b.toNat then (0, 0, false)
      else if b.toNat < 128 then
        if b.toNat = 0 ∧ 0 < i then (0, 0, false) else (acc + b.toNat % 128 * 2 ^ (7 * i), i + 1, true)
      else unvar (i + 1) (acc + b.toNat % 128 * 2 ^ (7 * i)) s
    else (0, 0, false)

theorem unvar_uvar : ∀ (n x i acc : Nat) (rest : List UInt8), x < 2 ^ (64 - 7 * i) → i ≤ 9 → (0 < i → 0 < x) → 10 ≤ i + n → unvar i acc (uvar x ++ rest) = (acc + x * 2 ^ (7 * i), i + (uvar x).length, true)
  | n, x, i, acc, rest, hx, hi, h0, hn => by
    by_cases h : x < 128
    · have hu : uvar x = [UInt8.ofNat x] := by unfold uvar; rw [dif_pos h]
      have ht : (UInt8.ofNat x).toNat = x := by simp; omega
      rw [hu]
      simp only [List.cons_append, List.nil_append, unvar, ht, List.length_cons, List.length_nil]
      rw [if_pos (by omega), if_neg, if_pos h, if_neg, Nat.mod_eq_of_lt h]
      · rintro ⟨h1, h2⟩; have := h0 h2; omega
      · rintro ⟨rfl, h2⟩; simp at hx; omega
    · have hu : uvar x = UInt8.ofNat (x % 128 + 128) :: uvar (x / 128) := by conv => lhs; unfold uvar
                                                                             rw [dif_neg h]
      have ht : (UInt8.ofNat (x % 128 + 128)).toNat = x % 128 + 128 := by simp; omega
      have hi9 : i < 9 := by
        rcases Nat.lt_or_ge i 9 with h9 | h9
        · exact h9
        · have : i = 9 := by omega
          subst this; simp at hx; omega
      cases n with
      | zero => omega
      | succ n =>
        have hx2 : x / 128 < 2 ^ (64 - 7 * (i + 1)) := by
          have : 2 ^ (64 - 7 * i) = 128 * 2 ^ (64 - 7 * (i + 1)) := by
            rw [show 64 - 7 * i = 7 + (64 - 7 * (i + 1)) by omega, Nat.pow_add]
          rw [this] at hx
          exact Nat.div_lt_of_lt_mul hx
        have ih := unvar_uvar n (x / 128) (i + 1) (acc + x % 128 * 2 ^ (7 * i)) rest hx2 (by omega) (fun _ => by omega) (by omega)
        rw [hu]
        simp only [List.cons_append, unvar, ht, List.length_cons]
        rw [if_pos (by omega), if_neg (by omega), if_neg (by omega), show (x % 128 + 128) % 128 = x % 128 by omega, ih]
        have : x / 128 * 2 ^ (7 * (i + 1)) = x / 128 * 128 * 2 ^ (7 * i) := by
          rw [show 7 * (i + 1) = 7 + 7 * i by omega, Nat.pow_add, Nat.mul_assoc]
        rw [this, Nat.add_assoc, ← Nat.add_mul, show x % 128 + x / 128 * 128 = x by omega]
        congr 2; omega

theorem unvar_bounds : ∀ (s : List UInt8) (i acc : Nat), acc < 2 ^ (7 * i) → i ≤ 10 → (unvar i acc s).1 < 18446744073709551616 ∧ (unvar i acc s).2.1 ≤ i + s.length
  | [], i, acc, _, _ => by simp [unvar]
  | b :: s, i, acc, ha, hi => by
    unfold unvar
    split
    · rename_i h10
      split
      · simp
      · rename_i h9
        have hb : b.toNat % 128 < 128 := Nat.mod_lt _ (by decide)
        have hlt : acc + b.toNat % 128 * 2 ^ (7 * i) < 2 ^ (7 * (i + 1)) := by
          rw [show 7 * (i + 1) = 7 + 7 * i by omega, Nat.pow_add]
          have : b.toNat % 128 * 2 ^ (7 * i) ≤ 127 * 2 ^ (7 * i) := Nat.mul_le_mul_right _ (by omega)
          omega
        split
        · split
          · simp
          · refine ⟨?_, by simp only [List.length_cons]; omega⟩
            show acc + b.toNat % 128 * 2 ^ (7 * i) < _
            by_cases h : i = 9
            · subst h
              have : b.toNat % 128 ≤ 1 := by omega
              have h2 : b.toNat % 128 * 2 ^ (7 * 9) ≤ 1 * 2 ^ (7 * 9) := Nat.mul_le_mul_right _ this
              have : acc < 2 ^ (7 * 9) := ha
              omega
            · have : 2 ^ (7 * (i + 1)) ≤ 2 ^ 63 := Nat.pow_le_pow_right (by decide) (by omega)
              omega
        · obtain ⟨h1, h2⟩ := unvar_bounds s (i + 1) _ hlt (by omega)
          exact ⟨h1, by simp only [List.length_cons]; omega⟩
    · simp

/-- the hash of bytes -/
def fnv (h : Nat) (s : List UInt8) : Nat := s.foldl (fun h b => (h ^^^ b.toNat) * 1099511628211 % 18446744073709551616) h
theorem fnv_lt {h : Nat} (hh : h < 18446744073709551616) : ∀ (s : List UInt8), fnv h s < 18446744073709551616
  | [] => hh
  | b :: s => fnv_lt (Nat.mod_lt _ (by decide)) s
theorem fnv_cons (h : Nat) (b : UInt8) (s : List UInt8) : fnv h (b :: s) = fnv ((h ^^^ b.toNat) * 1099511628211 % 18446744073709551616) s := rfl
def hash0 : Nat := 14695981039346656037
def sum8 (s : List UInt8) : List UInt8 := (List.range 8).map fun i => UInt8.ofNat (fnv hash0 s / 2 ^ (56 - 8 * i) % 256)
@[simp] theorem sum8_len (s : List UInt8) : (sum8 s).length = 8 := by simp [sum8]
/-- a sealed string -/
def sealS (seq : Nat) (body : List UInt8) : List UInt8 := let s := uvar seq ++ (uvar body.length ++ body); s ++ sum8 s
end Go.Vm

/-
  Sealed strings: what is sealed is opened again; with one bit flipped it is not.
  Conditions: none.
-/
set_option linter.unusedVariables false
set_option linter.unusedSimpArgs false
namespace Go.Vm

/-- a sealed string, opened: number, body, error (0: none) -/
def openS (s : List UInt8) : Nat × List UInt8 × Nat :=
  let v1 := unvar 0 0 s
  let s1 := s.drop v1.2.1
  let v2 := unvar 0 0 s1
  let s2 := s1.drop v2.2.1
  if s2.length < v2.1 then (0, [], 1900)
  else if (v1.2.2 && v2.2.2) = true ∧ (s2.drop v2.1).length = 8 then
    (if s2.drop v2.1 = sum8 (s.take (s.length - 8)) then (v1.1, s2.take v2.1, 0) else (0, [], 1903))
  else (0, [], 1900)

theorem open_seal (x : Nat) (b : List UInt8) (hx : x < 18446744073709551616) (hb : b.length < 18446744073709551616) : openS (sealS x b) = (x, b, 0) := by
  have hs : sealS x b = uvar x ++ (uvar b.length ++ (b ++ sum8 (uvar x ++ (uvar b.length ++ b)))) := by simp [sealS]
  have h1 : unvar 0 0 (sealS x b) = (x, (uvar x).length, true) := by
    rw [hs, unvar_uvar 10 x 0 0 _ (by simpa using hx) (by omega) (fun h => by omega) (by omega)]; simp
  have h2 : (sealS x b).drop (uvar x).length = uvar b.length ++ (b ++ sum8 (uvar x ++ (uvar b.length ++ b))) := by rw [hs, List.drop_left]
  have h3 : unvar 0 0 (uvar b.length ++ (b ++ sum8 (uvar x ++ (uvar b.length ++ b)))) = (b.length, (uvar b.length).length, true) := by
    rw [unvar_uvar 10 b.length 0 0 _ (by simpa using hb) (by omega) (fun h => by omega) (by omega)]; simp
  have h4 : (sealS x b).take ((sealS x b).length - 8) = uvar x ++ (uvar b.length ++ b) := by
    have : sealS x b = (uvar x ++ (uvar b.length ++ b)) ++ sum8 (uvar x ++ (uvar b.length ++ b)) := rfl
    rw [this, List.length_append, sum8_len, Nat.add_sub_cancel, List.take_left]
  unfold openS
  simp only [h1, h2, h3, h4, List.drop_left, List.take_left]
  rw [if_neg (by simp), if_pos ⟨by simp, by simp⟩, if_pos trivial]

theorem step_inj {h1 h2 a b : Nat} (e1 : h1 < 18446744073709551616) (e2 : h2 < 18446744073709551616) (ha : a < 256) (hb : b < 256)
    (h : (h1 ^^^ a) * 1099511628211 % 18446744073709551616 = (h2 ^^^ b) * 1099511628211 % 18446744073709551616) : h1 ^^^ a = h2 ^^^ b := by
  have key : ∀ x, x < 18446744073709551616 → x * 1099511628211 % 18446744073709551616 * 14886173955864302971 % 18446744073709551616 = x := fun x hx => by
    rw [Nat.mod_mul_mod, Nat.mul_assoc, show 1099511628211 * 14886173955864302971 = 1 + 887285111055 * 18446744073709551616 from by decide]
    rw [Nat.mul_add, Nat.mul_one, ← Nat.mul_assoc, Nat.add_mul_mod_self_right, Nat.mod_eq_of_lt hx]
  have x1 : h1 ^^^ a < 2 ^ 64 := Nat.xor_lt_two_pow e1 (by omega)
  have x2 : h2 ^^^ b < 2 ^ 64 := Nat.xor_lt_two_pow e2 (by omega)
  rw [← key _ x1, ← key _ x2, h]
theorem xor_right_inj {h1 h2 a : Nat} (h : h1 ^^^ a = h2 ^^^ a) : h1 = h2 := by
  have : h1 ^^^ a ^^^ a = h2 ^^^ a ^^^ a := by rw [h]
  rwa [Nat.xor_assoc, Nat.xor_self, Nat.xor_zero, Nat.xor_assoc, Nat.xor_self, Nat.xor_zero] at this
theorem xor_left_inj {h a b : Nat} (e : h ^^^ a = h ^^^ b) : a = b := by
  rw [Nat.xor_comm h a, Nat.xor_comm h b] at e; exact xor_right_inj e

theorem fnv_inj : ∀ {s : List UInt8} {h1 h2 : Nat}, h1 < 18446744073709551616 → h2 < 18446744073709551616 → fnv h1 s = fnv h2 s → h1 = h2
  | [], h1, h2, _, _, h => h
  | b :: s, h1, h2, e1, e2, h => by
    rw [fnv_cons, fnv_cons] at h
    have := fnv_inj (Nat.mod_lt _ (by decide)) (Nat.mod_lt _ (by decide)) h
    exact xor_right_inj (step_inj e1 e2 b.toNat_lt b.toNat_lt this)
theorem fnv_set_ne : ∀ {s : List UInt8} {h i : Nat} {v : UInt8}, h < 18446744073709551616 → i < s.length → s[i]? ≠ some v → fnv h (s.set i v) ≠ fnv h s
  | [], h, i, v, _, hi, _ => by simp at hi
  | b :: s, h, 0, v, hh, hi, hv => fun e => by
    rw [List.set_cons_zero, fnv_cons, fnv_cons] at e
    have := fnv_inj (Nat.mod_lt _ (by decide)) (Nat.mod_lt _ (by decide)) e
    have := xor_left_inj (step_inj hh hh v.toNat_lt b.toNat_lt this)
    exact hv (by simp [UInt8.toNat_inj.1 this])
  | b :: s, h, i + 1, v, hh, hi, hv => by
    rw [List.set_cons_succ, fnv_cons, fnv_cons]
    exact fnv_set_ne (Nat.mod_lt _ (by decide)) (by simpa using hi) (by simpa using hv)

theorem bytes_inj {x y : Nat} (hx : x < 18446744073709551616) (hy : y < 18446744073709551616) (h : ∀ i, i < 8 → x / 2 ^ (56 - 8 * i) % 256 = y / 2 ^ (56 - 8 * i) % 256) : x = y := by
  have h0 := h 0 (by omega); have h1 := h 1 (by omega); have h2 := h 2 (by omega); have h3 := h 3 (by omega)
  have h4 := h 4 (by omega); have h5 := h 5 (by omega); have h6 := h 6 (by omega); have h7 := h 7 (by omega)
  simp at h0 h1 h2 h3 h4 h5 h6 h7
  omega
theorem sum8_inj {s t : List UInt8} (h : sum8 s = sum8 t) : fnv hash0 s = fnv hash0 t := by
  refine bytes_inj (fnv_lt (by decide) s) (fnv_lt (by decide) t) fun i hi => ?_
  have : (sum8 s)[i]? = (sum8 t)[i]? := by rw [h]
  simp only [sum8, List.getElem?_map] at this
  rw [List.getElem?_range hi] at this
  simp only [Option.map_some, Option.some.injEq] at this
  have := congrArg UInt8.toNat this
  simpa using this

/-- what an opened string is: its last eight bytes are the sum of the rest -/
theorem open_ok {s : List UInt8} (h : (openS s).2.2 = 0) : 8 ≤ s.length ∧ s.drop (s.length - 8) = sum8 (s.take (s.length - 8)) := by
  unfold openS at h
  simp only [] at h
  split at h
  · simp at h
  · split at h
    · rename_i hc
      split at h
      · rename_i he
        obtain ⟨_, h8⟩ := hc
        rw [List.drop_drop, List.drop_drop] at he h8
        have hl := h8
        rw [List.length_drop] at hl
        have h8' : 8 ≤ s.length := by omega
        refine ⟨h8', ?_⟩
        rw [← he]
        congr 1
        omega
      · simp at h
    · simp at h

/-- with one bit flipped, a sealed string is not opened -/
theorem open_flip (x : Nat) (b : List UInt8) (k : Nat) (hk : k / 8 < (sealS x b).length) : (openS (Vm.flip (sealS x b) k)).2.2 ≠ 0 := fun h => by
  obtain ⟨_, h⟩ := open_ok h
  generalize hP : uvar x ++ (uvar b.length ++ b) = P at *
  have hs : sealS x b = P ++ sum8 P := by subst hP; rfl
  rw [hs] at h hk
  have hlen : (Vm.flip (P ++ sum8 P) k).length - 8 = P.length := by rw [flip_len, List.length_append, sum8_len]; omega
  rw [hlen] at h
  unfold Vm.flip at h
  generalize hv : (((P ++ sum8 P)[k / 8]?).getD 0 ^^^ bitU k) = v at h
  by_cases hkP : k / 8 < P.length
  · have hg : (P ++ sum8 P)[k / 8]? = P[k / 8]? := List.getElem?_append_left hkP
    rw [List.set_append_left _ _ hkP] at h
    have hl2 : (P.set (k / 8) v).length = P.length := by simp
    rw [← hl2, List.drop_left, List.take_left] at h
    refine fnv_set_ne (v := v) (by decide) hkP ?_ (sum8_inj h).symm
    rw [hg, List.getElem?_eq_getElem hkP] at hv
    rw [List.getElem?_eq_getElem hkP]
    intro e
    simp only [Option.some.injEq] at e
    rw [← e] at hv
    exact xor_ne (bitU_ne k) (by simpa using hv)
  · rw [List.set_append_right _ _ (by omega), List.drop_left, List.take_left] at h
    have hg : (P ++ sum8 P)[k / 8]? = (sum8 P)[k / 8 - P.length]? := List.getElem?_append_right (by omega)
    have hlt : k / 8 - P.length < (sum8 P).length := by simp at hk ⊢; omega
    have h2 : ((sum8 P).set (k / 8 - P.length) v)[k / 8 - P.length]? = some v := by rw [List.getElem?_set, if_pos rfl, if_pos hlt]
    rw [h] at h2
    rw [hg, h2] at hv
    exact xor_ne (bitU_ne k) (by simpa using hv)
end Go.Vm

/-
  What is read as a number is the encoding of it; what is opened is a sealed string.
  Conditions: none.
-/
set_option linter.unusedVariables false
set_option linter.unusedSimpArgs false
namespace Go.Vm

theorem low7u (b : UInt8) : bitsI (fun _ x y => x &&& y) .u64 (b.toNat : Int) 127 = ((b.toNat % 128 : Nat) : Int) := by
  have h := and64 (a := b.toNat) (b := 127) (by have := b.toNat_lt; omega) (by decide)
  rw [show ((127 : Nat) : Int) = 127 from rfl] at h
  rw [h]
  have := Nat.and_two_pow_sub_one_eq_mod b.toNat 7
  simp at this
  rw [this]
theorem low7x {x : Nat} (hx : x < 18446744073709551616) : bitsI (fun _ x y => x &&& y) .u64 (x : Int) 127 = ((x % 128 : Nat) : Int) := by
  have h := and64 (a := x) (b := 127) hx (by decide)
  rw [show ((127 : Nat) : Int) = 127 from rfl] at h
  rw [h]
  have := Nat.and_two_pow_sub_one_eq_mod x 7
  simp at this
  rw [this]
theorem top8m (x : Nat) : bitsI (fun _ x y => x ||| y) .u8 ((x % 128 : Nat) : Int) 128 = ((x % 128 + 128 : Nat) : Int) := by
  have := top8 (x % 128)
  rw [Nat.mod_mod, Nat.mod_eq_of_lt (show x % 128 < 256 by omega)] at this
  exact this

theorem unvar_canon : ∀ (s : List UInt8) (i acc x n : Nat), unvar i acc s = (x, n, true) → ∃ y, x = acc + y * 2 ^ (7 * i) ∧ n = i + (uvar y).length ∧ s.take (n - i) = uvar y ∧ n ≤ i + s.length ∧ (0 < i → 0 < y)
  | [], i, acc, x, n, h => by simp [unvar] at h
  | b :: s, i, acc, x, n, h => by
    unfold unvar at h
    split at h
    · split at h
      · simp at h
      · split at h
        · rename_i hb
          split at h
          · simp at h
          · rename_i h0
            simp only [Prod.mk.injEq, and_true] at h
            obtain ⟨rfl, rfl⟩ := h
            have hu : uvar b.toNat = [b] := by unfold uvar; rw [dif_pos hb]; simp
            refine ⟨b.toNat, by rw [Nat.mod_eq_of_lt hb], by rw [hu]; rfl, ?_, by simp only [List.length_cons]; omega, fun hi => by omega⟩
            rw [hu, show i + 1 - i = 1 by omega]; rfl
        · rename_i hb
          obtain ⟨y, hx, hn, ht, hle, hy⟩ := unvar_canon s (i + 1) _ x n h
          have hy := hy (by omega)
          have hb2 := b.toNat_lt
          have e1 : (b.toNat - 128 + 128 * y) % 128 + 128 = b.toNat := by omega
          have e2 : (b.toNat - 128 + 128 * y) / 128 = y := by omega
          have hu : uvar (b.toNat - 128 + 128 * y) = b :: uvar y := by
            conv => lhs; unfold uvar
            rw [dif_neg (by omega), e1, e2]; simp
          refine ⟨b.toNat - 128 + 128 * y, ?_, ?_, ?_, by simp only [List.length_cons]; omega, fun _ => by omega⟩
          · rw [hx, show b.toNat % 128 = b.toNat - 128 by omega, Nat.add_mul, show 7 * (i + 1) = 7 + 7 * i by omega, Nat.pow_add, ← Nat.mul_assoc, Nat.mul_comm y, Nat.add_assoc]
          · rw [hn, hu, List.length_cons]; omega
          · rw [hu, show n - i = (n - (i + 1)) + 1 by omega, List.take_succ_cons, ht]
    · simp at h
/-- what is read from the front of a string is the encoding of it -/
theorem unvar_take {s : List UInt8} {x n : Nat} (h : unvar 0 0 s = (x, n, true)) : s.take n = uvar x ∧ n = (uvar x).length ∧ n ≤ s.length := by
  obtain ⟨y, hx, hn, ht, hle, _⟩ := unvar_canon s 0 0 x n h
  simp at hx hn ht hle
  subst hx
  exact ⟨ht, hn, hle⟩
theorem unvar_front {s : List UInt8} {x n : Nat} (h : unvar 0 0 s = (x, n, true)) : s = uvar x ++ s.drop n := by
  have := unvar_take h
  rw [← this.1, List.take_append_drop]
theorem unvar_len {s : List UInt8} {x n : Nat} (h : unvar 0 0 s = (x, n, true)) : n ≤ 10 := by
  have := (unvar_take h).2.1
  have h2 := (unvar_bounds s 0 0 (by simp) (by omega)).1
  rw [h] at h2
  have := uvar_len 10 x (by omega) (by omega)
  omega
theorem unvar_whole {s : List UInt8} {x n : Nat} (h : unvar 0 0 s = (x, n, true)) (hn : n = s.length) : s = uvar x := by
  have := (unvar_take h).1
  rw [hn, List.take_length] at this
  exact this

/-- what is opened is sealed -/
theorem open_canon {s : List UInt8} (h : (openS s).2.2 = 0) : s = sealS (openS s).1 (openS s).2.1 ∧ (openS s).1 < 18446744073709551616 ∧ (openS s).2.1.length + 8 ≤ s.length := by
  obtain ⟨hl8, hsum⟩ := open_ok h
  have hb := unvar_bounds s 0 0 (by simp) (by omega)
  unfold openS at h ⊢
  simp only [] at h ⊢
  split at h
  · simp at h
  · rename_i hlen
    split at h
    · rename_i hc
      split at h
      · rename_i he
        obtain ⟨hok, h8⟩ := hc
        rw [if_neg hlen, if_pos ⟨hok, h8⟩, if_pos he]
        simp only [Bool.and_eq_true] at hok
        obtain ⟨k1, k2⟩ := hok
        generalize hv1 : unvar 0 0 s = v1 at *
        obtain ⟨x1, n1, b1⟩ := v1
        simp only [] at k1 k2 he h8 hlen hb ⊢
        subst k1
        generalize hs1 : s.drop n1 = s1 at *
        generalize hv2 : unvar 0 0 s1 = v2 at *
        obtain ⟨x2, n2, b2⟩ := v2
        simp only [] at k2 he h8 hlen ⊢
        subst k2
        have f1 := unvar_front hv1
        rw [hs1] at f1
        have f2 := unvar_front hv2
        have hbody : ((s1.drop n2).take x2).length = x2 := by simp; simp at hlen; omega
        have f3 : s1.drop n2 = (s1.drop n2).take x2 ++ (s1.drop n2).drop x2 := (List.take_append_drop _ _).symm
        generalize (s1.drop n2).drop x2 = tail at *
        generalize (s1.drop n2).take x2 = body at *
        rw [f3] at f2
        rw [f2] at f1
        have hs : s = (uvar x1 ++ (uvar x2 ++ body)) ++ tail := by rw [f1]; simp
        refine ⟨?_, hb.1, ?_⟩
        · have ht : s.take (s.length - 8) = uvar x1 ++ (uvar x2 ++ body) := by
            have : s.length - 8 = (uvar x1 ++ (uvar x2 ++ body)).length := by rw [hs, List.length_append, h8]; omega
            rw [this, hs, List.take_left]
          rw [ht] at he
          unfold sealS
          rw [hbody]
          rw [hs, he]
        · rw [hs, List.length_append, h8]; simp; omega
      · simp at h
    · simp at h
/-- a string is opened exactly if it is sealed -/
theorem open_iff {s : List UInt8} {x : Nat} {b : List UInt8} (h : openS s = (x, b, 0)) : s = sealS x b := by
  have := open_canon (s := s) (by rw [h])
  rw [h] at this
  exact this.1

/-- a heartbeat packet, read -/
def parseS (p : List UInt8) : Nat × Nat × Bool :=
  let v := openS p
  if v.2.2 = 0 ∧ v.2.1.head? = some 72 then
    let w := unvar 0 0 (v.2.1.drop 1)
    if w.2.2 = true ∧ w.2.1 = v.2.1.length - 1 then (v.1, w.1, true) else (0, 0, false)
  else (0, 0, false)
theorem parse_canon {p : List UInt8} (h : (parseS p).2.2 = true) : p = sealS (parseS p).1 (72 :: uvar (parseS p).2.1) := by
  unfold parseS at h ⊢
  simp only [] at h ⊢
  split at h
  · rename_i h1
    rw [if_pos h1]
    split at h
    · rename_i h2
      rw [if_pos h2]
      obtain ⟨h1, h3⟩ := h1
      have hc := (open_canon h1).1
      generalize hv : openS p = v at *
      obtain ⟨x, b, e⟩ := v
      simp only [] at *
      cases b with
      | nil => simp at h3
      | cons c b =>
        simp only [List.head?_cons, Option.some.injEq] at h3
        subst h3
        rw [hc]
        congr 2
        simp only [List.drop_succ_cons, List.drop_zero, List.length_cons, Nat.add_sub_cancel] at h2 ⊢
        obtain ⟨h4, h5⟩ := h2
        generalize hw : unvar 0 0 b = w at *
        obtain ⟨m, n, k⟩ := w
        simp only [] at h4 h5 ⊢
        subst h4
        exact unvar_whole hw h5
    · simp at h
  · simp at h
end Go.Vm

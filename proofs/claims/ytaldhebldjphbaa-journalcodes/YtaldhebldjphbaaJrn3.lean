/-
  The law JournalCodes: what its functions compute, and that it answers true.
  Conditions: none.
-/
import Derived.Test.YtaldhebldjphbaaJrn1
namespace Go.Proofs.Ytaldhebldjphbaa
open Go.Vm
set_option maxRecDepth 100000
set_option linter.unusedVariables false
/-! vmfleet/journal.Recover -/
noncomputable def WL57x2 (t0 t2 t4 t5 t6 t14 t15 t16 : PV) (K : RK) : Option (List PV) := loopK T kL57x2 L57x2 [t0, .undef, t2, .undef, t4, t5, t6, .undef, .undef, .undef, .undef, .undef, .undef, .undef, t14, t15, t16, .undef, .undef, .undef, .undef, .undef, .undef, .undef, .undef, .undef, .undef, .undef, .undef, .undef, .undef] K
theorem oL57x2 (t0 t2 t4 t5 t6 t14 t15 t16 : PV) (K : RK) {a : List PV} (h : (Option.bind (chk t16 fun a0 => chk t15 fun a1 => Prim.run (.bin .lss) [a0, a1]) fun t17 =>
  chk t17 fun c0 => isB c0
 (Option.bind (chk t14 fun a0 => chk t16 fun a1 => Prim.run (.iptr []) [a0, a1]) fun t18 =>
  Option.bind (chk t4 fun a0 => chk t18 fun a1 => Prim.run .load [a0, a1]) fun t19 =>
  Option.bind (Prim.run .mov [(.agg [(.int .i64 0), (.str []), (.int .i64 0), (.int .i64 0), (.agg [(.int .i64 0), (.int .i64 0), (.int .i64 0), (.int .i64 0)]), (.agg [(.int .i64 0), (.int .i64 0), (.bool false)])])]) fun t8 =>
  chk t19 fun a0 => chk t8 fun y0 => Option.bind (setP [] y0 a0) fun t8 =>
  Option.bind (chk t6 fun a0 => Prim.run .load [a0, (.ptr [])]) fun t21 =>
  Option.bind (chk t8 fun a0 => Prim.run .load [a0, (.ptr [])]) fun t22 =>
  Option.bind (chk t21 fun a0 => chk t22 fun a1 => Option.bind (Ans T 56 [a0, a1]) fun rs => retV 2 rs) fun t23 =>
  Option.bind (chk t23 fun a0 => Prim.run .mov [a0]) fun t20 =>
  Option.bind (chk t20 fun a0 => Prim.run (.ext 0) [a0]) fun t24 =>
  Option.bind (chk t20 fun a0 => Prim.run (.ext 1) [a0]) fun t25 =>
  chk t24 fun a0 => chk t6 fun y0 => Option.bind (setP [] y0 a0) fun t6 =>
  Option.bind (chk t16 fun a0 => Prim.run (.bin .add) [a0, (.int .i64 1)]) fun t26 =>
  Option.bind (chk t26 fun a0 => Prim.run .mov [a0]) fun t16 =>
  WL57x2 t0 t2 t4 t5 t6 t14 t15 t16 K)
 (K (.exit 0, [t0, .undef, t2, .undef, .undef, t5, t6, .undef, .undef, .undef, .undef, .undef, .undef, .undef, .undef, .undef, .undef, .undef, .undef, .undef, .undef, .undef, .undef, .undef, .undef, .undef, .undef, .undef, .undef, .undef, .undef]))) = some a) : WL57x2 t0 t2 t4 t5 t6 t14 t15 t16 K = some a := loopK_of (Eq.trans (by kernel_rfl) h)
@[simp] theorem aL57x2 (t0 t1 t2 t3 t4 t5 t6 t7 t8 t9 t10 t11 t12 t13 t14 t15 t16 t17 t18 t19 t20 t21 t22 t23 t24 t25 t26 t27 t28 t29 t30 : PV) (K : RK) : againK T kL57x2 L57x2 K (.normal, [t0, t1, t2, t3, t4, t5, t6, t7, t8, t9, t10, t11, t12, t13, t14, t15, t16, t17, t18, t19, t20, t21, t22, t23, t24, t25, t26, t27, t28, t29, t30]) = WL57x2 t0 t2 t4 t5 t6 t14 t15 t16 K := by kernel_rfl
@[simp] theorem lA57x1 (t0 t2 t4 t5 t6 t12 : PV) (K : RK) : denK T A57x1 [t0, .undef, t2, .undef, t4, t5, t6, .undef, .undef, .undef, .undef, .undef, t12, .undef, .undef, .undef, .undef, .undef, .undef, .undef, .undef, .undef, .undef, .undef, .undef, .undef, .undef, .undef, .undef, .undef, .undef] K =
  Option.bind (chk t4 fun a0 => Prim.run .mov [a0]) fun t14 =>
  Option.bind (chk t14 fun a0 => Prim.run .len [a0]) fun t15 =>
  Option.bind (Prim.run .mov [(.int .i64 0)]) fun t16 =>
  WL57x2 t0 t2 t4 t5 t6 t14 t15 t16 (blockK 0 K) := by kernel_rfl
@[simp] theorem lB57x1 (t0 t2 t5 t6 : PV) (K : RK) : denK T B57x1 [t0, .undef, t2, .undef, .undef, t5, t6, .undef, .undef, .undef, .undef, .undef, .undef, .undef, .undef, .undef, .undef, .undef, .undef, .undef, .undef, .undef, .undef, .undef, .undef, .undef, .undef, .undef, .undef, .undef, .undef] K =
  Option.bind (chk t6 fun a0 => Prim.run .load [a0, (.ptr [])]) fun t27 =>
  Option.bind (chk t0 fun a0 => Prim.run .mov [a0]) fun t28 =>
  Option.bind (chk t5 fun a0 => Prim.run .mov [a0]) fun t29 =>
  Option.bind (chk t28 fun a0 => chk t29 fun a1 => Prim.run (.sl false true) [a0, a1]) fun t30 =>
  chk t27 fun a0 => chk t2 fun y0 => Option.bind (setP [] y0 a0) fun t2 =>
  Option.bind (chk t30 fun a0 => Prim.run .mov [a0]) fun t3 =>
  K (.ret, [.undef, .undef, t2, t3, .undef, .undef, .undef, .undef, .undef, .undef, .undef, .undef, .undef, .undef, .undef, .undef, .undef, .undef, .undef, .undef, .undef, .undef, .undef, .undef, .undef, .undef, .undef, t27, .undef, .undef, .undef]) := by kernel_rfl
theorem f57 (t0 : PV) {rs : List PV} (h : (Option.bind (Prim.run .mov [(.agg [(.slice true []), (.slice true [])])]) fun t2 =>
  Option.bind (Prim.run .mov [(.str [])]) fun t3 =>
  Option.bind (chk t0 fun a0 => Prim.run .mov [a0]) fun t10 =>
  Option.bind (chk t10 fun a0 => Option.bind (Ans T 79 [a0]) fun rs => retV 2 rs) fun t11 =>
  Option.bind (chk t11 fun a0 => Prim.run .mov [a0]) fun t9 =>
  Option.bind (chk t9 fun a0 => Prim.run (.ext 0) [a0]) fun t12 =>
  Option.bind (chk t9 fun a0 => Prim.run (.ext 1) [a0]) fun t13 =>
  Option.bind (chk t12 fun a0 => Prim.run .mov [a0]) fun t4 =>
  Option.bind (chk t13 fun a0 => Prim.run .mov [a0]) fun t5 =>
  Option.bind (Prim.run .mov [(.agg [(.slice true []), (.slice true [])])]) fun t6 =>
  denK T A57x1 [t0, .undef, t2, .undef, t4, t5, t6, .undef, .undef, .undef, .undef, .undef, t12, .undef, .undef, .undef, .undef, .undef, .undef, .undef, .undef, .undef, .undef, .undef, .undef, .undef, .undef, .undef, .undef, .undef, .undef] (seqK T B57x1 (endK [2, 3]))) = some rs) : Ans T 57 [t0] = some rs := call_of (T := T) c57 (Eq.trans (by kernel_rfl) h)
/-! vmfleet/bits.Uvarint -/
noncomputable def WL63x2 (t0 t5 t10 t11 : PV) (K : RK) : Option (List PV) := loopK T kL63x2 L63x2 [t0, .undef, .undef, .undef, .undef, t5, .undef, .undef, .undef, .undef, t10, t11, .undef, .undef, .undef, .undef, .undef, .undef, .undef, .undef, .undef, .undef, .undef, .undef, .undef, .undef, .undef, .undef, .undef, .undef, .undef, .undef, .undef, .undef, .undef, .undef, .undef, .undef, .undef, .undef, .undef, .undef, .undef] K
theorem oL63x2 (t0 t5 t10 t11 : PV) (K : RK) {a : List PV} (h : (Option.bind (chk t11 fun a0 => chk t10 fun a1 => Prim.run (.bin .lss) [a0, a1]) fun t12 =>
  chk t12 fun c0 => isB c0
 (Option.bind (chk t11 fun a0 => Prim.run .mov [a0]) fun t13 =>
  Option.bind (chk t13 fun a0 => Prim.run .mov [a0]) fun t6 =>
  Option.bind (chk t0 fun a0 => Prim.run .mov [a0]) fun t14 =>
  Option.bind (chk t6 fun a0 => Prim.run .mov [a0]) fun t15 =>
  Option.bind (chk t14 fun a0 => chk t15 fun a1 => Prim.run .index [a0, a1]) fun t16 =>
  Option.bind (chk t16 fun a0 => Prim.run .mov [a0]) fun t7 =>
  Option.bind (chk t6 fun a0 => Prim.run .mov [a0]) fun t17 =>
  Option.bind (chk t17 fun a0 => Prim.run (.bin .eql) [a0, (.int .i64 9)]) fun t18 =>
  Option.bind (chk t18 fun a0 => Prim.run .mov [a0]) fun t19 =>
  Option.bind (grd t19 true (chk t7 fun a0 => Prim.run .mov [a0])) fun t20 =>
  Option.bind (grd t19 true (chk t20 fun a0 => Prim.run (.bin .gtr) [a0, (.int .u8 1)])) fun t21 =>
  Option.bind (chk t19 fun a0 => isB a0 (chk t21 fun a1 => some a1) (some (.bool false))) fun t22 =>
  chk t22 fun c0 => isB c0
 (Option.bind (Prim.run .mov [(.int .u64 0)]) fun t2 =>
  Option.bind (Prim.run .mov [(.int .i64 0)]) fun t3 =>
  Option.bind (Prim.run .mov [(.bool false)]) fun t4 =>
  K (.ret, [.undef, .undef, t2, t3, t4, .undef, .undef, .undef, .undef, .undef, .undef, .undef, .undef, .undef, .undef, .undef, .undef, .undef, .undef, .undef, .undef, .undef, .undef, .undef, .undef, .undef, .undef, .undef, .undef, .undef, .undef, .undef, .undef, .undef, .undef, .undef, .undef, .undef, .undef, .undef, .undef, .undef, .undef]))
 (Option.bind (chk t5 fun a0 => Prim.run .mov [a0]) fun t23 =>
  Option.bind (chk t7 fun a0 => Prim.run .mov [a0]) fun t24 =>
  Option.bind (chk t24 fun a0 => Prim.run (.bin .and) [a0, (.int .u8 127)]) fun t25 =>
  Option.bind (chk t25 fun a0 => Prim.run (.toInt .u64) [a0]) fun t26 =>
  Option.bind (chk t6 fun a0 => Prim.run .mov [a0]) fun t27 =>
  Option.bind (chk t27 fun a1 => Prim.run (.bin .mul) [(.int .i64 7), a1]) fun t28 =>
  Option.bind (chk t26 fun a0 => chk t28 fun a1 => Prim.run (.bin .shl) [a0, a1]) fun t29 =>
  Option.bind (chk t23 fun a0 => chk t29 fun a1 => Prim.run (.bin .or) [a0, a1]) fun t30 =>
  Option.bind (chk t30 fun a0 => Prim.run .mov [a0]) fun t5 =>
  Option.bind (chk t7 fun a0 => Prim.run .mov [a0]) fun t31 =>
  Option.bind (chk t31 fun a0 => Prim.run (.bin .lss) [a0, (.int .u8 128)]) fun t32 =>
  chk t32 fun c0 => isB c0
 (Option.bind (chk t7 fun a0 => Prim.run .mov [a0]) fun t33 =>
  Option.bind (chk t33 fun a0 => Prim.run (.bin .eql) [a0, (.int .u8 0)]) fun t34 =>
  Option.bind (chk t34 fun a0 => Prim.run .mov [a0]) fun t35 =>
  Option.bind (grd t35 true (chk t6 fun a0 => Prim.run .mov [a0])) fun t36 =>
  Option.bind (grd t35 true (chk t36 fun a0 => Prim.run (.bin .gtr) [a0, (.int .i64 0)])) fun t37 =>
  Option.bind (chk t35 fun a0 => isB a0 (chk t37 fun a1 => some a1) (some (.bool false))) fun t38 =>
  chk t38 fun c0 => isB c0
 (Option.bind (Prim.run .mov [(.int .u64 0)]) fun t2 =>
  Option.bind (Prim.run .mov [(.int .i64 0)]) fun t3 =>
  Option.bind (Prim.run .mov [(.bool false)]) fun t4 =>
  K (.ret, [.undef, .undef, t2, t3, t4, .undef, .undef, .undef, .undef, .undef, .undef, .undef, .undef, .undef, .undef, .undef, .undef, .undef, .undef, .undef, .undef, .undef, .undef, .undef, .undef, .undef, .undef, .undef, .undef, .undef, .undef, .undef, .undef, .undef, .undef, .undef, .undef, .undef, .undef, .undef, .undef, .undef, .undef]))
 (Option.bind (chk t5 fun a0 => Prim.run .mov [a0]) fun t39 =>
  Option.bind (chk t6 fun a0 => Prim.run .mov [a0]) fun t40 =>
  Option.bind (chk t40 fun a0 => Prim.run (.bin .add) [a0, (.int .i64 1)]) fun t41 =>
  Option.bind (chk t39 fun a0 => Prim.run .mov [a0]) fun t2 =>
  Option.bind (chk t41 fun a0 => Prim.run .mov [a0]) fun t3 =>
  Option.bind (Prim.run .mov [(.bool true)]) fun t4 =>
  K (.ret, [.undef, .undef, t2, t3, t4, .undef, .undef, .undef, .undef, .undef, .undef, .undef, .undef, .undef, .undef, .undef, .undef, .undef, .undef, .undef, .undef, .undef, .undef, .undef, .undef, .undef, .undef, .undef, .undef, .undef, .undef, .undef, .undef, .undef, .undef, .undef, .undef, .undef, .undef, .undef, .undef, .undef, .undef])))
 (Option.bind (chk t11 fun a0 => Prim.run (.bin .add) [a0, (.int .i64 1)]) fun t42 =>
  Option.bind (chk t42 fun a0 => Prim.run .mov [a0]) fun t11 =>
  WL63x2 t0 t5 t10 t11 K)))
 (K (.exit 0, [.undef, .undef, .undef, .undef, .undef, .undef, .undef, .undef, .undef, .undef, .undef, .undef, .undef, .undef, .undef, .undef, .undef, .undef, .undef, .undef, .undef, .undef, .undef, .undef, .undef, .undef, .undef, .undef, .undef, .undef, .undef, .undef, .undef, .undef, .undef, .undef, .undef, .undef, .undef, .undef, .undef, .undef, .undef]))) = some a) : WL63x2 t0 t5 t10 t11 K = some a := loopK_of (Eq.trans (by kernel_rfl) h)
@[simp] theorem aL63x2 (t0 t1 t2 t3 t4 t5 t6 t7 t8 t9 t10 t11 t12 t13 t14 t15 t16 t17 t18 t19 t20 t21 t22 t23 t24 t25 t26 t27 t28 t29 t30 t31 t32 t33 t34 t35 t36 t37 t38 t39 t40 t41 t42 : PV) (K : RK) : againK T kL63x2 L63x2 K (.normal, [t0, t1, t2, t3, t4, t5, t6, t7, t8, t9, t10, t11, t12, t13, t14, t15, t16, t17, t18, t19, t20, t21, t22, t23, t24, t25, t26, t27, t28, t29, t30, t31, t32, t33, t34, t35, t36, t37, t38, t39, t40, t41, t42]) = WL63x2 t0 t5 t10 t11 K := by kernel_rfl
@[simp] theorem lA63x1 (t0 t5 : PV) (K : RK) : denK T A63x1 [t0, .undef, .undef, .undef, .undef, t5, .undef, .undef, .undef, .undef, .undef, .undef, .undef, .undef, .undef, .undef, .undef, .undef, .undef, .undef, .undef, .undef, .undef, .undef, .undef, .undef, .undef, .undef, .undef, .undef, .undef, .undef, .undef, .undef, .undef, .undef, .undef, .undef, .undef, .undef, .undef, .undef, .undef] K =
  Option.bind (chk t0 fun a0 => Prim.run .mov [a0]) fun t8 =>
  Option.bind (chk t8 fun a0 => Prim.run .len [a0]) fun t9 =>
  Option.bind (chk t9 fun a0 => Prim.run .minI [a0, (.int .i64 10)]) fun t10 =>
  Option.bind (Prim.run .mov [(.int .i64 0)]) fun t11 =>
  WL63x2 t0 t5 t10 t11 (blockK 0 K) := by kernel_rfl
@[simp] theorem lB63x1 (K : RK) : denK T B63x1 [.undef, .undef, .undef, .undef, .undef, .undef, .undef, .undef, .undef, .undef, .undef, .undef, .undef, .undef, .undef, .undef, .undef, .undef, .undef, .undef, .undef, .undef, .undef, .undef, .undef, .undef, .undef, .undef, .undef, .undef, .undef, .undef, .undef, .undef, .undef, .undef, .undef, .undef, .undef, .undef, .undef, .undef, .undef] K =
  Option.bind (Prim.run .mov [(.int .u64 0)]) fun t2 =>
  Option.bind (Prim.run .mov [(.int .i64 0)]) fun t3 =>
  Option.bind (Prim.run .mov [(.bool false)]) fun t4 =>
  K (.ret, [.undef, .undef, t2, t3, t4, .undef, .undef, .undef, .undef, .undef, .undef, .undef, .undef, .undef, .undef, .undef, .undef, .undef, .undef, .undef, .undef, .undef, .undef, .undef, .undef, .undef, .undef, .undef, .undef, .undef, .undef, .undef, .undef, .undef, .undef, .undef, .undef, .undef, .undef, .undef, .undef, .undef, .undef]) := by kernel_rfl
theorem f63 (t0 : PV) {rs : List PV} (h : (Option.bind (Prim.run .mov [(.int .u64 0)]) fun t2 =>
  Option.bind (Prim.run .mov [(.int .i64 0)]) fun t3 =>
  Option.bind (Prim.run .mov [(.bool false)]) fun t4 =>
  Option.bind (Prim.run .mov [(.int .u64 0)]) fun t5 =>
  denK T A63x1 [t0, .undef, .undef, .undef, .undef, t5, .undef, .undef, .undef, .undef, .undef, .undef, .undef, .undef, .undef, .undef, .undef, .undef, .undef, .undef, .undef, .undef, .undef, .undef, .undef, .undef, .undef, .undef, .undef, .undef, .undef, .undef, .undef, .undef, .undef, .undef, .undef, .undef, .undef, .undef, .undef, .undef, .undef] (seqK T B63x1 (endK [2, 3, 4]))) = some rs) : Ans T 63 [t0] = some rs := call_of (T := T) c63 (Eq.trans (by kernel_rfl) h)
/-! vmfleet/bits.PutUvarint -/
noncomputable def WL66x2 (t0 t3 : PV) (K : RK) : Option (List PV) := loopK T kL66x2 L66x2 [t0, .undef, .undef, t3, .undef, .undef, .undef, .undef, .undef, .undef, .undef, .undef, .undef, .undef, .undef, .undef, .undef, .undef, .undef, .undef] K
theorem oL66x2 (t0 t3 : PV) (K : RK) {a : List PV} (h : (Option.bind (chk t0 fun a0 => Prim.run .mov [a0]) fun t4 =>
  Option.bind (chk t4 fun a0 => Prim.run (.bin .geq) [a0, (.int .u64 128)]) fun t5 =>
  chk t5 fun c0 => isB c0
 (Option.bind (chk t3 fun a0 => Prim.run .mov [a0]) fun t6 =>
  Option.bind (chk t0 fun a0 => Prim.run .mov [a0]) fun t7 =>
  Option.bind (chk t7 fun a0 => Prim.run (.toInt .u8) [a0]) fun t8 =>
  Option.bind (chk t8 fun a0 => Prim.run (.bin .or) [a0, (.int .u8 128)]) fun t9 =>
  Option.bind (chk t9 fun a0 => Prim.run (.buildSl (.int .u8 0) 1 [0]) [a0]) fun t10 =>
  Option.bind (chk t6 fun a0 => chk t10 fun a1 => Prim.run (.app 1) [a0, a1]) fun t11 =>
  Option.bind (chk t11 fun a0 => Prim.run .mov [a0]) fun t3 =>
  Option.bind (chk t0 fun a0 => Prim.run .mov [a0]) fun t12 =>
  Option.bind (chk t12 fun a0 => Prim.run (.bin .shr) [a0, (.int .u64 7)]) fun t13 =>
  Option.bind (chk t13 fun a0 => Prim.run .mov [a0]) fun t0 =>
  WL66x2 t0 t3 K)
 (K (.exit 0, [t0, .undef, .undef, t3, .undef, .undef, .undef, .undef, .undef, .undef, .undef, .undef, .undef, .undef, .undef, .undef, .undef, .undef, .undef, .undef]))) = some a) : WL66x2 t0 t3 K = some a := loopK_of (Eq.trans (by kernel_rfl) h)
@[simp] theorem aL66x2 (t0 t1 t2 t3 t4 t5 t6 t7 t8 t9 t10 t11 t12 t13 t14 t15 t16 t17 t18 t19 : PV) (K : RK) : againK T kL66x2 L66x2 K (.normal, [t0, t1, t2, t3, t4, t5, t6, t7, t8, t9, t10, t11, t12, t13, t14, t15, t16, t17, t18, t19]) = WL66x2 t0 t3 K := by kernel_rfl
@[simp] theorem lA66x1 (t0 t3 : PV) (K : RK) : denK T A66x1 [t0, .undef, .undef, t3, .undef, .undef, .undef, .undef, .undef, .undef, .undef, .undef, .undef, .undef, .undef, .undef, .undef, .undef, .undef, .undef] K =
  WL66x2 t0 t3 (blockK 0 K) := by kernel_rfl
@[simp] theorem lB66x1 (t0 t3 : PV) (K : RK) : denK T B66x1 [t0, .undef, .undef, t3, .undef, .undef, .undef, .undef, .undef, .undef, .undef, .undef, .undef, .undef, .undef, .undef, .undef, .undef, .undef, .undef] K =
  Option.bind (chk t3 fun a0 => Prim.run .mov [a0]) fun t14 =>
  Option.bind (chk t0 fun a0 => Prim.run .mov [a0]) fun t15 =>
  Option.bind (chk t15 fun a0 => Prim.run (.toInt .u8) [a0]) fun t16 =>
  Option.bind (chk t16 fun a0 => Prim.run (.buildSl (.int .u8 0) 1 [0]) [a0]) fun t17 =>
  Option.bind (chk t14 fun a0 => chk t17 fun a1 => Prim.run (.app 1) [a0, a1]) fun t18 =>
  Option.bind (chk t18 fun a0 => Prim.run .toStr [a0]) fun t19 =>
  Option.bind (chk t19 fun a0 => Prim.run .mov [a0]) fun t2 =>
  K (.ret, [.undef, .undef, t2, .undef, .undef, .undef, .undef, .undef, .undef, .undef, .undef, .undef, .undef, .undef, t14, .undef, .undef, .undef, .undef, .undef]) := by kernel_rfl
theorem f66 (t0 : PV) {rs : List PV} (h : (Option.bind (Prim.run .mov [(.str [])]) fun t2 =>
  Option.bind (Prim.run .mov [(.slice true [])]) fun t3 =>
  denK T A66x1 [t0, .undef, .undef, t3, .undef, .undef, .undef, .undef, .undef, .undef, .undef, .undef, .undef, .undef, .undef, .undef, .undef, .undef, .undef, .undef] (seqK T B66x1 (endK [2]))) = some rs) : Ans T 66 [t0] = some rs := call_of (T := T) c66 (Eq.trans (by kernel_rfl) h)
/-! vmfleet/eventlog.text -/
theorem f71 (t0 : PV) {rs : List PV} (h : (Option.bind (Prim.run .mov [(.str [])]) fun t2 =>
  Option.bind (chk t0 fun a0 => Prim.run .mov [a0]) fun t3 =>
  Option.bind (chk t3 fun a0 => Prim.run .len [a0]) fun t4 =>
  Option.bind (chk t4 fun a0 => Prim.run (.toInt .u64) [a0]) fun t5 =>
  Option.bind (chk t5 fun a0 => Option.bind (Ans T 66 [a0]) fun rs => retV 1 rs) fun t6 =>
  Option.bind (chk t0 fun a0 => Prim.run .mov [a0]) fun t7 =>
  Option.bind (chk t6 fun a0 => chk t7 fun a1 => Prim.run (.bin .add) [a0, a1]) fun t8 =>
  Option.bind (chk t8 fun a0 => Prim.run .mov [a0]) fun t2 =>
  allDef [t2]) = some rs) : Ans T 71 [t0] = some rs := call_of (T := T) c71 (Eq.trans (by kernel_rfl) h)
/-! vmfleet/eventlog.sum -/
noncomputable def WL72x2 (t3 t4 t10 t11 : PV) (K : RK) : Option (List PV) := loopK T kL72x2 L72x2 [.undef, .undef, .undef, t3, t4, .undef, .undef, .undef, .undef, .undef, t10, t11, .undef, .undef, .undef, .undef, .undef, .undef, .undef, .undef, .undef, .undef, .undef, .undef, .undef, .undef] K
theorem oL72x2 (t3 t4 t10 t11 : PV) (K : RK) {a : List PV} (h : (Option.bind (chk t11 fun a0 => chk t10 fun a1 => Prim.run (.bin .lss) [a0, a1]) fun t12 =>
  chk t12 fun c0 => isB c0
 (Option.bind (chk t11 fun a0 => Prim.run .mov [a0]) fun t13 =>
  Option.bind (chk t13 fun a0 => Prim.run .mov [a0]) fun t5 =>
  Option.bind (chk t4 fun a0 => Prim.run .mov [a0]) fun t14 =>
  Option.bind (chk t5 fun a0 => Prim.run .mov [a0]) fun t15 =>
  Option.bind (chk t3 fun a0 => Prim.run .mov [a0]) fun t16 =>
  Option.bind (chk t5 fun a0 => Prim.run .mov [a0]) fun t17 =>
  Option.bind (chk t17 fun a1 => Prim.run (.bin .mul) [(.int .i64 8), a1]) fun t18 =>
  Option.bind (chk t18 fun a1 => Prim.run (.bin .sub) [(.int .i64 56), a1]) fun t19 =>
  Option.bind (chk t16 fun a0 => chk t19 fun a1 => Prim.run (.bin .shr) [a0, a1]) fun t20 =>
  Option.bind (chk t20 fun a0 => Prim.run (.toInt .u8) [a0]) fun t21 =>
  Option.bind (chk t14 fun a0 => chk t15 fun a1 => Prim.run (.iptr []) [a0, a1]) fun t22 =>
  chk t21 fun a0 => asPath t22 fun q0 => chk t4 fun y0 => Option.bind (setP q0 y0 a0) fun t4 =>
  Option.bind (chk t11 fun a0 => Prim.run (.bin .add) [a0, (.int .i64 1)]) fun t23 =>
  Option.bind (chk t23 fun a0 => Prim.run .mov [a0]) fun t11 =>
  WL72x2 t3 t4 t10 t11 K)
 (K (.exit 0, [.undef, .undef, .undef, .undef, t4, .undef, .undef, .undef, .undef, .undef, .undef, .undef, .undef, .undef, .undef, .undef, .undef, .undef, .undef, .undef, .undef, .undef, .undef, .undef, .undef, .undef]))) = some a) : WL72x2 t3 t4 t10 t11 K = some a := loopK_of (Eq.trans (by kernel_rfl) h)
@[simp] theorem aL72x2 (t0 t1 t2 t3 t4 t5 t6 t7 t8 t9 t10 t11 t12 t13 t14 t15 t16 t17 t18 t19 t20 t21 t22 t23 t24 t25 : PV) (K : RK) : againK T kL72x2 L72x2 K (.normal, [t0, t1, t2, t3, t4, t5, t6, t7, t8, t9, t10, t11, t12, t13, t14, t15, t16, t17, t18, t19, t20, t21, t22, t23, t24, t25]) = WL72x2 t3 t4 t10 t11 K := by kernel_rfl
@[simp] theorem lA72x1 (t3 t4 : PV) (K : RK) : denK T A72x1 [.undef, .undef, .undef, t3, t4, .undef, .undef, .undef, .undef, .undef, .undef, .undef, .undef, .undef, .undef, .undef, .undef, .undef, .undef, .undef, .undef, .undef, .undef, .undef, .undef, .undef] K =
  Option.bind (chk t4 fun a0 => Prim.run .mov [a0]) fun t9 =>
  Option.bind (chk t9 fun a0 => Prim.run .len [a0]) fun t10 =>
  Option.bind (Prim.run .mov [(.int .i64 0)]) fun t11 =>
  WL72x2 t3 t4 t10 t11 (blockK 0 K) := by kernel_rfl
@[simp] theorem lB72x1 (t4 : PV) (K : RK) : denK T B72x1 [.undef, .undef, .undef, .undef, t4, .undef, .undef, .undef, .undef, .undef, .undef, .undef, .undef, .undef, .undef, .undef, .undef, .undef, .undef, .undef, .undef, .undef, .undef, .undef, .undef, .undef] K =
  Option.bind (chk t4 fun a0 => Prim.run .mov [a0]) fun t24 =>
  Option.bind (chk t24 fun a0 => Prim.run .toStr [a0]) fun t25 =>
  Option.bind (chk t25 fun a0 => Prim.run .mov [a0]) fun t2 =>
  K (.ret, [.undef, .undef, t2, .undef, .undef, .undef, .undef, .undef, .undef, .undef, .undef, .undef, .undef, .undef, .undef, .undef, .undef, .undef, .undef, .undef, .undef, .undef, .undef, .undef, .undef, .undef]) := by kernel_rfl
theorem f72 (t0 : PV) {rs : List PV} (h : (Option.bind (Prim.run .mov [(.str [])]) fun t2 =>
  Option.bind (chk t0 fun a0 => Prim.run .mov [a0]) fun t6 =>
  Option.bind (chk t6 fun a1 => Option.bind (Ans T 94 [(.int .u64 14695981039346656037), a1]) fun rs => retV 1 rs) fun t7 =>
  Option.bind (chk t7 fun a0 => Prim.run .mov [a0]) fun t3 =>
  Option.bind (Prim.run (.mkSl (.int .u8 0) 1) [(.int .i64 8), (.int .i64 8)]) fun t8 =>
  Option.bind (chk t8 fun a0 => Prim.run .mov [a0]) fun t4 =>
  denK T A72x1 [.undef, .undef, .undef, t3, t4, .undef, .undef, .undef, .undef, .undef, .undef, .undef, .undef, .undef, .undef, .undef, .undef, .undef, .undef, .undef, .undef, .undef, .undef, .undef, .undef, .undef] (seqK T B72x1 (endK [2]))) = some rs) : Ans T 72 [t0] = some rs := call_of (T := T) c72 (Eq.trans (by kernel_rfl) h)
/-! (*vmfleet/eventlog.reader).number -/
theorem f73 (t0 : PV) {rs : List PV} (h : (Option.bind (Prim.run .mov [(.int .u64 0)]) fun t2 =>
  Option.bind (Prim.run .mov [(.ptr [])]) fun t7 =>
  Option.bind (chk t7 fun a0 => Prim.run .mov [a0]) fun t8 =>
  Option.bind (chk t8 fun a0 => Prim.run (.fptr 0) [a0]) fun t9 =>
  Option.bind (chk t0 fun a0 => chk t9 fun a1 => Prim.run .load [a0, a1]) fun t10 =>
  Option.bind (chk t10 fun a0 => Option.bind (Ans T 63 [a0]) fun rs => retV 3 rs) fun t11 =>
  Option.bind (chk t11 fun a0 => Prim.run .mov [a0]) fun t6 =>
  Option.bind (chk t6 fun a0 => Prim.run (.ext 0) [a0]) fun t12 =>
  Option.bind (chk t6 fun a0 => Prim.run (.ext 1) [a0]) fun t13 =>
  Option.bind (chk t6 fun a0 => Prim.run (.ext 2) [a0]) fun t14 =>
  Option.bind (chk t12 fun a0 => Prim.run .mov [a0]) fun t3 =>
  Option.bind (chk t13 fun a0 => Prim.run .mov [a0]) fun t4 =>
  Option.bind (chk t14 fun a0 => Prim.run .mov [a0]) fun t5 =>
  Option.bind (Prim.run .mov [(.ptr [])]) fun t15 =>
  Option.bind (Prim.run .mov [(.ptr [])]) fun t16 =>
  Option.bind (chk t16 fun a0 => Prim.run .mov [a0]) fun t17 =>
  Option.bind (chk t17 fun a0 => Prim.run (.fptr 1) [a0]) fun t18 =>
  Option.bind (chk t0 fun a0 => chk t18 fun a1 => Prim.run .load [a0, a1]) fun t19 =>
  Option.bind (chk t19 fun a0 => Prim.run .mov [a0]) fun t20 =>
  Option.bind (grd t20 true (chk t5 fun a0 => Prim.run .mov [a0])) fun t21 =>
  Option.bind (chk t20 fun a0 => isB a0 (chk t21 fun a1 => some a1) (some (.bool false))) fun t22 =>
  Option.bind (chk t15 fun a0 => Prim.run .mov [a0]) fun t23 =>
  Option.bind (chk t23 fun a0 => Prim.run (.fptr 1) [a0]) fun t24 =>
  chk t22 fun a0 => asPath t24 fun q0 => chk t0 fun y0 => Option.bind (setP q0 y0 a0) fun t0 =>
  Option.bind (Prim.run .mov [(.ptr [])]) fun t25 =>
  Option.bind (Prim.run .mov [(.ptr [])]) fun t26 =>
  Option.bind (chk t26 fun a0 => Prim.run .mov [a0]) fun t27 =>
  Option.bind (chk t27 fun a0 => Prim.run (.fptr 0) [a0]) fun t28 =>
  Option.bind (chk t0 fun a0 => chk t28 fun a1 => Prim.run .load [a0, a1]) fun t29 =>
  Option.bind (chk t4 fun a0 => Prim.run .mov [a0]) fun t30 =>
  Option.bind (chk t29 fun a0 => chk t30 fun a1 => Prim.run (.sl true false) [a0, a1]) fun t31 =>
  Option.bind (chk t25 fun a0 => Prim.run .mov [a0]) fun t32 =>
  Option.bind (chk t32 fun a0 => Prim.run (.fptr 0) [a0]) fun t33 =>
  chk t31 fun a0 => asPath t33 fun q0 => chk t0 fun y0 => Option.bind (setP q0 y0 a0) fun t0 =>
  Option.bind (chk t3 fun a0 => Prim.run .mov [a0]) fun t34 =>
  Option.bind (chk t34 fun a0 => Prim.run .mov [a0]) fun t2 =>
  allDef [t2, t0]) = some rs) : Ans T 73 [t0] = some rs := call_of (T := T) c73 (Eq.trans (by kernel_rfl) h)
/-! (*vmfleet/eventlog.reader).text -/
theorem f74 (t0 : PV) {rs : List PV} (h : (Option.bind (Prim.run .mov [(.str [])]) fun t2 =>
  Option.bind (Prim.run .mov [(.ptr [])]) fun t5 =>
  asPath t5 fun a0q => chk t0 fun a0r => Option.bind (getP a0q a0r) fun a0 => Option.bind (Ans T 73 [a0]) fun rs1 => consK (rs1.drop 1) fun y0 ys0 => asPath t5 fun q0 => chk t0 fun x0 => Option.bind (setP q0 x0 y0) fun t0 => nilK ys0 (Option.bind (chk (resultOf 1 rs1) fun a0 => Prim.run .mov [a0]) fun t3 =>
  Option.bind (chk t3 fun a0 => Prim.run .mov [a0]) fun t7 =>
  Option.bind (Prim.run .mov [(.ptr [])]) fun t8 =>
  Option.bind (chk t8 fun a0 => Prim.run .mov [a0]) fun t9 =>
  Option.bind (chk t9 fun a0 => Prim.run (.fptr 0) [a0]) fun t10 =>
  Option.bind (chk t0 fun a0 => chk t10 fun a1 => Prim.run .load [a0, a1]) fun t11 =>
  Option.bind (chk t11 fun a0 => Prim.run .len [a0]) fun t12 =>
  Option.bind (chk t12 fun a0 => Prim.run (.toInt .u64) [a0]) fun t13 =>
  Option.bind (chk t7 fun a0 => chk t13 fun a1 => Prim.run (.bin .gtr) [a0, a1]) fun t14 =>
  chk t14 fun c0 => isB c0
 (Option.bind (Prim.run .mov [(.ptr [])]) fun t15 =>
  Option.bind (chk t15 fun a0 => Prim.run .mov [a0]) fun t16 =>
  Option.bind (chk t16 fun a0 => Prim.run (.fptr 1) [a0]) fun t17 =>
  asPath t17 fun q0 => chk t0 fun y0 => Option.bind (setP q0 y0 (.bool false)) fun t0 =>
  Option.bind (Prim.run .mov [(.str [])]) fun t2 =>
  allDef [t2, t0])
 (Option.bind (Prim.run .mov [(.ptr [])]) fun t18 =>
  Option.bind (chk t18 fun a0 => Prim.run .mov [a0]) fun t19 =>
  Option.bind (chk t19 fun a0 => Prim.run (.fptr 0) [a0]) fun t20 =>
  Option.bind (chk t0 fun a0 => chk t20 fun a1 => Prim.run .load [a0, a1]) fun t21 =>
  Option.bind (chk t3 fun a0 => Prim.run .mov [a0]) fun t22 =>
  Option.bind (chk t21 fun a0 => chk t22 fun a1 => Prim.run (.sl false true) [a0, a1]) fun t23 =>
  Option.bind (chk t23 fun a0 => Prim.run .mov [a0]) fun t4 =>
  Option.bind (Prim.run .mov [(.ptr [])]) fun t24 =>
  Option.bind (Prim.run .mov [(.ptr [])]) fun t25 =>
  Option.bind (chk t25 fun a0 => Prim.run .mov [a0]) fun t26 =>
  Option.bind (chk t26 fun a0 => Prim.run (.fptr 0) [a0]) fun t27 =>
  Option.bind (chk t0 fun a0 => chk t27 fun a1 => Prim.run .load [a0, a1]) fun t28 =>
  Option.bind (chk t3 fun a0 => Prim.run .mov [a0]) fun t29 =>
  Option.bind (chk t28 fun a0 => chk t29 fun a1 => Prim.run (.sl true false) [a0, a1]) fun t30 =>
  Option.bind (chk t24 fun a0 => Prim.run .mov [a0]) fun t31 =>
  Option.bind (chk t31 fun a0 => Prim.run (.fptr 0) [a0]) fun t32 =>
  chk t30 fun a0 => asPath t32 fun q0 => chk t0 fun y0 => Option.bind (setP q0 y0 a0) fun t0 =>
  Option.bind (chk t4 fun a0 => Prim.run .mov [a0]) fun t33 =>
  Option.bind (chk t33 fun a0 => Prim.run .mov [a0]) fun t2 =>
  allDef [t2, t0]))) = some rs) : Ans T 74 [t0] = some rs := call_of (T := T) c74 (Eq.trans (by kernel_rfl) h)
/-! vmfleet/journal.Parse -/
noncomputable def WL79x1 (t0 t4 t5 : PV) (K : RK) : Option (List PV) := loopK T kL79x1 L79x1 [t0, .undef, .undef, .undef, t4, t5, .undef, .undef, .undef, .undef, .undef, .undef, .undef, .undef, .undef, .undef, .undef, .undef, .undef, .undef, .undef, .undef, .undef, .undef, .undef, .undef, .undef, .undef, .undef, .undef, .undef, .undef, .undef, .undef, .undef, .undef, .undef, .undef, .undef, .undef, .undef, .undef, .undef, .undef, .undef, .undef, .undef, .undef, .undef, .undef, .undef, .undef, .undef, .undef, .undef, .undef, .undef, .undef, .undef, .undef, .undef, .undef, .undef, .undef, .undef, .undef, .undef, .undef, .undef, .undef, .undef, .undef, .undef, .undef, .undef, .undef, .undef, .undef, .undef, .undef] K
theorem oL79x1 (t0 t4 t5 : PV) (K : RK) {a : List PV} (h : (Option.bind (chk t0 fun a0 => Prim.run .mov [a0]) fun t16 =>
  Option.bind (chk t5 fun a0 => Prim.run .mov [a0]) fun t17 =>
  Option.bind (chk t16 fun a0 => chk t17 fun a1 => Prim.run (.sl true false) [a0, a1]) fun t18 =>
  Option.bind (chk t18 fun a0 => Option.bind (Ans T 63 [a0]) fun rs => retV 3 rs) fun t19 =>
  Option.bind (chk t19 fun a0 => Prim.run .mov [a0]) fun t15 =>
  Option.bind (chk t15 fun a0 => Prim.run (.ext 0) [a0]) fun t20 =>
  Option.bind (chk t15 fun a0 => Prim.run (.ext 1) [a0]) fun t21 =>
  Option.bind (chk t15 fun a0 => Prim.run (.ext 2) [a0]) fun t22 =>
  Option.bind (chk t20 fun a0 => Prim.run .mov [a0]) fun t6 =>
  Option.bind (chk t21 fun a0 => Prim.run .mov [a0]) fun t7 =>
  Option.bind (chk t22 fun a0 => Prim.run .mov [a0]) fun t8 =>
  Option.bind (chk t8 fun a0 => Prim.run .mov [a0]) fun t23 =>
  Option.bind (chk t23 fun a0 => Prim.run (.un .not) [a0]) fun t24 =>
  Option.bind (chk t24 fun a0 => Prim.run .mov [a0]) fun t25 =>
  Option.bind (grd t25 false (chk t6 fun a0 => Prim.run .mov [a0])) fun t26 =>
  Option.bind (grd t25 false (chk t0 fun a0 => Prim.run .mov [a0])) fun t27 =>
  Option.bind (grd t25 false (chk t27 fun a0 => Prim.run .len [a0])) fun t28 =>
  Option.bind (grd t25 false (chk t5 fun a0 => Prim.run .mov [a0])) fun t29 =>
  Option.bind (grd t25 false (chk t28 fun a0 => chk t29 fun a1 => Prim.run (.bin .sub) [a0, a1])) fun t30 =>
  Option.bind (grd t25 false (chk t7 fun a0 => Prim.run .mov [a0])) fun t31 =>
  Option.bind (grd t25 false (chk t30 fun a0 => chk t31 fun a1 => Prim.run (.bin .sub) [a0, a1])) fun t32 =>
  Option.bind (grd t25 false (chk t32 fun a0 => Prim.run (.toInt .u64) [a0])) fun t33 =>
  Option.bind (grd t25 false (chk t26 fun a0 => chk t33 fun a1 => Prim.run (.bin .gtr) [a0, a1])) fun t34 =>
  Option.bind (chk t25 fun a0 => isB a0 (some (.bool true)) (chk t34 fun a1 => some a1)) fun t35 =>
  chk t35 fun c0 => isB c0
 (Option.bind (chk t4 fun a0 => Prim.run .mov [a0]) fun t36 =>
  Option.bind (chk t5 fun a0 => Prim.run .mov [a0]) fun t37 =>
  Option.bind (chk t36 fun a0 => Prim.run .mov [a0]) fun t2 =>
  Option.bind (chk t37 fun a0 => Prim.run .mov [a0]) fun t3 =>
  K (.ret, [.undef, .undef, t2, t3, .undef, .undef, .undef, .undef, .undef, .undef, .undef, .undef, .undef, .undef, .undef, .undef, .undef, .undef, .undef, .undef, .undef, .undef, .undef, .undef, .undef, .undef, .undef, .undef, .undef, .undef, .undef, .undef, .undef, .undef, .undef, .undef, t36, .undef, .undef, .undef, .undef, .undef, .undef, .undef, .undef, .undef, .undef, .undef, .undef, .undef, .undef, .undef, .undef, .undef, .undef, .undef, .undef, .undef, .undef, .undef, .undef, .undef, .undef, .undef, .undef, .undef, .undef, .undef, .undef, .undef, .undef, .undef, .undef, .undef, .undef, .undef, .undef, .undef, .undef, .undef]))
 (Option.bind (chk t5 fun a0 => Prim.run .mov [a0]) fun t38 =>
  Option.bind (chk t7 fun a0 => Prim.run .mov [a0]) fun t39 =>
  Option.bind (chk t38 fun a0 => chk t39 fun a1 => Prim.run (.bin .add) [a0, a1]) fun t40 =>
  Option.bind (chk t6 fun a0 => Prim.run .mov [a0]) fun t41 =>
  Option.bind (chk t41 fun a0 => Prim.run (.toInt .i64) [a0]) fun t42 =>
  Option.bind (chk t40 fun a0 => chk t42 fun a1 => Prim.run (.bin .add) [a0, a1]) fun t43 =>
  Option.bind (chk t43 fun a0 => Prim.run .mov [a0]) fun t9 =>
  Option.bind (chk t0 fun a0 => Prim.run .mov [a0]) fun t45 =>
  Option.bind (chk t5 fun a0 => Prim.run .mov [a0]) fun t46 =>
  Option.bind (chk t7 fun a0 => Prim.run .mov [a0]) fun t47 =>
  Option.bind (chk t46 fun a0 => chk t47 fun a1 => Prim.run (.bin .add) [a0, a1]) fun t48 =>
  Option.bind (chk t9 fun a0 => Prim.run .mov [a0]) fun t49 =>
  Option.bind (chk t45 fun a0 => chk t48 fun a1 => chk t49 fun a2 => Prim.run (.sl true true) [a0, a1, a2]) fun t50 =>
  Option.bind (chk t50 fun a0 => Option.bind (Ans T 48 [a0]) fun rs => retV 3 rs) fun t51 =>
  Option.bind (chk t51 fun a0 => Prim.run .mov [a0]) fun t44 =>
  Option.bind (chk t44 fun a0 => Prim.run (.ext 0) [a0]) fun t52 =>
  Option.bind (chk t44 fun a0 => Prim.run (.ext 1) [a0]) fun t53 =>
  Option.bind (chk t44 fun a0 => Prim.run (.ext 2) [a0]) fun t54 =>
  Option.bind (chk t52 fun a0 => Prim.run .mov [a0]) fun t10 =>
  Option.bind (chk t53 fun a0 => Prim.run .mov [a0]) fun t11 =>
  Option.bind (chk t54 fun a0 => Prim.run .mov [a0]) fun t12 =>
  Option.bind (chk t12 fun a0 => Prim.run .mov [a0]) fun t55 =>
  Option.bind (chk t55 fun a0 => Prim.run (.bin .neq) [a0, (.int .i64 0)]) fun t56 =>
  Option.bind (chk t56 fun a0 => Prim.run .mov [a0]) fun t57 =>
  Option.bind (grd t57 false (chk t10 fun a0 => Prim.run .mov [a0])) fun t58 =>
  Option.bind (grd t57 false (chk t4 fun a0 => Prim.run .mov [a0])) fun t59 =>
  Option.bind (grd t57 false (chk t59 fun a0 => Prim.run .len [a0])) fun t60 =>
  Option.bind (grd t57 false (chk t60 fun a0 => Prim.run (.toInt .u64) [a0])) fun t61 =>
  Option.bind (grd t57 false (chk t58 fun a0 => chk t61 fun a1 => Prim.run (.bin .neq) [a0, a1])) fun t62 =>
  Option.bind (chk t57 fun a0 => isB a0 (some (.bool true)) (chk t62 fun a1 => some a1)) fun t63 =>
  chk t63 fun c0 => isB c0
 (Option.bind (chk t4 fun a0 => Prim.run .mov [a0]) fun t64 =>
  Option.bind (chk t5 fun a0 => Prim.run .mov [a0]) fun t65 =>
  Option.bind (chk t64 fun a0 => Prim.run .mov [a0]) fun t2 =>
  Option.bind (chk t65 fun a0 => Prim.run .mov [a0]) fun t3 =>
  K (.ret, [.undef, .undef, t2, t3, .undef, .undef, .undef, .undef, .undef, .undef, .undef, .undef, .undef, .undef, .undef, .undef, .undef, .undef, .undef, .undef, .undef, .undef, .undef, .undef, .undef, .undef, .undef, .undef, .undef, .undef, .undef, .undef, .undef, .undef, .undef, .undef, .undef, .undef, .undef, .undef, .undef, .undef, .undef, .undef, .undef, .undef, .undef, .undef, .undef, .undef, .undef, .undef, .undef, .undef, .undef, .undef, .undef, .undef, .undef, t59, .undef, .undef, .undef, .undef, t64, .undef, .undef, .undef, .undef, .undef, .undef, .undef, .undef, .undef, .undef, .undef, .undef, .undef, .undef, .undef]))
 (Option.bind (chk t11 fun a0 => Prim.run .mov [a0]) fun t67 =>
  Option.bind (chk t67 fun a0 => Option.bind (Ans T 52 [a0]) fun rs => retV 2 rs) fun t68 =>
  Option.bind (chk t68 fun a0 => Prim.run .mov [a0]) fun t66 =>
  Option.bind (chk t66 fun a0 => Prim.run (.ext 0) [a0]) fun t69 =>
  Option.bind (chk t66 fun a0 => Prim.run (.ext 1) [a0]) fun t70 =>
  Option.bind (Prim.run .mov [(.agg [(.int .i64 0), (.str []), (.int .i64 0), (.int .i64 0), (.agg [(.int .i64 0), (.int .i64 0), (.int .i64 0), (.int .i64 0)]), (.agg [(.int .i64 0), (.int .i64 0), (.bool false)])])]) fun t13 =>
  chk t69 fun a0 => chk t13 fun y0 => Option.bind (setP [] y0 a0) fun t13 =>
  Option.bind (chk t70 fun a0 => Prim.run .mov [a0]) fun t14 =>
  Option.bind (chk t14 fun a0 => Prim.run .mov [a0]) fun t71 =>
  Option.bind (chk t71 fun a0 => Prim.run (.un .not) [a0]) fun t72 =>
  chk t72 fun c0 => isB c0
 (Option.bind (chk t4 fun a0 => Prim.run .mov [a0]) fun t73 =>
  Option.bind (chk t5 fun a0 => Prim.run .mov [a0]) fun t74 =>
  Option.bind (chk t73 fun a0 => Prim.run .mov [a0]) fun t2 =>
  Option.bind (chk t74 fun a0 => Prim.run .mov [a0]) fun t3 =>
  K (.ret, [.undef, .undef, t2, t3, .undef, .undef, .undef, .undef, .undef, .undef, .undef, .undef, .undef, .undef, .undef, .undef, .undef, .undef, .undef, .undef, .undef, .undef, .undef, .undef, .undef, .undef, .undef, .undef, .undef, .undef, .undef, .undef, .undef, .undef, .undef, .undef, .undef, .undef, .undef, .undef, .undef, .undef, .undef, .undef, .undef, .undef, .undef, .undef, .undef, .undef, .undef, .undef, .undef, .undef, .undef, .undef, .undef, .undef, .undef, t59, .undef, .undef, .undef, .undef, .undef, .undef, .undef, .undef, .undef, .undef, .undef, .undef, .undef, t73, .undef, .undef, .undef, .undef, .undef, .undef]))
 (Option.bind (chk t4 fun a0 => Prim.run .mov [a0]) fun t75 =>
  Option.bind (chk t13 fun a0 => Prim.run .load [a0, (.ptr [])]) fun t76 =>
  Option.bind (chk t76 fun a0 => Prim.run (.buildSl (.agg [(.int .i64 0), (.str []), (.int .i64 0), (.int .i64 0), (.agg [(.int .i64 0), (.int .i64 0), (.int .i64 0), (.int .i64 0)]), (.agg [(.int .i64 0), (.int .i64 0), (.bool false)])]) 1 [0]) [a0]) fun t77 =>
  Option.bind (chk t75 fun a0 => chk t77 fun a1 => Prim.run (.app 96) [a0, a1]) fun t78 =>
  Option.bind (chk t78 fun a0 => Prim.run .mov [a0]) fun t4 =>
  Option.bind (chk t9 fun a0 => Prim.run .mov [a0]) fun t79 =>
  Option.bind (chk t79 fun a0 => Prim.run .mov [a0]) fun t5 =>
  WL79x1 t0 t4 t5 K)))) = some a) : WL79x1 t0 t4 t5 K = some a := loopK_of (Eq.trans (by kernel_rfl) h)
@[simp] theorem aL79x1 (t0 t1 t2 t3 t4 t5 t6 t7 t8 t9 t10 t11 t12 t13 t14 t15 t16 t17 t18 t19 t20 t21 t22 t23 t24 t25 t26 t27 t28 t29 t30 t31 t32 t33 t34 t35 t36 t37 t38 t39 t40 t41 t42 t43 t44 t45 t46 t47 t48 t49 t50 t51 t52 t53 t54 t55 t56 t57 t58 t59 t60 t61 t62 t63 t64 t65 t66 t67 t68 t69 t70 t71 t72 t73 t74 t75 t76 t77 t78 t79 : PV) (K : RK) : againK T kL79x1 L79x1 K (.normal, [t0, t1, t2, t3, t4, t5, t6, t7, t8, t9, t10, t11, t12, t13, t14, t15, t16, t17, t18, t19, t20, t21, t22, t23, t24, t25, t26, t27, t28, t29, t30, t31, t32, t33, t34, t35, t36, t37, t38, t39, t40, t41, t42, t43, t44, t45, t46, t47, t48, t49, t50, t51, t52, t53, t54, t55, t56, t57, t58, t59, t60, t61, t62, t63, t64, t65, t66, t67, t68, t69, t70, t71, t72, t73, t74, t75, t76, t77, t78, t79]) = WL79x1 t0 t4 t5 K := by kernel_rfl
theorem f79 (t0 : PV) {rs : List PV} (h : (Option.bind (Prim.run .mov [(.slice true [])]) fun t2 =>
  Option.bind (Prim.run .mov [(.int .i64 0)]) fun t3 =>
  Option.bind (Prim.run .mov [(.slice true [])]) fun t4 =>
  Option.bind (Prim.run .mov [(.int .i64 0)]) fun t5 =>
  WL79x1 t0 t4 t5 (blockK 0 (endK [2, 3]))) = some rs) : Ans T 79 [t0] = some rs := call_of (T := T) c79 (Eq.trans (by kernel_rfl) h)
/-! vmfleet/journal.Valid -/
noncomputable def WL80x2 (t1 t18 t19 t20 : PV) (K : RK) : Option (List PV) := loopK T kL80x2 L80x2 [.undef, t1, .undef, .undef, .undef, .undef, .undef, .undef, .undef, .undef, .undef, .undef, .undef, .undef, .undef, .undef, .undef, .undef, t18, t19, t20, .undef, .undef, .undef, .undef, .undef, .undef, .undef, .undef, .undef, .undef, .undef, .undef, .undef, .undef, .undef, .undef, .undef, .undef, .undef, .undef, .undef, .undef, .undef, .undef, .undef, .undef, .undef, .undef, .undef, .undef, .undef, .undef, .undef, .undef, .undef, .undef, .undef, .undef, .undef, .undef, .undef, .undef, .undef, .undef, .undef, .undef, .undef, .undef, .undef, .undef, .undef, .undef, .undef, .undef, .undef, .undef, .undef, .undef, .undef, .undef, .undef, .undef, .undef, .undef, .undef, .undef, .undef, .undef, .undef, .undef, .undef, .undef, .undef, .undef, .undef, .undef, .undef, .undef, .undef, .undef, .undef] K
theorem oL80x2 (t1 t18 t19 t20 : PV) (K : RK) {a : List PV} (h : (Option.bind (chk t20 fun a0 => chk t19 fun a1 => Prim.run (.bin .lss) [a0, a1]) fun t21 =>
  chk t21 fun c0 => isB c0
 (Option.bind (chk t20 fun a0 => Prim.run .mov [a0]) fun t22 =>
  Option.bind (chk t18 fun a0 => chk t20 fun a1 => Prim.run (.iptr []) [a0, a1]) fun t23 =>
  Option.bind (chk t18 fun a0 => chk t23 fun a1 => Prim.run .load [a0, a1]) fun t24 =>
  Option.bind (Prim.run .mov [(.agg [(.str []), (.agg [(.int .i64 0), (.int .i64 0), (.int .i64 0), (.int .i64 0)]), (.agg [(.int .i64 0), (.int .i64 0)])])]) fun t4 =>
  Option.bind (chk t22 fun a0 => Prim.run .mov [a0]) fun t3 =>
  chk t24 fun a0 => chk t4 fun y0 => Option.bind (setP [] y0 a0) fun t4 =>
  Option.bind (Prim.run (.fptr 0) [(.ptr [])]) fun t25 =>
  Option.bind (chk t4 fun a0 => chk t25 fun a1 => Prim.run .load [a0, a1]) fun t26 =>
  Option.bind (chk t26 fun a0 => Option.bind (Ans T 95 [a0]) fun rs => retV 1 rs) fun t27 =>
  Option.bind (chk t27 fun a0 => Prim.run (.un .not) [a0]) fun t28 =>
  Option.bind (chk t28 fun a0 => Prim.run .mov [a0]) fun t29 =>
  Option.bind (grd t29 false (chk t3 fun a0 => Prim.run .mov [a0])) fun t30 =>
  Option.bind (grd t29 false (chk t30 fun a0 => Prim.run (.bin .gtr) [a0, (.int .i64 0)])) fun t31 =>
  Option.bind (grd t29 false (chk t31 fun a0 => Prim.run .mov [a0])) fun t32 =>
  Option.bind (grd t32 true (Prim.run (.fptr 1) [(.ptr [])])) fun t33 =>
  Option.bind (grd t32 true (chk t1 fun a0 => chk t33 fun a1 => Prim.run .load [a0, a1])) fun t34 =>
  Option.bind (grd t32 true (chk t3 fun a0 => Prim.run .mov [a0])) fun t35 =>
  Option.bind (grd t32 true (chk t35 fun a0 => Prim.run (.bin .sub) [a0, (.int .i64 1)])) fun t36 =>
  Option.bind (grd t32 true (chk t34 fun a0 => chk t36 fun a1 => Prim.run (.iptr []) [a0, a1])) fun t37 =>
  Option.bind (grd t32 true (chk t37 fun a0 => Prim.run (.fptr 0) [a0])) fun t38 =>
  Option.bind (grd t32 true (chk t34 fun a0 => chk t38 fun a1 => Prim.run .load [a0, a1])) fun t39 =>
  Option.bind (grd t32 true (Prim.run (.fptr 0) [(.ptr [])])) fun t40 =>
  Option.bind (grd t32 true (chk t4 fun a0 => chk t40 fun a1 => Prim.run .load [a0, a1])) fun t41 =>
  Option.bind (grd t32 true (chk t39 fun a0 => chk t41 fun a1 => Prim.run (.bin .geq) [a0, a1])) fun t42 =>
  Option.bind (grd t29 false (chk t32 fun a0 => isB a0 (chk t42 fun a1 => some a1) (some (.bool false)))) fun t43 =>
  Option.bind (chk t29 fun a0 => isB a0 (some (.bool true)) (chk t43 fun a1 => some a1)) fun t44 =>
  Option.bind (chk t44 fun a0 => Prim.run .mov [a0]) fun t45 =>
  Option.bind (grd t45 false (Prim.run (.fptr 1) [(.ptr [])])) fun t46 =>
  Option.bind (grd t45 false (chk t4 fun a0 => chk t46 fun a1 => Prim.run .load [a0, a1])) fun t47 =>
  Option.bind (grd t45 false (chk t47 fun a0 => Option.bind (Ans T 96 [a0]) fun rs => retV 1 rs)) fun t48 =>
  Option.bind (grd t45 false (chk t48 fun a0 => Prim.run (.un .not) [a0])) fun t49 =>
  Option.bind (chk t45 fun a0 => isB a0 (some (.bool true)) (chk t49 fun a1 => some a1)) fun t50 =>
  Option.bind (chk t50 fun a0 => Prim.run .mov [a0]) fun t51 =>
  Option.bind (grd t51 false (chk t1 fun a0 => Prim.run .load [a0, (.ptr [])])) fun t52 =>
  Option.bind (grd t51 false (Prim.run (.fptr 2) [(.ptr [])])) fun t53 =>
  Option.bind (grd t51 false (chk t53 fun a0 => Prim.run (.aptr 2) [a0, (.int .i64 0)])) fun t54 =>
  Option.bind (grd t51 false (chk t4 fun a0 => chk t54 fun a1 => Prim.run .load [a0, a1])) fun t55 =>
  Option.bind (grd t51 false (chk t52 fun a0 => chk t55 fun a1 => Option.bind (Ans T 97 [a0, a1]) fun rs => retV 1 rs)) fun t56 =>
  Option.bind (grd t51 false (chk t56 fun a0 => Prim.run (.un .not) [a0])) fun t57 =>
  Option.bind (chk t51 fun a0 => isB a0 (some (.bool true)) (chk t57 fun a1 => some a1)) fun t58 =>
  Option.bind (chk t58 fun a0 => Prim.run .mov [a0]) fun t59 =>
  Option.bind (grd t59 false (chk t1 fun a0 => Prim.run .load [a0, (.ptr [])])) fun t60 =>
  Option.bind (grd t59 false (Prim.run (.fptr 2) [(.ptr [])])) fun t61 =>
  Option.bind (grd t59 false (chk t61 fun a0 => Prim.run (.aptr 2) [a0, (.int .i64 1)])) fun t62 =>
  Option.bind (grd t59 false (chk t4 fun a0 => chk t62 fun a1 => Prim.run .load [a0, a1])) fun t63 =>
  Option.bind (grd t59 false (chk t60 fun a0 => chk t63 fun a1 => Option.bind (Ans T 97 [a0, a1]) fun rs => retV 1 rs)) fun t64 =>
  Option.bind (grd t59 false (chk t64 fun a0 => Prim.run (.un .not) [a0])) fun t65 =>
  Option.bind (chk t59 fun a0 => isB a0 (some (.bool true)) (chk t65 fun a1 => some a1)) fun t66 =>
  Option.bind (chk t66 fun a0 => Prim.run .mov [a0]) fun t67 =>
  Option.bind (grd t67 false (Prim.run (.fptr 2) [(.ptr [])])) fun t68 =>
  Option.bind (grd t67 false (chk t68 fun a0 => Prim.run (.aptr 2) [a0, (.int .i64 0)])) fun t69 =>
  Option.bind (grd t67 false (chk t4 fun a0 => chk t69 fun a1 => Prim.run .load [a0, a1])) fun t70 =>
  Option.bind (grd t67 false (Prim.run (.fptr 2) [(.ptr [])])) fun t71 =>
  Option.bind (grd t67 false (chk t71 fun a0 => Prim.run (.aptr 2) [a0, (.int .i64 1)])) fun t72 =>
  Option.bind (grd t67 false (chk t4 fun a0 => chk t72 fun a1 => Prim.run .load [a0, a1])) fun t73 =>
  Option.bind (grd t67 false (chk t70 fun a0 => chk t73 fun a1 => Prim.run (.bin .eql) [a0, a1])) fun t74 =>
  Option.bind (chk t67 fun a0 => isB a0 (some (.bool true)) (chk t74 fun a1 => some a1)) fun t75 =>
  chk t75 fun c0 => isB c0
 (Option.bind (Prim.run .mov [(.bool false)]) fun t2 =>
  K (.ret, [.undef, .undef, t2, .undef, .undef, .undef, .undef, .undef, .undef, .undef, .undef, .undef, .undef, .undef, .undef, .undef, .undef, .undef, .undef, .undef, .undef, .undef, .undef, .undef, .undef, .undef, .undef, .undef, .undef, .undef, .undef, .undef, .undef, .undef, .undef, .undef, .undef, .undef, .undef, .undef, .undef, .undef, .undef, .undef, .undef, .undef, .undef, .undef, .undef, .undef, .undef, .undef, .undef, .undef, .undef, .undef, .undef, .undef, .undef, .undef, .undef, .undef, .undef, .undef, .undef, .undef, .undef, .undef, .undef, .undef, .undef, .undef, .undef, .undef, .undef, .undef, .undef, .undef, .undef, .undef, .undef, .undef, .undef, .undef, .undef, .undef, .undef, .undef, .undef, .undef, .undef, .undef, .undef, .undef, .undef, .undef, .undef, .undef, .undef, .undef, .undef, .undef]))
 (Option.bind (chk t20 fun a0 => Prim.run (.bin .add) [a0, (.int .i64 1)]) fun t76 =>
  Option.bind (chk t76 fun a0 => Prim.run .mov [a0]) fun t20 =>
  WL80x2 t1 t18 t19 t20 K))
 (K (.exit 0, [.undef, t1, .undef, .undef, .undef, .undef, .undef, .undef, .undef, .undef, .undef, .undef, .undef, .undef, .undef, .undef, .undef, .undef, .undef, .undef, .undef, .undef, .undef, .undef, .undef, .undef, .undef, .undef, .undef, .undef, .undef, .undef, .undef, .undef, .undef, .undef, .undef, .undef, .undef, .undef, .undef, .undef, .undef, .undef, .undef, .undef, .undef, .undef, .undef, .undef, .undef, .undef, .undef, .undef, .undef, .undef, .undef, .undef, .undef, .undef, .undef, .undef, .undef, .undef, .undef, .undef, .undef, .undef, .undef, .undef, .undef, .undef, .undef, .undef, .undef, .undef, .undef, .undef, .undef, .undef, .undef, .undef, .undef, .undef, .undef, .undef, .undef, .undef, .undef, .undef, .undef, .undef, .undef, .undef, .undef, .undef, .undef, .undef, .undef, .undef, .undef, .undef]))) = some a) : WL80x2 t1 t18 t19 t20 K = some a := loopK_of (Eq.trans (by kernel_rfl) h)
@[simp] theorem aL80x2 (t0 t1 t2 t3 t4 t5 t6 t7 t8 t9 t10 t11 t12 t13 t14 t15 t16 t17 t18 t19 t20 t21 t22 t23 t24 t25 t26 t27 t28 t29 t30 t31 t32 t33 t34 t35 t36 t37 t38 t39 t40 t41 t42 t43 t44 t45 t46 t47 t48 t49 t50 t51 t52 t53 t54 t55 t56 t57 t58 t59 t60 t61 t62 t63 t64 t65 t66 t67 t68 t69 t70 t71 t72 t73 t74 t75 t76 t77 t78 t79 t80 t81 t82 t83 t84 t85 t86 t87 t88 t89 t90 t91 t92 t93 t94 t95 t96 t97 t98 t99 t100 t101 : PV) (K : RK) : againK T kL80x2 L80x2 K (.normal, [t0, t1, t2, t3, t4, t5, t6, t7, t8, t9, t10, t11, t12, t13, t14, t15, t16, t17, t18, t19, t20, t21, t22, t23, t24, t25, t26, t27, t28, t29, t30, t31, t32, t33, t34, t35, t36, t37, t38, t39, t40, t41, t42, t43, t44, t45, t46, t47, t48, t49, t50, t51, t52, t53, t54, t55, t56, t57, t58, t59, t60, t61, t62, t63, t64, t65, t66, t67, t68, t69, t70, t71, t72, t73, t74, t75, t76, t77, t78, t79, t80, t81, t82, t83, t84, t85, t86, t87, t88, t89, t90, t91, t92, t93, t94, t95, t96, t97, t98, t99, t100, t101]) = WL80x2 t1 t18 t19 t20 K := by kernel_rfl
@[simp] theorem lA80x1 (t1 t16 : PV) (K : RK) : denK T A80x1 [.undef, t1, .undef, .undef, .undef, .undef, .undef, .undef, .undef, .undef, .undef, .undef, .undef, .undef, .undef, .undef, t16, .undef, .undef, .undef, .undef, .undef, .undef, .undef, .undef, .undef, .undef, .undef, .undef, .undef, .undef, .undef, .undef, .undef, .undef, .undef, .undef, .undef, .undef, .undef, .undef, .undef, .undef, .undef, .undef, .undef, .undef, .undef, .undef, .undef, .undef, .undef, .undef, .undef, .undef, .undef, .undef, .undef, .undef, .undef, .undef, .undef, .undef, .undef, .undef, .undef, .undef, .undef, .undef, .undef, .undef, .undef, .undef, .undef, .undef, .undef, .undef, .undef, .undef, .undef, .undef, .undef, .undef, .undef, .undef, .undef, .undef, .undef, .undef, .undef, .undef, .undef, .undef, .undef, .undef, .undef, .undef, .undef, .undef, .undef, .undef, .undef] K =
  Option.bind (Prim.run (.fptr 1) [(.ptr [])]) fun t17 =>
  Option.bind (chk t1 fun a0 => chk t17 fun a1 => Prim.run .load [a0, a1]) fun t18 =>
  Option.bind (chk t18 fun a0 => Prim.run .len [a0]) fun t19 =>
  Option.bind (Prim.run .mov [(.int .i64 0)]) fun t20 =>
  WL80x2 t1 t18 t19 t20 (blockK 0 K) := by kernel_rfl
noncomputable def WL80x4 (t1 t78 t79 t80 : PV) (K : RK) : Option (List PV) := loopK T kL80x4 L80x4 [.undef, t1, .undef, .undef, .undef, .undef, .undef, .undef, .undef, .undef, .undef, .undef, .undef, .undef, .undef, .undef, .undef, .undef, .undef, .undef, .undef, .undef, .undef, .undef, .undef, .undef, .undef, .undef, .undef, .undef, .undef, .undef, .undef, .undef, .undef, .undef, .undef, .undef, .undef, .undef, .undef, .undef, .undef, .undef, .undef, .undef, .undef, .undef, .undef, .undef, .undef, .undef, .undef, .undef, .undef, .undef, .undef, .undef, .undef, .undef, .undef, .undef, .undef, .undef, .undef, .undef, .undef, .undef, .undef, .undef, .undef, .undef, .undef, .undef, .undef, .undef, .undef, .undef, t78, t79, t80, .undef, .undef, .undef, .undef, .undef, .undef, .undef, .undef, .undef, .undef, .undef, .undef, .undef, .undef, .undef, .undef, .undef, .undef, .undef, .undef, .undef] K
theorem oL80x4 (t1 t78 t79 t80 : PV) (K : RK) {a : List PV} (h : (Option.bind (chk t80 fun a0 => chk t79 fun a1 => Prim.run (.bin .lss) [a0, a1]) fun t81 =>
  chk t81 fun c0 => isB c0
 (Option.bind (chk t80 fun a0 => Prim.run .mov [a0]) fun t82 =>
  Option.bind (chk t78 fun a0 => chk t80 fun a1 => Prim.run (.iptr []) [a0, a1]) fun t83 =>
  Option.bind (chk t78 fun a0 => chk t83 fun a1 => Prim.run .load [a0, a1]) fun t84 =>
  Option.bind (Prim.run .mov [(.agg [(.int .i64 0), (.int .i64 0), (.bool false)])]) fun t6 =>
  Option.bind (chk t82 fun a0 => Prim.run .mov [a0]) fun t5 =>
  chk t84 fun a0 => chk t6 fun y0 => Option.bind (setP [] y0 a0) fun t6 =>
  Option.bind (chk t6 fun a0 => Prim.run .load [a0, (.ptr [])]) fun t85 =>
  Option.bind (chk t85 fun a0 => Option.bind (Ans T 98 [a0]) fun rs => retV 1 rs) fun t86 =>
  Option.bind (chk t86 fun a0 => Prim.run (.un .not) [a0]) fun t87 =>
  Option.bind (chk t87 fun a0 => Prim.run .mov [a0]) fun t88 =>
  Option.bind (grd t88 false (Prim.run (.fptr 2) [(.ptr [])])) fun t89 =>
  Option.bind (grd t88 false (chk t6 fun a0 => chk t89 fun a1 => Prim.run .load [a0, a1])) fun t90 =>
  Option.bind (grd t88 false (chk t90 fun a0 => Prim.run .mov [a0])) fun t91 =>
  Option.bind (grd t91 true (chk t6 fun a0 => Prim.run .load [a0, (.ptr [])])) fun t92 =>
  Option.bind (grd t91 true (Prim.run (.fptr 1) [(.ptr [])])) fun t93 =>
  Option.bind (grd t91 true (chk t1 fun a0 => chk t93 fun a1 => Prim.run .load [a0, a1])) fun t94 =>
  Option.bind (grd t91 true (chk t5 fun a0 => Prim.run .mov [a0])) fun t95 =>
  Option.bind (grd t91 true (chk t94 fun a0 => chk t95 fun a1 => Option.bind (Ans T 100 [a0, a1]) fun rs => retV 1 rs)) fun t96 =>
  Option.bind (grd t91 true (chk t92 fun a0 => chk t96 fun a1 => Option.bind (Ans T 99 [a0, a1]) fun rs => retV 1 rs)) fun t97 =>
  Option.bind (grd t91 true (chk t97 fun a0 => Prim.run (.un .not) [a0])) fun t98 =>
  Option.bind (grd t88 false (chk t91 fun a0 => isB a0 (chk t98 fun a1 => some a1) (some (.bool false)))) fun t99 =>
  Option.bind (chk t88 fun a0 => isB a0 (some (.bool true)) (chk t99 fun a1 => some a1)) fun t100 =>
  chk t100 fun c0 => isB c0
 (Option.bind (Prim.run .mov [(.bool false)]) fun t2 =>
  K (.ret, [.undef, .undef, t2, .undef, .undef, .undef, .undef, .undef, .undef, .undef, .undef, .undef, .undef, .undef, .undef, .undef, .undef, .undef, .undef, .undef, .undef, .undef, .undef, .undef, .undef, .undef, .undef, .undef, .undef, .undef, .undef, .undef, .undef, .undef, .undef, .undef, .undef, .undef, .undef, .undef, .undef, .undef, .undef, .undef, .undef, .undef, .undef, .undef, .undef, .undef, .undef, .undef, .undef, .undef, .undef, .undef, .undef, .undef, .undef, .undef, .undef, .undef, .undef, .undef, .undef, .undef, .undef, .undef, .undef, .undef, .undef, .undef, .undef, .undef, .undef, .undef, .undef, .undef, .undef, .undef, .undef, .undef, .undef, .undef, .undef, .undef, .undef, .undef, .undef, .undef, .undef, .undef, .undef, .undef, .undef, .undef, .undef, .undef, .undef, .undef, .undef, .undef]))
 (Option.bind (chk t80 fun a0 => Prim.run (.bin .add) [a0, (.int .i64 1)]) fun t101 =>
  Option.bind (chk t101 fun a0 => Prim.run .mov [a0]) fun t80 =>
  WL80x4 t1 t78 t79 t80 K))
 (K (.exit 2, [.undef, .undef, .undef, .undef, .undef, .undef, .undef, .undef, .undef, .undef, .undef, .undef, .undef, .undef, .undef, .undef, .undef, .undef, .undef, .undef, .undef, .undef, .undef, .undef, .undef, .undef, .undef, .undef, .undef, .undef, .undef, .undef, .undef, .undef, .undef, .undef, .undef, .undef, .undef, .undef, .undef, .undef, .undef, .undef, .undef, .undef, .undef, .undef, .undef, .undef, .undef, .undef, .undef, .undef, .undef, .undef, .undef, .undef, .undef, .undef, .undef, .undef, .undef, .undef, .undef, .undef, .undef, .undef, .undef, .undef, .undef, .undef, .undef, .undef, .undef, .undef, .undef, .undef, .undef, .undef, .undef, .undef, .undef, .undef, .undef, .undef, .undef, .undef, .undef, .undef, .undef, .undef, .undef, .undef, .undef, .undef, .undef, .undef, .undef, .undef, .undef, .undef]))) = some a) : WL80x4 t1 t78 t79 t80 K = some a := loopK_of (Eq.trans (by kernel_rfl) h)
@[simp] theorem aL80x4 (t0 t1 t2 t3 t4 t5 t6 t7 t8 t9 t10 t11 t12 t13 t14 t15 t16 t17 t18 t19 t20 t21 t22 t23 t24 t25 t26 t27 t28 t29 t30 t31 t32 t33 t34 t35 t36 t37 t38 t39 t40 t41 t42 t43 t44 t45 t46 t47 t48 t49 t50 t51 t52 t53 t54 t55 t56 t57 t58 t59 t60 t61 t62 t63 t64 t65 t66 t67 t68 t69 t70 t71 t72 t73 t74 t75 t76 t77 t78 t79 t80 t81 t82 t83 t84 t85 t86 t87 t88 t89 t90 t91 t92 t93 t94 t95 t96 t97 t98 t99 t100 t101 : PV) (K : RK) : againK T kL80x4 L80x4 K (.normal, [t0, t1, t2, t3, t4, t5, t6, t7, t8, t9, t10, t11, t12, t13, t14, t15, t16, t17, t18, t19, t20, t21, t22, t23, t24, t25, t26, t27, t28, t29, t30, t31, t32, t33, t34, t35, t36, t37, t38, t39, t40, t41, t42, t43, t44, t45, t46, t47, t48, t49, t50, t51, t52, t53, t54, t55, t56, t57, t58, t59, t60, t61, t62, t63, t64, t65, t66, t67, t68, t69, t70, t71, t72, t73, t74, t75, t76, t77, t78, t79, t80, t81, t82, t83, t84, t85, t86, t87, t88, t89, t90, t91, t92, t93, t94, t95, t96, t97, t98, t99, t100, t101]) = WL80x4 t1 t78 t79 t80 K := by kernel_rfl
@[simp] theorem lA80x3 (t1 : PV) (K : RK) : denK T A80x3 [.undef, t1, .undef, .undef, .undef, .undef, .undef, .undef, .undef, .undef, .undef, .undef, .undef, .undef, .undef, .undef, .undef, .undef, .undef, .undef, .undef, .undef, .undef, .undef, .undef, .undef, .undef, .undef, .undef, .undef, .undef, .undef, .undef, .undef, .undef, .undef, .undef, .undef, .undef, .undef, .undef, .undef, .undef, .undef, .undef, .undef, .undef, .undef, .undef, .undef, .undef, .undef, .undef, .undef, .undef, .undef, .undef, .undef, .undef, .undef, .undef, .undef, .undef, .undef, .undef, .undef, .undef, .undef, .undef, .undef, .undef, .undef, .undef, .undef, .undef, .undef, .undef, .undef, .undef, .undef, .undef, .undef, .undef, .undef, .undef, .undef, .undef, .undef, .undef, .undef, .undef, .undef, .undef, .undef, .undef, .undef, .undef, .undef, .undef, .undef, .undef, .undef] K =
  Option.bind (Prim.run (.fptr 0) [(.ptr [])]) fun t77 =>
  Option.bind (chk t1 fun a0 => chk t77 fun a1 => Prim.run .load [a0, a1]) fun t78 =>
  Option.bind (chk t78 fun a0 => Prim.run .len [a0]) fun t79 =>
  Option.bind (Prim.run .mov [(.int .i64 0)]) fun t80 =>
  WL80x4 t1 t78 t79 t80 (blockK 2 K) := by kernel_rfl
@[simp] theorem lB80x3 (K : RK) : denK T B80x3 [.undef, .undef, .undef, .undef, .undef, .undef, .undef, .undef, .undef, .undef, .undef, .undef, .undef, .undef, .undef, .undef, .undef, .undef, .undef, .undef, .undef, .undef, .undef, .undef, .undef, .undef, .undef, .undef, .undef, .undef, .undef, .undef, .undef, .undef, .undef, .undef, .undef, .undef, .undef, .undef, .undef, .undef, .undef, .undef, .undef, .undef, .undef, .undef, .undef, .undef, .undef, .undef, .undef, .undef, .undef, .undef, .undef, .undef, .undef, .undef, .undef, .undef, .undef, .undef, .undef, .undef, .undef, .undef, .undef, .undef, .undef, .undef, .undef, .undef, .undef, .undef, .undef, .undef, .undef, .undef, .undef, .undef, .undef, .undef, .undef, .undef, .undef, .undef, .undef, .undef, .undef, .undef, .undef, .undef, .undef, .undef, .undef, .undef, .undef, .undef, .undef, .undef] K =
  Option.bind (Prim.run .mov [(.bool true)]) fun t2 =>
  K (.ret, [.undef, .undef, t2, .undef, .undef, .undef, .undef, .undef, .undef, .undef, .undef, .undef, .undef, .undef, .undef, .undef, .undef, .undef, .undef, .undef, .undef, .undef, .undef, .undef, .undef, .undef, .undef, .undef, .undef, .undef, .undef, .undef, .undef, .undef, .undef, .undef, .undef, .undef, .undef, .undef, .undef, .undef, .undef, .undef, .undef, .undef, .undef, .undef, .undef, .undef, .undef, .undef, .undef, .undef, .undef, .undef, .undef, .undef, .undef, .undef, .undef, .undef, .undef, .undef, .undef, .undef, .undef, .undef, .undef, .undef, .undef, .undef, .undef, .undef, .undef, .undef, .undef, .undef, .undef, .undef, .undef, .undef, .undef, .undef, .undef, .undef, .undef, .undef, .undef, .undef, .undef, .undef, .undef, .undef, .undef, .undef, .undef, .undef, .undef, .undef, .undef, .undef]) := by kernel_rfl
@[simp] theorem lB80x1 (t1 : PV) (K : RK) : denK T B80x1 [.undef, t1, .undef, .undef, .undef, .undef, .undef, .undef, .undef, .undef, .undef, .undef, .undef, .undef, .undef, .undef, .undef, .undef, .undef, .undef, .undef, .undef, .undef, .undef, .undef, .undef, .undef, .undef, .undef, .undef, .undef, .undef, .undef, .undef, .undef, .undef, .undef, .undef, .undef, .undef, .undef, .undef, .undef, .undef, .undef, .undef, .undef, .undef, .undef, .undef, .undef, .undef, .undef, .undef, .undef, .undef, .undef, .undef, .undef, .undef, .undef, .undef, .undef, .undef, .undef, .undef, .undef, .undef, .undef, .undef, .undef, .undef, .undef, .undef, .undef, .undef, .undef, .undef, .undef, .undef, .undef, .undef, .undef, .undef, .undef, .undef, .undef, .undef, .undef, .undef, .undef, .undef, .undef, .undef, .undef, .undef, .undef, .undef, .undef, .undef, .undef, .undef] K =
  denK T A80x3 [.undef, t1, .undef, .undef, .undef, .undef, .undef, .undef, .undef, .undef, .undef, .undef, .undef, .undef, .undef, .undef, .undef, .undef, .undef, .undef, .undef, .undef, .undef, .undef, .undef, .undef, .undef, .undef, .undef, .undef, .undef, .undef, .undef, .undef, .undef, .undef, .undef, .undef, .undef, .undef, .undef, .undef, .undef, .undef, .undef, .undef, .undef, .undef, .undef, .undef, .undef, .undef, .undef, .undef, .undef, .undef, .undef, .undef, .undef, .undef, .undef, .undef, .undef, .undef, .undef, .undef, .undef, .undef, .undef, .undef, .undef, .undef, .undef, .undef, .undef, .undef, .undef, .undef, .undef, .undef, .undef, .undef, .undef, .undef, .undef, .undef, .undef, .undef, .undef, .undef, .undef, .undef, .undef, .undef, .undef, .undef, .undef, .undef, .undef, .undef, .undef, .undef] (seqK T B80x3 K) := by kernel_rfl
theorem f80 (t0 : PV) {rs : List PV} (h : (Option.bind (chk t0 fun a0 => Prim.run .mov [a0]) fun t1 =>
  Option.bind (Prim.run .mov [(.bool false)]) fun t2 =>
  Option.bind (Prim.run (.fptr 0) [(.ptr [])]) fun t7 =>
  Option.bind (chk t1 fun a0 => chk t7 fun a1 => Prim.run .load [a0, a1]) fun t8 =>
  Option.bind (chk t8 fun a0 => Prim.run .len [a0]) fun t9 =>
  Option.bind (chk t9 fun a0 => Prim.run (.bin .gtr) [a0, (.int .i64 6)]) fun t10 =>
  Option.bind (chk t10 fun a0 => Prim.run .mov [a0]) fun t11 =>
  Option.bind (grd t11 false (Prim.run (.fptr 1) [(.ptr [])])) fun t12 =>
  Option.bind (grd t11 false (chk t1 fun a0 => chk t12 fun a1 => Prim.run .load [a0, a1])) fun t13 =>
  Option.bind (grd t11 false (chk t13 fun a0 => Prim.run .len [a0])) fun t14 =>
  Option.bind (grd t11 false (chk t14 fun a0 => Prim.run (.bin .gtr) [a0, (.int .i64 8)])) fun t15 =>
  Option.bind (chk t11 fun a0 => isB a0 (some (.bool true)) (chk t15 fun a1 => some a1)) fun t16 =>
  chk t16 fun c0 => isB c0
 (Option.bind (Prim.run .mov [(.bool false)]) fun t2 =>
  allDef [t2])
 (denK T A80x1 [.undef, t1, .undef, .undef, .undef, .undef, .undef, .undef, .undef, .undef, .undef, .undef, .undef, .undef, .undef, .undef, t16, .undef, .undef, .undef, .undef, .undef, .undef, .undef, .undef, .undef, .undef, .undef, .undef, .undef, .undef, .undef, .undef, .undef, .undef, .undef, .undef, .undef, .undef, .undef, .undef, .undef, .undef, .undef, .undef, .undef, .undef, .undef, .undef, .undef, .undef, .undef, .undef, .undef, .undef, .undef, .undef, .undef, .undef, .undef, .undef, .undef, .undef, .undef, .undef, .undef, .undef, .undef, .undef, .undef, .undef, .undef, .undef, .undef, .undef, .undef, .undef, .undef, .undef, .undef, .undef, .undef, .undef, .undef, .undef, .undef, .undef, .undef, .undef, .undef, .undef, .undef, .undef, .undef, .undef, .undef, .undef, .undef, .undef, .undef, .undef, .undef] (seqK T B80x1 (endK [2])))) = some rs) : Ans T 80 [t0] = some rs := call_of (T := T) c80 (Eq.trans (by kernel_rfl) h)
/-! (*vmfleet/journal.reader).number -/
theorem f81 (t0 : PV) {rs : List PV} (h : (Option.bind (Prim.run .mov [(.int .i64 0)]) fun t2 =>
  Option.bind (Prim.run .mov [(.ptr [])]) fun t7 =>
  Option.bind (chk t7 fun a0 => Prim.run .mov [a0]) fun t8 =>
  Option.bind (chk t8 fun a0 => Prim.run (.fptr 0) [a0]) fun t9 =>
  Option.bind (chk t0 fun a0 => chk t9 fun a1 => Prim.run .load [a0, a1]) fun t10 =>
  Option.bind (chk t10 fun a0 => Option.bind (Ans T 63 [a0]) fun rs => retV 3 rs) fun t11 =>
  Option.bind (chk t11 fun a0 => Prim.run .mov [a0]) fun t6 =>
  Option.bind (chk t6 fun a0 => Prim.run (.ext 0) [a0]) fun t12 =>
  Option.bind (chk t6 fun a0 => Prim.run (.ext 1) [a0]) fun t13 =>
  Option.bind (chk t6 fun a0 => Prim.run (.ext 2) [a0]) fun t14 =>
  Option.bind (chk t12 fun a0 => Prim.run .mov [a0]) fun t3 =>
  Option.bind (chk t13 fun a0 => Prim.run .mov [a0]) fun t4 =>
  Option.bind (chk t14 fun a0 => Prim.run .mov [a0]) fun t5 =>
  Option.bind (chk t5 fun a0 => Prim.run .mov [a0]) fun t15 =>
  Option.bind (chk t15 fun a0 => Prim.run (.un .not) [a0]) fun t16 =>
  chk t16 fun c0 => isB c0
 (Option.bind (Prim.run .mov [(.ptr [])]) fun t17 =>
  Option.bind (chk t17 fun a0 => Prim.run .mov [a0]) fun t18 =>
  Option.bind (chk t18 fun a0 => Prim.run (.fptr 1) [a0]) fun t19 =>
  asPath t19 fun q0 => chk t0 fun y0 => Option.bind (setP q0 y0 (.bool false)) fun t0 =>
  Option.bind (Prim.run .mov [(.int .i64 0)]) fun t2 =>
  allDef [t2, t0])
 (Option.bind (Prim.run .mov [(.ptr [])]) fun t20 =>
  Option.bind (Prim.run .mov [(.ptr [])]) fun t21 =>
  Option.bind (chk t21 fun a0 => Prim.run .mov [a0]) fun t22 =>
  Option.bind (chk t22 fun a0 => Prim.run (.fptr 0) [a0]) fun t23 =>
  Option.bind (chk t0 fun a0 => chk t23 fun a1 => Prim.run .load [a0, a1]) fun t24 =>
  Option.bind (chk t4 fun a0 => Prim.run .mov [a0]) fun t25 =>
  Option.bind (chk t24 fun a0 => chk t25 fun a1 => Prim.run (.sl true false) [a0, a1]) fun t26 =>
  Option.bind (chk t20 fun a0 => Prim.run .mov [a0]) fun t27 =>
  Option.bind (chk t27 fun a0 => Prim.run (.fptr 0) [a0]) fun t28 =>
  chk t26 fun a0 => asPath t28 fun q0 => chk t0 fun y0 => Option.bind (setP q0 y0 a0) fun t0 =>
  Option.bind (chk t3 fun a0 => Prim.run .mov [a0]) fun t29 =>
  Option.bind (chk t29 fun a0 => Prim.run (.toInt .i64) [a0]) fun t30 =>
  Option.bind (chk t30 fun a0 => Prim.run .mov [a0]) fun t2 =>
  allDef [t2, t0])) = some rs) : Ans T 81 [t0] = some rs := call_of (T := T) c81 (Eq.trans (by kernel_rfl) h)
/-! (*vmfleet/journal.reader).text -/
theorem f82 (t0 : PV) {rs : List PV} (h : (Option.bind (Prim.run .mov [(.str [])]) fun t2 =>
  Option.bind (Prim.run .mov [(.ptr [])]) fun t5 =>
  asPath t5 fun a0q => chk t0 fun a0r => Option.bind (getP a0q a0r) fun a0 => Option.bind (Ans T 81 [a0]) fun rs1 => consK (rs1.drop 1) fun y0 ys0 => asPath t5 fun q0 => chk t0 fun x0 => Option.bind (setP q0 x0 y0) fun t0 => nilK ys0 (Option.bind (chk (resultOf 1 rs1) fun a0 => Prim.run .mov [a0]) fun t3 =>
  Option.bind (Prim.run .mov [(.ptr [])]) fun t7 =>
  Option.bind (chk t7 fun a0 => Prim.run .mov [a0]) fun t8 =>
  Option.bind (chk t8 fun a0 => Prim.run (.fptr 1) [a0]) fun t9 =>
  Option.bind (chk t0 fun a0 => chk t9 fun a1 => Prim.run .load [a0, a1]) fun t10 =>
  Option.bind (chk t10 fun a0 => Prim.run (.un .not) [a0]) fun t11 =>
  Option.bind (chk t11 fun a0 => Prim.run .mov [a0]) fun t12 =>
  Option.bind (grd t12 false (chk t3 fun a0 => Prim.run .mov [a0])) fun t13 =>
  Option.bind (grd t12 false (chk t13 fun a0 => Prim.run (.bin .lss) [a0, (.int .i64 0)])) fun t14 =>
  Option.bind (chk t12 fun a0 => isB a0 (some (.bool true)) (chk t14 fun a1 => some a1)) fun t15 =>
  Option.bind (chk t15 fun a0 => Prim.run .mov [a0]) fun t16 =>
  Option.bind (grd t16 false (chk t3 fun a0 => Prim.run .mov [a0])) fun t17 =>
  Option.bind (grd t16 false (Prim.run .mov [(.ptr [])])) fun t18 =>
  Option.bind (grd t16 false (chk t18 fun a0 => Prim.run .mov [a0])) fun t19 =>
  Option.bind (grd t16 false (chk t19 fun a0 => Prim.run (.fptr 0) [a0])) fun t20 =>
  Option.bind (grd t16 false (chk t0 fun a0 => chk t20 fun a1 => Prim.run .load [a0, a1])) fun t21 =>
  Option.bind (grd t16 false (chk t21 fun a0 => Prim.run .len [a0])) fun t22 =>
  Option.bind (grd t16 false (chk t17 fun a0 => chk t22 fun a1 => Prim.run (.bin .gtr) [a0, a1])) fun t23 =>
  Option.bind (chk t16 fun a0 => isB a0 (some (.bool true)) (chk t23 fun a1 => some a1)) fun t24 =>
  chk t24 fun c0 => isB c0
 (Option.bind (Prim.run .mov [(.ptr [])]) fun t25 =>
  Option.bind (chk t25 fun a0 => Prim.run .mov [a0]) fun t26 =>
  Option.bind (chk t26 fun a0 => Prim.run (.fptr 1) [a0]) fun t27 =>
  asPath t27 fun q0 => chk t0 fun y0 => Option.bind (setP q0 y0 (.bool false)) fun t0 =>
  Option.bind (Prim.run .mov [(.str [])]) fun t2 =>
  allDef [t2, t0])
 (Option.bind (Prim.run .mov [(.ptr [])]) fun t28 =>
  Option.bind (chk t28 fun a0 => Prim.run .mov [a0]) fun t29 =>
  Option.bind (chk t29 fun a0 => Prim.run (.fptr 0) [a0]) fun t30 =>
  Option.bind (chk t0 fun a0 => chk t30 fun a1 => Prim.run .load [a0, a1]) fun t31 =>
  Option.bind (chk t3 fun a0 => Prim.run .mov [a0]) fun t32 =>
  Option.bind (chk t31 fun a0 => chk t32 fun a1 => Prim.run (.sl false true) [a0, a1]) fun t33 =>
  Option.bind (chk t33 fun a0 => Prim.run .mov [a0]) fun t4 =>
  Option.bind (Prim.run .mov [(.ptr [])]) fun t34 =>
  Option.bind (Prim.run .mov [(.ptr [])]) fun t35 =>
  Option.bind (chk t35 fun a0 => Prim.run .mov [a0]) fun t36 =>
  Option.bind (chk t36 fun a0 => Prim.run (.fptr 0) [a0]) fun t37 =>
  Option.bind (chk t0 fun a0 => chk t37 fun a1 => Prim.run .load [a0, a1]) fun t38 =>
  Option.bind (chk t3 fun a0 => Prim.run .mov [a0]) fun t39 =>
  Option.bind (chk t38 fun a0 => chk t39 fun a1 => Prim.run (.sl true false) [a0, a1]) fun t40 =>
  Option.bind (chk t34 fun a0 => Prim.run .mov [a0]) fun t41 =>
  Option.bind (chk t41 fun a0 => Prim.run (.fptr 0) [a0]) fun t42 =>
  chk t40 fun a0 => asPath t42 fun q0 => chk t0 fun y0 => Option.bind (setP q0 y0 a0) fun t0 =>
  Option.bind (chk t4 fun a0 => Prim.run .mov [a0]) fun t43 =>
  Option.bind (chk t43 fun a0 => Prim.run .mov [a0]) fun t2 =>
  allDef [t2, t0]))) = some rs) : Ans T 82 [t0] = some rs := call_of (T := T) c82 (Eq.trans (by kernel_rfl) h)
end Go.Proofs.Ytaldhebldjphbaa

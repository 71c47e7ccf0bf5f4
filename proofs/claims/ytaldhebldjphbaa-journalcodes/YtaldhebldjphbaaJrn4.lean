/-
  The law JournalCodes: what its functions compute, and that it answers true.
  Conditions: none.
-/
import Derived.Test.YtaldhebldjphbaaJrn1
namespace Go.Proofs.Ytaldhebldjphbaa
open Go.Vm
set_option maxRecDepth 100000
set_option linter.unusedVariables false
/-! vmfleet/journal.Encode$1 -/
theorem f83 (t0 t1 : PV) {rs : List PV} (h : (Option.bind (chk t1 fun a0 => Prim.run .load [a0, (.ptr [])]) fun t3 =>
  Option.bind (chk t0 fun a0 => Prim.run .mov [a0]) fun t4 =>
  Option.bind (chk t4 fun a0 => Prim.run (.toInt .u64) [a0]) fun t5 =>
  Option.bind (chk t5 fun a0 => Option.bind (Ans T 66 [a0]) fun rs => retV 1 rs) fun t6 =>
  Option.bind (chk t3 fun a0 => chk t6 fun a1 => Prim.run (.app 1) [a0, a1]) fun t7 =>
  chk t7 fun a0 => chk t1 fun y0 => Option.bind (setP [] y0 a0) fun t1 =>
  allDef [t1]) = some rs) : Ans T 83 [t0, t1] = some rs := call_of (T := T) c83 (Eq.trans (by kernel_rfl) h)
/-! vmfleet/journal.copied -/
theorem f84 (t0 : PV) {rs : List PV} (h : (Option.bind (chk t0 fun a0 => Prim.run .mov [a0]) fun t1 =>
  Option.bind (Prim.run .mov [(.agg [(.slice true []), (.slice true [])])]) fun t2 =>
  Option.bind (Prim.run (.fptr 0) [(.ptr [])]) fun t3 =>
  Option.bind (chk t1 fun a0 => chk t3 fun a1 => Prim.run .load [a0, a1]) fun t4 =>
  Option.bind (chk t4 fun a0 => Option.bind (Ans T 101 [a0]) fun rs => retV 1 rs) fun t5 =>
  Option.bind (Prim.run (.fptr 0) [(.ptr [])]) fun t6 =>
  chk t5 fun a0 => asPath t6 fun q0 => chk t1 fun y0 => Option.bind (setP q0 y0 a0) fun t1 =>
  Option.bind (Prim.run (.fptr 1) [(.ptr [])]) fun t7 =>
  Option.bind (chk t1 fun a0 => chk t7 fun a1 => Prim.run .load [a0, a1]) fun t8 =>
  Option.bind (chk t8 fun a0 => Option.bind (Ans T 102 [a0]) fun rs => retV 1 rs) fun t9 =>
  Option.bind (Prim.run (.fptr 1) [(.ptr [])]) fun t10 =>
  chk t9 fun a0 => asPath t10 fun q0 => chk t1 fun y0 => Option.bind (setP q0 y0 a0) fun t1 =>
  Option.bind (chk t1 fun a0 => Prim.run .load [a0, (.ptr [])]) fun t11 =>
  chk t11 fun a0 => chk t2 fun y0 => Option.bind (setP [] y0 a0) fun t2 =>
  allDef [t2]) = some rs) : Ans T 84 [t0] = some rs := call_of (T := T) c84 (Eq.trans (by kernel_rfl) h)
/-! vmfleet/journal.setHost -/
@[simp] theorem lA85x1 (t0 t3 t26 : PV) (K : RK) : denK T A85x1 [t0, .undef, .undef, t3, .undef, .undef, .undef, .undef, .undef, .undef, .undef, .undef, .undef, .undef, .undef, .undef, .undef, .undef, .undef, .undef, .undef, .undef, .undef, .undef, .undef, .undef, t26, .undef, .undef, .undef, .undef, .undef, .undef, .undef, .undef, .undef, .undef, .undef, .undef, .undef, .undef, .undef, .undef, .undef, .undef, .undef, .undef, .undef, .undef, .undef, .undef, .undef, .undef, .undef, .undef, .undef, .undef, .undef, .undef, .undef] K =
  Option.bind (Prim.run (.fptr 2) [(.ptr [])]) fun t27 =>
  Option.bind (chk t3 fun a0 => chk t27 fun a1 => Prim.run .load [a0, a1]) fun t28 =>
  Option.bind (Prim.run .mov [(.ptr [])]) fun t29 =>
  Option.bind (chk t29 fun a0 => Prim.run .mov [a0]) fun t30 =>
  Option.bind (chk t30 fun a0 => Prim.run (.fptr 0) [a0]) fun t31 =>
  Option.bind (chk t0 fun a0 => chk t31 fun a1 => Prim.run .load [a0, a1]) fun t32 =>
  Option.bind (chk t32 fun a0 => Prim.run .len [a0]) fun t33 =>
  Option.bind (chk t28 fun a0 => chk t33 fun a1 => Prim.run (.bin .eql) [a0, a1]) fun t34 =>
  chk t34 fun c0 => isB c0
 (Option.bind (Prim.run .mov [(.ptr [])]) fun t35 =>
  Option.bind (Prim.run .mov [(.ptr [])]) fun t36 =>
  Option.bind (chk t36 fun a0 => Prim.run .mov [a0]) fun t37 =>
  Option.bind (chk t37 fun a0 => Prim.run (.fptr 0) [a0]) fun t38 =>
  Option.bind (chk t0 fun a0 => chk t38 fun a1 => Prim.run .load [a0, a1]) fun t39 =>
  Option.bind (Prim.run (.fptr 5) [(.ptr [])]) fun t40 =>
  Option.bind (chk t3 fun a0 => chk t40 fun a1 => Prim.run .load [a0, a1]) fun t41 =>
  Option.bind (chk t41 fun a0 => Prim.run (.buildSl (.agg [(.int .i64 0), (.int .i64 0), (.bool false)]) 1 [0]) [a0]) fun t42 =>
  Option.bind (chk t39 fun a0 => chk t42 fun a1 => Prim.run (.app 24) [a0, a1]) fun t43 =>
  Option.bind (chk t35 fun a0 => Prim.run .mov [a0]) fun t44 =>
  Option.bind (chk t44 fun a0 => Prim.run (.fptr 0) [a0]) fun t45 =>
  chk t43 fun a0 => asPath t45 fun q0 => chk t0 fun y0 => Option.bind (setP q0 y0 a0) fun t0 =>
  K (.normal, [t0, .undef, .undef, .undef, .undef, .undef, .undef, .undef, .undef, .undef, .undef, .undef, .undef, .undef, .undef, .undef, .undef, .undef, .undef, .undef, .undef, .undef, .undef, .undef, .undef, .undef, .undef, .undef, .undef, .undef, .undef, .undef, .undef, .undef, .undef, .undef, .undef, .undef, .undef, t39, .undef, .undef, .undef, .undef, .undef, .undef, .undef, .undef, .undef, .undef, .undef, .undef, .undef, .undef, .undef, .undef, .undef, .undef, .undef, .undef]))
 (Option.bind (Prim.run .mov [(.ptr [])]) fun t46 =>
  Option.bind (chk t46 fun a0 => Prim.run .mov [a0]) fun t47 =>
  Option.bind (chk t47 fun a0 => Prim.run (.fptr 0) [a0]) fun t48 =>
  Option.bind (chk t0 fun a0 => chk t48 fun a1 => Prim.run .load [a0, a1]) fun t49 =>
  Option.bind (Prim.run (.fptr 2) [(.ptr [])]) fun t50 =>
  Option.bind (chk t3 fun a0 => chk t50 fun a1 => Prim.run .load [a0, a1]) fun t51 =>
  Option.bind (Prim.run (.fptr 5) [(.ptr [])]) fun t52 =>
  Option.bind (chk t3 fun a0 => chk t52 fun a1 => Prim.run .load [a0, a1]) fun t53 =>
  Option.bind (chk t49 fun a0 => chk t51 fun a1 => Prim.run (.iptr [0]) [a0, a1]) fun t54 =>
  chk t53 fun a0 => asPath t54 fun q0 => chk t0 fun y0 => Option.bind (setP q0 y0 a0) fun t0 =>
  K (.normal, [t0, .undef, .undef, .undef, .undef, .undef, .undef, .undef, .undef, .undef, .undef, .undef, .undef, .undef, .undef, .undef, .undef, .undef, .undef, .undef, .undef, .undef, .undef, .undef, .undef, .undef, .undef, .undef, .undef, .undef, .undef, .undef, .undef, .undef, .undef, .undef, .undef, .undef, .undef, .undef, .undef, .undef, .undef, .undef, .undef, .undef, .undef, .undef, .undef, t49, .undef, .undef, .undef, .undef, .undef, .undef, .undef, .undef, .undef, .undef])) := by kernel_rfl
@[simp] theorem lB85x1 (t0 t39 t49 : PV) (K : RK) : denK T B85x1 [t0, .undef, .undef, .undef, .undef, .undef, .undef, .undef, .undef, .undef, .undef, .undef, .undef, .undef, .undef, .undef, .undef, .undef, .undef, .undef, .undef, .undef, .undef, .undef, .undef, .undef, .undef, .undef, .undef, .undef, .undef, .undef, .undef, .undef, .undef, .undef, .undef, .undef, .undef, t39, .undef, .undef, .undef, .undef, .undef, .undef, .undef, .undef, .undef, t49, .undef, .undef, .undef, .undef, .undef, .undef, .undef, .undef, .undef, .undef] K =
  Option.bind (Prim.run .mov [(.ptr [])]) fun t55 =>
  Option.bind (chk t55 fun a0 => Prim.run .mov [a0]) fun t56 =>
  Option.bind (chk t0 fun a0 => chk t56 fun a1 => Prim.run .load [a0, a1]) fun t57 =>
  Option.bind (chk t57 fun a0 => Option.bind (Ans T 80 [a0]) fun rs => retV 1 rs) fun t58 =>
  Option.bind (chk t58 fun a0 => Prim.run (.un .not) [a0]) fun t59 =>
  chk t59 fun c0 => isB c0
 (Option.bind (Prim.run .mov [(.int .i64 4200)]) fun t4 =>
  K (.ret, [t0, .undef, .undef, .undef, t4, .undef, .undef, .undef, .undef, .undef, .undef, .undef, .undef, .undef, .undef, .undef, .undef, .undef, .undef, .undef, .undef, .undef, .undef, .undef, .undef, .undef, .undef, .undef, .undef, .undef, .undef, .undef, .undef, .undef, .undef, .undef, .undef, .undef, .undef, t39, .undef, .undef, .undef, .undef, .undef, .undef, .undef, .undef, .undef, t49, .undef, .undef, .undef, .undef, .undef, .undef, .undef, .undef, .undef, .undef]))
 (Option.bind (Prim.run .mov [(.int .i64 0)]) fun t4 =>
  K (.ret, [t0, .undef, .undef, .undef, t4, .undef, .undef, .undef, .undef, .undef, .undef, .undef, .undef, .undef, .undef, .undef, .undef, .undef, .undef, .undef, .undef, .undef, .undef, .undef, .undef, .undef, .undef, .undef, .undef, .undef, .undef, .undef, .undef, .undef, .undef, .undef, .undef, .undef, .undef, t39, .undef, .undef, .undef, .undef, .undef, .undef, .undef, .undef, .undef, t49, .undef, .undef, .undef, .undef, .undef, .undef, .undef, .undef, .undef, .undef])) := by kernel_rfl
theorem f85 (t0 t1 : PV) {rs : List PV} (h : (Option.bind (chk t1 fun a0 => Prim.run .mov [a0]) fun t3 =>
  Option.bind (Prim.run .mov [(.int .i64 0)]) fun t4 =>
  Option.bind (Prim.run (.fptr 2) [(.ptr [])]) fun t5 =>
  Option.bind (chk t3 fun a0 => chk t5 fun a1 => Prim.run .load [a0, a1]) fun t6 =>
  Option.bind (chk t6 fun a0 => Prim.run (.bin .lss) [a0, (.int .i64 0)]) fun t7 =>
  Option.bind (chk t7 fun a0 => Prim.run .mov [a0]) fun t8 =>
  Option.bind (grd t8 false (Prim.run (.fptr 2) [(.ptr [])])) fun t9 =>
  Option.bind (grd t8 false (chk t3 fun a0 => chk t9 fun a1 => Prim.run .load [a0, a1])) fun t10 =>
  Option.bind (grd t8 false (Prim.run .mov [(.ptr [])])) fun t11 =>
  Option.bind (grd t8 false (chk t11 fun a0 => Prim.run .mov [a0])) fun t12 =>
  Option.bind (grd t8 false (chk t12 fun a0 => Prim.run (.fptr 0) [a0])) fun t13 =>
  Option.bind (grd t8 false (chk t0 fun a0 => chk t13 fun a1 => Prim.run .load [a0, a1])) fun t14 =>
  Option.bind (grd t8 false (chk t14 fun a0 => Prim.run .len [a0])) fun t15 =>
  Option.bind (grd t8 false (chk t10 fun a0 => chk t15 fun a1 => Prim.run (.bin .gtr) [a0, a1])) fun t16 =>
  Option.bind (chk t8 fun a0 => isB a0 (some (.bool true)) (chk t16 fun a1 => some a1)) fun t17 =>
  Option.bind (chk t17 fun a0 => Prim.run .mov [a0]) fun t18 =>
  Option.bind (grd t18 false (Prim.run (.fptr 5) [(.ptr [])])) fun t19 =>
  Option.bind (grd t18 false (chk t3 fun a0 => chk t19 fun a1 => Prim.run .load [a0, a1])) fun t20 =>
  Option.bind (grd t18 false (chk t20 fun a0 => Option.bind (Ans T 98 [a0]) fun rs => retV 1 rs)) fun t21 =>
  Option.bind (grd t18 false (chk t21 fun a0 => Prim.run (.un .not) [a0])) fun t22 =>
  Option.bind (chk t18 fun a0 => isB a0 (some (.bool true)) (chk t22 fun a1 => some a1)) fun t23 =>
  chk t23 fun c0 => isB c0
 (Option.bind (Prim.run .mov [(.int .i64 4200)]) fun t4 =>
  allDef [t4, t0])
 (Option.bind (Prim.run (.fptr 2) [(.ptr [])]) fun t24 =>
  Option.bind (chk t3 fun a0 => chk t24 fun a1 => Prim.run .load [a0, a1]) fun t25 =>
  Option.bind (chk t25 fun a0 => Prim.run (.bin .eql) [a0, (.int .i64 6)]) fun t26 =>
  chk t26 fun c0 => isB c0
 (Option.bind (Prim.run .mov [(.int .i64 4203)]) fun t4 =>
  allDef [t4, t0])
 (denK T A85x1 [t0, .undef, .undef, t3, .undef, .undef, .undef, .undef, .undef, .undef, .undef, .undef, .undef, .undef, .undef, .undef, .undef, .undef, .undef, .undef, .undef, .undef, .undef, .undef, .undef, .undef, t26, .undef, .undef, .undef, .undef, .undef, .undef, .undef, .undef, .undef, .undef, .undef, .undef, .undef, .undef, .undef, .undef, .undef, .undef, .undef, .undef, .undef, .undef, .undef, .undef, .undef, .undef, .undef, .undef, .undef, .undef, .undef, .undef, .undef] (seqK T B85x1 (endK [4, 0]))))) = some rs) : Ans T 85 [t0, t1] = some rs := call_of (T := T) c85 (Eq.trans (by kernel_rfl) h)
/-! vmfleet/journal.add -/
noncomputable def WL86x2 (t0 t3 t5 t65 t66 t67 : PV) (K : RK) : Option (List PV) := loopK T kL86x2 L86x2 [t0, .undef, .undef, t3, .undef, t5, .undef, .undef, .undef, .undef, .undef, .undef, .undef, .undef, .undef, .undef, .undef, .undef, .undef, .undef, .undef, .undef, .undef, .undef, .undef, .undef, .undef, .undef, .undef, .undef, .undef, .undef, .undef, .undef, .undef, .undef, .undef, .undef, .undef, .undef, .undef, .undef, .undef, .undef, .undef, .undef, .undef, .undef, .undef, .undef, .undef, .undef, .undef, .undef, .undef, .undef, .undef, .undef, .undef, .undef, .undef, .undef, .undef, .undef, .undef, t65, t66, t67, .undef, .undef, .undef, .undef, .undef, .undef, .undef, .undef, .undef, .undef, .undef, .undef, .undef, .undef, .undef, .undef, .undef, .undef, .undef, .undef, .undef, .undef, .undef, .undef, .undef, .undef, .undef, .undef, .undef, .undef, .undef, .undef, .undef, .undef, .undef, .undef, .undef, .undef, .undef, .undef, .undef, .undef, .undef] K
theorem oL86x2 (t0 t3 t5 t65 t66 t67 : PV) (K : RK) {a : List PV} (h : (Option.bind (chk t67 fun a0 => chk t66 fun a1 => Prim.run (.bin .lss) [a0, a1]) fun t68 =>
  chk t68 fun c0 => isB c0
 (Option.bind (chk t65 fun a0 => chk t67 fun a1 => Prim.run (.iptr []) [a0, a1]) fun t69 =>
  Option.bind (chk t65 fun a0 => chk t69 fun a1 => Prim.run .load [a0, a1]) fun t70 =>
  Option.bind (chk t70 fun a0 => Prim.run .mov [a0]) fun t8 =>
  Option.bind (Prim.run .mov [(.ptr [])]) fun t71 =>
  Option.bind (chk t71 fun a0 => Prim.run .mov [a0]) fun t72 =>
  Option.bind (chk t72 fun a0 => Prim.run (.fptr 0) [a0]) fun t73 =>
  Option.bind (chk t0 fun a0 => chk t73 fun a1 => Prim.run .load [a0, a1]) fun t74 =>
  Option.bind (chk t8 fun a0 => Prim.run .mov [a0]) fun t75 =>
  Option.bind (chk t74 fun a0 => chk t75 fun a1 => Prim.run (.iptr [0]) [a0, a1]) fun t76 =>
  Option.bind (chk t0 fun a0 => chk t76 fun a1 => Prim.run .load [a0, a1]) fun t77 =>
  Option.bind (Prim.run .mov [(.ptr [])]) fun t78 =>
  Option.bind (chk t78 fun a0 => Prim.run .mov [a0]) fun t79 =>
  Option.bind (chk t79 fun a0 => Prim.run (.fptr 1) [a0]) fun t80 =>
  Option.bind (chk t0 fun a0 => chk t80 fun a1 => Prim.run .load [a0, a1]) fun t81 =>
  Option.bind (chk t8 fun a0 => Prim.run .mov [a0]) fun t82 =>
  Option.bind (chk t81 fun a0 => chk t82 fun a1 => Option.bind (Ans T 100 [a0, a1]) fun rs => retV 1 rs) fun t83 =>
  Option.bind (Prim.run (.fptr 4) [(.ptr [])]) fun t84 =>
  Option.bind (chk t3 fun a0 => chk t84 fun a1 => Prim.run .load [a0, a1]) fun t85 =>
  Option.bind (chk t77 fun a0 => chk t83 fun a1 => chk t85 fun a2 => Option.bind (Ans T 103 [a0, a1, a2]) fun rs => retV 1 rs) fun t86 =>
  Option.bind (chk t86 fun a0 => Prim.run .mov [a0]) fun t9 =>
  Option.bind (chk t9 fun a0 => Prim.run .mov [a0]) fun t87 =>
  Option.bind (chk t87 fun a0 => Prim.run (.bin .neq) [a0, (.int .i64 0)]) fun t88 =>
  chk t88 fun c0 => isB c0
 (Option.bind (chk t9 fun a0 => Prim.run .mov [a0]) fun t89 =>
  Option.bind (chk t89 fun a0 => Prim.run .mov [a0]) fun t4 =>
  K (.ret, [t0, .undef, .undef, .undef, t4, .undef, .undef, .undef, .undef, .undef, .undef, .undef, .undef, .undef, .undef, .undef, .undef, .undef, .undef, .undef, .undef, .undef, .undef, .undef, .undef, .undef, .undef, .undef, .undef, .undef, .undef, .undef, .undef, .undef, .undef, .undef, .undef, .undef, .undef, .undef, .undef, .undef, .undef, .undef, .undef, .undef, .undef, .undef, .undef, .undef, .undef, .undef, .undef, .undef, .undef, .undef, .undef, .undef, .undef, .undef, .undef, .undef, .undef, .undef, .undef, .undef, .undef, .undef, .undef, .undef, .undef, .undef, .undef, .undef, .undef, .undef, .undef, .undef, .undef, .undef, .undef, .undef, .undef, .undef, .undef, .undef, .undef, .undef, .undef, .undef, .undef, .undef, .undef, .undef, .undef, .undef, .undef, .undef, .undef, .undef, .undef, .undef, .undef, .undef, .undef, .undef, .undef, .undef, .undef, .undef, .undef]))
 (Option.bind (chk t67 fun a0 => Prim.run (.bin .add) [a0, (.int .i64 1)]) fun t90 =>
  Option.bind (chk t90 fun a0 => Prim.run .mov [a0]) fun t67 =>
  WL86x2 t0 t3 t5 t65 t66 t67 K))
 (K (.exit 0, [t0, .undef, .undef, t3, .undef, t5, .undef, .undef, .undef, .undef, .undef, .undef, .undef, .undef, .undef, .undef, .undef, .undef, .undef, .undef, .undef, .undef, .undef, .undef, .undef, .undef, .undef, .undef, .undef, .undef, .undef, .undef, .undef, .undef, .undef, .undef, .undef, .undef, .undef, .undef, .undef, .undef, .undef, .undef, .undef, .undef, .undef, .undef, .undef, .undef, .undef, .undef, .undef, .undef, .undef, .undef, .undef, .undef, .undef, .undef, .undef, .undef, .undef, .undef, .undef, .undef, .undef, .undef, .undef, .undef, .undef, .undef, .undef, .undef, .undef, .undef, .undef, .undef, .undef, .undef, .undef, .undef, .undef, .undef, .undef, .undef, .undef, .undef, .undef, .undef, .undef, .undef, .undef, .undef, .undef, .undef, .undef, .undef, .undef, .undef, .undef, .undef, .undef, .undef, .undef, .undef, .undef, .undef, .undef, .undef, .undef]))) = some a) : WL86x2 t0 t3 t5 t65 t66 t67 K = some a := loopK_of (Eq.trans (by kernel_rfl) h)
@[simp] theorem aL86x2 (t0 t1 t2 t3 t4 t5 t6 t7 t8 t9 t10 t11 t12 t13 t14 t15 t16 t17 t18 t19 t20 t21 t22 t23 t24 t25 t26 t27 t28 t29 t30 t31 t32 t33 t34 t35 t36 t37 t38 t39 t40 t41 t42 t43 t44 t45 t46 t47 t48 t49 t50 t51 t52 t53 t54 t55 t56 t57 t58 t59 t60 t61 t62 t63 t64 t65 t66 t67 t68 t69 t70 t71 t72 t73 t74 t75 t76 t77 t78 t79 t80 t81 t82 t83 t84 t85 t86 t87 t88 t89 t90 t91 t92 t93 t94 t95 t96 t97 t98 t99 t100 t101 t102 t103 t104 t105 t106 t107 t108 t109 t110 : PV) (K : RK) : againK T kL86x2 L86x2 K (.normal, [t0, t1, t2, t3, t4, t5, t6, t7, t8, t9, t10, t11, t12, t13, t14, t15, t16, t17, t18, t19, t20, t21, t22, t23, t24, t25, t26, t27, t28, t29, t30, t31, t32, t33, t34, t35, t36, t37, t38, t39, t40, t41, t42, t43, t44, t45, t46, t47, t48, t49, t50, t51, t52, t53, t54, t55, t56, t57, t58, t59, t60, t61, t62, t63, t64, t65, t66, t67, t68, t69, t70, t71, t72, t73, t74, t75, t76, t77, t78, t79, t80, t81, t82, t83, t84, t85, t86, t87, t88, t89, t90, t91, t92, t93, t94, t95, t96, t97, t98, t99, t100, t101, t102, t103, t104, t105, t106, t107, t108, t109, t110]) = WL86x2 t0 t3 t5 t65 t66 t67 K := by kernel_rfl
@[simp] theorem lA86x1 (t0 t3 t5 t60 : PV) (K : RK) : denK T A86x1 [t0, .undef, .undef, t3, .undef, t5, .undef, .undef, .undef, .undef, .undef, .undef, .undef, .undef, .undef, .undef, .undef, .undef, .undef, .undef, .undef, .undef, .undef, .undef, .undef, .undef, .undef, .undef, .undef, .undef, .undef, .undef, .undef, .undef, .undef, .undef, .undef, .undef, .undef, .undef, .undef, .undef, .undef, .undef, .undef, .undef, .undef, .undef, .undef, .undef, .undef, .undef, .undef, .undef, .undef, .undef, .undef, .undef, .undef, .undef, t60, .undef, .undef, .undef, .undef, .undef, .undef, .undef, .undef, .undef, .undef, .undef, .undef, .undef, .undef, .undef, .undef, .undef, .undef, .undef, .undef, .undef, .undef, .undef, .undef, .undef, .undef, .undef, .undef, .undef, .undef, .undef, .undef, .undef, .undef, .undef, .undef, .undef, .undef, .undef, .undef, .undef, .undef, .undef, .undef, .undef, .undef, .undef, .undef, .undef, .undef] K =
  Option.bind (Prim.run (.fptr 2) [(.ptr [])]) fun t61 =>
  Option.bind (chk t3 fun a0 => chk t61 fun a1 => Prim.run .load [a0, a1]) fun t62 =>
  Option.bind (Prim.run (.fptr 3) [(.ptr [])]) fun t63 =>
  Option.bind (chk t3 fun a0 => chk t63 fun a1 => Prim.run .load [a0, a1]) fun t64 =>
  Option.bind (chk t62 fun a0 => chk t64 fun a1 => Prim.run (.buildSl (.int .i64 0) 2 [0, 1]) [a0, a1]) fun t65 =>
  Option.bind (chk t65 fun a0 => Prim.run .len [a0]) fun t66 =>
  Option.bind (Prim.run .mov [(.int .i64 0)]) fun t67 =>
  WL86x2 t0 t3 t5 t65 t66 t67 (blockK 0 K) := by kernel_rfl
@[simp] theorem lB86x1 (t0 t3 t5 : PV) (K : RK) : denK T B86x1 [t0, .undef, .undef, t3, .undef, t5, .undef, .undef, .undef, .undef, .undef, .undef, .undef, .undef, .undef, .undef, .undef, .undef, .undef, .undef, .undef, .undef, .undef, .undef, .undef, .undef, .undef, .undef, .undef, .undef, .undef, .undef, .undef, .undef, .undef, .undef, .undef, .undef, .undef, .undef, .undef, .undef, .undef, .undef, .undef, .undef, .undef, .undef, .undef, .undef, .undef, .undef, .undef, .undef, .undef, .undef, .undef, .undef, .undef, .undef, .undef, .undef, .undef, .undef, .undef, .undef, .undef, .undef, .undef, .undef, .undef, .undef, .undef, .undef, .undef, .undef, .undef, .undef, .undef, .undef, .undef, .undef, .undef, .undef, .undef, .undef, .undef, .undef, .undef, .undef, .undef, .undef, .undef, .undef, .undef, .undef, .undef, .undef, .undef, .undef, .undef, .undef, .undef, .undef, .undef, .undef, .undef, .undef, .undef, .undef, .undef] K =
  Option.bind (Prim.run .mov [(.ptr [])]) fun t91 =>
  Option.bind (Prim.run .mov [(.ptr [])]) fun t92 =>
  Option.bind (chk t92 fun a0 => Prim.run .mov [a0]) fun t93 =>
  Option.bind (chk t93 fun a0 => Prim.run (.fptr 1) [a0]) fun t94 =>
  Option.bind (chk t0 fun a0 => chk t94 fun a1 => Prim.run .load [a0, a1]) fun t95 =>
  Option.bind (chk t5 fun a0 => Prim.run .mov [a0]) fun t96 =>
  Option.bind (Prim.run (.fptr 1) [(.ptr [])]) fun t97 =>
  Option.bind (chk t3 fun a0 => chk t97 fun a1 => Prim.run .load [a0, a1]) fun t98 =>
  Option.bind (Prim.run (.fptr 4) [(.ptr [])]) fun t99 =>
  Option.bind (chk t3 fun a0 => chk t99 fun a1 => Prim.run .load [a0, a1]) fun t100 =>
  Option.bind (Prim.run (.fptr 2) [(.ptr [])]) fun t101 =>
  Option.bind (chk t3 fun a0 => chk t101 fun a1 => Prim.run .load [a0, a1]) fun t102 =>
  Option.bind (Prim.run (.fptr 3) [(.ptr [])]) fun t103 =>
  Option.bind (chk t3 fun a0 => chk t103 fun a1 => Prim.run .load [a0, a1]) fun t104 =>
  Option.bind (chk t102 fun a0 => chk t104 fun a1 => Prim.run (.build [(.int .i64 0), (.int .i64 0)] [0, 1]) [a0, a1]) fun t105 =>
  Option.bind (chk t98 fun a0 => chk t100 fun a1 => chk t105 fun a2 => Prim.run (.build [(.str []), (.agg [(.int .i64 0), (.int .i64 0), (.int .i64 0), (.int .i64 0)]), (.agg [(.int .i64 0), (.int .i64 0)])] [0, 1, 2]) [a0, a1, a2]) fun t106 =>
  Option.bind (chk t106 fun a0 => Prim.run (.buildSl (.agg [(.str []), (.agg [(.int .i64 0), (.int .i64 0), (.int .i64 0), (.int .i64 0)]), (.agg [(.int .i64 0), (.int .i64 0)])]) 1 [0]) [a0]) fun t107 =>
  Option.bind (chk t95 fun a0 => chk t96 fun a1 => chk t107 fun a2 => Option.bind (Ans T 104 [a0, a1, a2]) fun rs => retV 1 rs) fun t108 =>
  Option.bind (chk t91 fun a0 => Prim.run .mov [a0]) fun t109 =>
  Option.bind (chk t109 fun a0 => Prim.run (.fptr 1) [a0]) fun t110 =>
  chk t108 fun a0 => asPath t110 fun q0 => chk t0 fun y0 => Option.bind (setP q0 y0 a0) fun t0 =>
  Option.bind (Prim.run .mov [(.int .i64 0)]) fun t4 =>
  K (.ret, [t0, .undef, .undef, .undef, t4, .undef, .undef, .undef, .undef, .undef, .undef, .undef, .undef, .undef, .undef, .undef, .undef, .undef, .undef, .undef, .undef, .undef, .undef, .undef, .undef, .undef, .undef, .undef, .undef, .undef, .undef, .undef, .undef, .undef, .undef, .undef, .undef, .undef, .undef, .undef, .undef, .undef, .undef, .undef, .undef, .undef, .undef, .undef, .undef, .undef, .undef, .undef, .undef, .undef, .undef, .undef, .undef, .undef, .undef, .undef, .undef, .undef, .undef, .undef, .undef, .undef, .undef, .undef, .undef, .undef, .undef, .undef, .undef, .undef, .undef, .undef, .undef, .undef, .undef, .undef, .undef, .undef, .undef, .undef, .undef, .undef, .undef, .undef, .undef, .undef, .undef, .undef, .undef, .undef, .undef, t95, .undef, .undef, .undef, .undef, .undef, .undef, .undef, .undef, .undef, .undef, .undef, .undef, .undef, .undef, .undef]) := by kernel_rfl
theorem f86 (t0 t1 : PV) {rs : List PV} (h : (Option.bind (chk t1 fun a0 => Prim.run .mov [a0]) fun t3 =>
  Option.bind (Prim.run .mov [(.int .i64 0)]) fun t4 =>
  Option.bind (Prim.run (.fptr 1) [(.ptr [])]) fun t10 =>
  Option.bind (chk t3 fun a0 => chk t10 fun a1 => Prim.run .load [a0, a1]) fun t11 =>
  Option.bind (chk t11 fun a0 => Option.bind (Ans T 95 [a0]) fun rs => retV 1 rs) fun t12 =>
  Option.bind (chk t12 fun a0 => Prim.run (.un .not) [a0]) fun t13 =>
  Option.bind (chk t13 fun a0 => Prim.run .mov [a0]) fun t14 =>
  Option.bind (grd t14 false (Prim.run (.fptr 4) [(.ptr [])])) fun t15 =>
  Option.bind (grd t14 false (chk t3 fun a0 => chk t15 fun a1 => Prim.run .load [a0, a1])) fun t16 =>
  Option.bind (grd t14 false (chk t16 fun a0 => Option.bind (Ans T 96 [a0]) fun rs => retV 1 rs)) fun t17 =>
  Option.bind (grd t14 false (chk t17 fun a0 => Prim.run (.un .not) [a0])) fun t18 =>
  Option.bind (chk t14 fun a0 => isB a0 (some (.bool true)) (chk t18 fun a1 => some a1)) fun t19 =>
  Option.bind (chk t19 fun a0 => Prim.run .mov [a0]) fun t20 =>
  Option.bind (grd t20 false (Prim.run .mov [(.ptr [])])) fun t21 =>
  Option.bind (grd t20 false (chk t21 fun a0 => Prim.run .mov [a0])) fun t22 =>
  Option.bind (grd t20 false (chk t0 fun a0 => chk t22 fun a1 => Prim.run .load [a0, a1])) fun t23 =>
  Option.bind (grd t20 false (Prim.run (.fptr 2) [(.ptr [])])) fun t24 =>
  Option.bind (grd t20 false (chk t3 fun a0 => chk t24 fun a1 => Prim.run .load [a0, a1])) fun t25 =>
  Option.bind (grd t20 false (chk t23 fun a0 => chk t25 fun a1 => Option.bind (Ans T 97 [a0, a1]) fun rs => retV 1 rs)) fun t26 =>
  Option.bind (grd t20 false (chk t26 fun a0 => Prim.run (.un .not) [a0])) fun t27 =>
  Option.bind (chk t20 fun a0 => isB a0 (some (.bool true)) (chk t27 fun a1 => some a1)) fun t28 =>
  Option.bind (chk t28 fun a0 => Prim.run .mov [a0]) fun t29 =>
  Option.bind (grd t29 false (Prim.run .mov [(.ptr [])])) fun t30 =>
  Option.bind (grd t29 false (chk t30 fun a0 => Prim.run .mov [a0])) fun t31 =>
  Option.bind (grd t29 false (chk t0 fun a0 => chk t31 fun a1 => Prim.run .load [a0, a1])) fun t32 =>
  Option.bind (grd t29 false (Prim.run (.fptr 3) [(.ptr [])])) fun t33 =>
  Option.bind (grd t29 false (chk t3 fun a0 => chk t33 fun a1 => Prim.run .load [a0, a1])) fun t34 =>
  Option.bind (grd t29 false (chk t32 fun a0 => chk t34 fun a1 => Option.bind (Ans T 97 [a0, a1]) fun rs => retV 1 rs)) fun t35 =>
  Option.bind (grd t29 false (chk t35 fun a0 => Prim.run (.un .not) [a0])) fun t36 =>
  Option.bind (chk t29 fun a0 => isB a0 (some (.bool true)) (chk t36 fun a1 => some a1)) fun t37 =>
  Option.bind (chk t37 fun a0 => Prim.run .mov [a0]) fun t38 =>
  Option.bind (grd t38 false (Prim.run (.fptr 2) [(.ptr [])])) fun t39 =>
  Option.bind (grd t38 false (chk t3 fun a0 => chk t39 fun a1 => Prim.run .load [a0, a1])) fun t40 =>
  Option.bind (grd t38 false (Prim.run (.fptr 3) [(.ptr [])])) fun t41 =>
  Option.bind (grd t38 false (chk t3 fun a0 => chk t41 fun a1 => Prim.run .load [a0, a1])) fun t42 =>
  Option.bind (grd t38 false (chk t40 fun a0 => chk t42 fun a1 => Prim.run (.bin .eql) [a0, a1])) fun t43 =>
  Option.bind (chk t38 fun a0 => isB a0 (some (.bool true)) (chk t43 fun a1 => some a1)) fun t44 =>
  chk t44 fun c0 => isB c0
 (Option.bind (Prim.run .mov [(.int .i64 4200)]) fun t4 =>
  allDef [t4, t0])
 (Option.bind (Prim.run .mov [(.ptr [])]) fun t46 =>
  Option.bind (chk t46 fun a0 => Prim.run .mov [a0]) fun t47 =>
  Option.bind (chk t0 fun a0 => chk t47 fun a1 => Prim.run .load [a0, a1]) fun t48 =>
  Option.bind (Prim.run (.fptr 1) [(.ptr [])]) fun t49 =>
  Option.bind (chk t3 fun a0 => chk t49 fun a1 => Prim.run .load [a0, a1]) fun t50 =>
  Option.bind (chk t48 fun a0 => chk t50 fun a1 => Option.bind (Ans T 87 [a0, a1]) fun rs => retV 2 rs) fun t51 =>
  Option.bind (chk t51 fun a0 => Prim.run .mov [a0]) fun t45 =>
  Option.bind (chk t45 fun a0 => Prim.run (.ext 0) [a0]) fun t52 =>
  Option.bind (chk t45 fun a0 => Prim.run (.ext 1) [a0]) fun t53 =>
  Option.bind (chk t52 fun a0 => Prim.run .mov [a0]) fun t5 =>
  Option.bind (chk t53 fun a0 => Prim.run .mov [a0]) fun t6 =>
  Option.bind (chk t6 fun a0 => Prim.run .mov [a0]) fun t54 =>
  chk t54 fun c0 => isB c0
 (Option.bind (Prim.run .mov [(.int .i64 4201)]) fun t4 =>
  allDef [t4, t0])
 (Option.bind (Prim.run .mov [(.ptr [])]) fun t55 =>
  Option.bind (chk t55 fun a0 => Prim.run .mov [a0]) fun t56 =>
  Option.bind (chk t56 fun a0 => Prim.run (.fptr 1) [a0]) fun t57 =>
  Option.bind (chk t0 fun a0 => chk t57 fun a1 => Prim.run .load [a0, a1]) fun t58 =>
  Option.bind (chk t58 fun a0 => Prim.run .len [a0]) fun t59 =>
  Option.bind (chk t59 fun a0 => Prim.run (.bin .eql) [a0, (.int .i64 8)]) fun t60 =>
  chk t60 fun c0 => isB c0
 (Option.bind (Prim.run .mov [(.int .i64 4203)]) fun t4 =>
  allDef [t4, t0])
 (denK T A86x1 [t0, .undef, .undef, t3, .undef, t5, .undef, .undef, .undef, .undef, .undef, .undef, .undef, .undef, .undef, .undef, .undef, .undef, .undef, .undef, .undef, .undef, .undef, .undef, .undef, .undef, .undef, .undef, .undef, .undef, .undef, .undef, .undef, .undef, .undef, .undef, .undef, .undef, .undef, .undef, .undef, .undef, .undef, .undef, .undef, .undef, .undef, .undef, .undef, .undef, .undef, .undef, .undef, .undef, .undef, .undef, .undef, .undef, .undef, .undef, t60, .undef, .undef, .undef, .undef, .undef, .undef, .undef, .undef, .undef, .undef, .undef, .undef, .undef, .undef, .undef, .undef, .undef, .undef, .undef, .undef, .undef, .undef, .undef, .undef, .undef, .undef, .undef, .undef, .undef, .undef, .undef, .undef, .undef, .undef, .undef, .undef, .undef, .undef, .undef, .undef, .undef, .undef, .undef, .undef, .undef, .undef, .undef, .undef, .undef, .undef] (seqK T B86x1 (endK [4, 0])))))) = some rs) : Ans T 86 [t0, t1] = some rs := call_of (T := T) c86 (Eq.trans (by kernel_rfl) h)
/-! vmfleet/journal.find -/
theorem f87 (t0 t1 : PV) {rs : List PV} (h : (Option.bind (chk t0 fun a0 => Prim.run .mov [a0]) fun t2 =>
  Option.bind (Prim.run .mov [(.int .i64 0)]) fun t4 =>
  Option.bind (Prim.run .mov [(.bool false)]) fun t5 =>
  Option.bind (Prim.run .mov []) fun _ =>
  allDef [.undef, .undef]) = some rs) : Ans T 87 [t0, t1] = some rs := call_of (T := T) c87 (Eq.trans (by kernel_rfl) h)
/-! slices.Delete[[]vmfleet/api.Placed,vmfleet/api.Placed] -/
theorem f88 (t0 t1 t2 : PV) {rs : List PV} (h : (Option.bind (Prim.run .mov [(.slice true [])]) fun t6 =>
  Option.bind (chk t0 fun a0 => Prim.run .mov [a0]) fun t8 =>
  Option.bind (chk t1 fun a0 => Prim.run .mov [a0]) fun t9 =>
  Option.bind (chk t2 fun a0 => Prim.run .mov [a0]) fun t10 =>
  Option.bind (chk t0 fun a0 => Prim.run .mov [a0]) fun t11 =>
  Option.bind (chk t11 fun a0 => Prim.run .len [a0]) fun t12 =>
  Option.bind (chk t8 fun a0 => chk t9 fun a1 => chk t10 fun a2 => chk t12 fun a3 => Prim.run (.sl3 true) [a0, a1, a2, a3]) fun t13 =>
  Option.bind (chk t1 fun a0 => Prim.run .mov [a0]) fun t14 =>
  Option.bind (chk t2 fun a0 => Prim.run .mov [a0]) fun t15 =>
  Option.bind (chk t14 fun a0 => chk t15 fun a1 => Prim.run (.bin .eql) [a0, a1]) fun t16 =>
  chk t16 fun c0 => isB c0
 (Option.bind (chk t0 fun a0 => Prim.run .mov [a0]) fun t17 =>
  Option.bind (chk t17 fun a0 => Prim.run .mov [a0]) fun t6 =>
  allDef [t6])
 (Option.bind (chk t0 fun a0 => Prim.run .mov [a0]) fun t18 =>
  Option.bind (chk t18 fun a0 => Prim.run .len [a0]) fun t19 =>
  Option.bind (chk t19 fun a0 => Prim.run .mov [a0]) fun t7 =>
  Option.bind (Prim.run .mov []) fun _ =>
  allDef [.undef])) = some rs) : Ans T 88 [t0, t1, t2] = some rs := call_of (T := T) c88 (Eq.trans (by kernel_rfl) h)
/-! vmfleet/bits.Hash -/
noncomputable def WL94x2 (t0 t1 t7 t8 : PV) (K : RK) : Option (List PV) := loopK T kL94x2 L94x2 [t0, t1, .undef, .undef, .undef, .undef, .undef, t7, t8, .undef, .undef, .undef, .undef, .undef, .undef, .undef, .undef, .undef, .undef, .undef] K
theorem oL94x2 (t0 t1 t7 t8 : PV) (K : RK) {a : List PV} (h : (Option.bind (chk t8 fun a0 => chk t7 fun a1 => Prim.run (.bin .lss) [a0, a1]) fun t9 =>
  chk t9 fun c0 => isB c0
 (Option.bind (chk t8 fun a0 => Prim.run .mov [a0]) fun t10 =>
  Option.bind (chk t10 fun a0 => Prim.run .mov [a0]) fun t5 =>
  Option.bind (chk t0 fun a0 => Prim.run .mov [a0]) fun t11 =>
  Option.bind (chk t1 fun a0 => Prim.run .mov [a0]) fun t12 =>
  Option.bind (chk t5 fun a0 => Prim.run .mov [a0]) fun t13 =>
  Option.bind (chk t12 fun a0 => chk t13 fun a1 => Prim.run .index [a0, a1]) fun t14 =>
  Option.bind (chk t14 fun a0 => Prim.run (.toInt .u64) [a0]) fun t15 =>
  Option.bind (chk t11 fun a0 => chk t15 fun a1 => Prim.run (.bin .xor) [a0, a1]) fun t16 =>
  Option.bind (chk t16 fun a0 => Prim.run (.bin .mul) [a0, (.int .u64 1099511628211)]) fun t17 =>
  Option.bind (chk t17 fun a0 => Prim.run .mov [a0]) fun t0 =>
  Option.bind (chk t8 fun a0 => Prim.run (.bin .add) [a0, (.int .i64 1)]) fun t18 =>
  Option.bind (chk t18 fun a0 => Prim.run .mov [a0]) fun t8 =>
  WL94x2 t0 t1 t7 t8 K)
 (K (.exit 0, [t0, .undef, .undef, .undef, .undef, .undef, .undef, .undef, .undef, .undef, .undef, .undef, .undef, .undef, .undef, .undef, .undef, .undef, .undef, .undef]))) = some a) : WL94x2 t0 t1 t7 t8 K = some a := loopK_of (Eq.trans (by kernel_rfl) h)
@[simp] theorem aL94x2 (t0 t1 t2 t3 t4 t5 t6 t7 t8 t9 t10 t11 t12 t13 t14 t15 t16 t17 t18 t19 : PV) (K : RK) : againK T kL94x2 L94x2 K (.normal, [t0, t1, t2, t3, t4, t5, t6, t7, t8, t9, t10, t11, t12, t13, t14, t15, t16, t17, t18, t19]) = WL94x2 t0 t1 t7 t8 K := by kernel_rfl
@[simp] theorem lA94x1 (t0 t1 : PV) (K : RK) : denK T A94x1 [t0, t1, .undef, .undef, .undef, .undef, .undef, .undef, .undef, .undef, .undef, .undef, .undef, .undef, .undef, .undef, .undef, .undef, .undef, .undef] K =
  Option.bind (chk t1 fun a0 => Prim.run .mov [a0]) fun t6 =>
  Option.bind (chk t6 fun a0 => Prim.run .len [a0]) fun t7 =>
  Option.bind (Prim.run .mov [(.int .i64 0)]) fun t8 =>
  WL94x2 t0 t1 t7 t8 (blockK 0 K) := by kernel_rfl
@[simp] theorem lB94x1 (t0 : PV) (K : RK) : denK T B94x1 [t0, .undef, .undef, .undef, .undef, .undef, .undef, .undef, .undef, .undef, .undef, .undef, .undef, .undef, .undef, .undef, .undef, .undef, .undef, .undef] K =
  Option.bind (chk t0 fun a0 => Prim.run .mov [a0]) fun t19 =>
  Option.bind (chk t19 fun a0 => Prim.run .mov [a0]) fun t4 =>
  K (.ret, [.undef, .undef, .undef, .undef, t4, .undef, .undef, .undef, .undef, .undef, .undef, .undef, .undef, .undef, .undef, .undef, .undef, .undef, .undef, .undef]) := by kernel_rfl
theorem f94 (t0 t1 : PV) {rs : List PV} (h : (Option.bind (Prim.run .mov [(.int .u64 0)]) fun t4 =>
  denK T A94x1 [t0, t1, .undef, .undef, .undef, .undef, .undef, .undef, .undef, .undef, .undef, .undef, .undef, .undef, .undef, .undef, .undef, .undef, .undef, .undef] (seqK T B94x1 (endK [4]))) = some rs) : Ans T 94 [t0, t1] = some rs := call_of (T := T) c94 (Eq.trans (by kernel_rfl) h)
/-! vmfleet/journal.named -/
theorem f95 (t0 : PV) {rs : List PV} (h : (Option.bind (Prim.run .mov [(.bool false)]) fun t2 =>
  Option.bind (chk t0 fun a0 => Prim.run .mov [a0]) fun t3 =>
  Option.bind (chk t3 fun a0 => Prim.run .len [a0]) fun t4 =>
  Option.bind (chk t4 fun a0 => Prim.run (.bin .geq) [a0, (.int .i64 1)]) fun t5 =>
  Option.bind (chk t5 fun a0 => Prim.run .mov [a0]) fun t6 =>
  Option.bind (grd t6 true (chk t0 fun a0 => Prim.run .mov [a0])) fun t7 =>
  Option.bind (grd t6 true (chk t7 fun a0 => Prim.run .len [a0])) fun t8 =>
  Option.bind (grd t6 true (chk t8 fun a0 => Prim.run (.bin .leq) [a0, (.int .i64 12)])) fun t9 =>
  Option.bind (chk t6 fun a0 => isB a0 (chk t9 fun a1 => some a1) (some (.bool false))) fun t10 =>
  Option.bind (chk t10 fun a0 => Prim.run .mov [a0]) fun t2 =>
  allDef [t2]) = some rs) : Ans T 95 [t0] = some rs := call_of (T := T) c95 (Eq.trans (by kernel_rfl) h)
/-! vmfleet/admission.ValidDemand -/
theorem f96 (t0 : PV) {rs : List PV} (h : (Option.bind (chk t0 fun a0 => Prim.run .mov [a0]) fun t1 =>
  Option.bind (Prim.run .mov [(.bool false)]) fun t2 =>
  Option.bind (Prim.run (.fptr 0) [(.ptr [])]) fun t3 =>
  Option.bind (chk t1 fun a0 => chk t3 fun a1 => Prim.run .load [a0, a1]) fun t4 =>
  Option.bind (chk t4 fun a0 => Prim.run (.bin .geq) [a0, (.int .i64 0)]) fun t5 =>
  Option.bind (chk t5 fun a0 => Prim.run .mov [a0]) fun t6 =>
  Option.bind (grd t6 true (Prim.run (.fptr 0) [(.ptr [])])) fun t7 =>
  Option.bind (grd t6 true (chk t1 fun a0 => chk t7 fun a1 => Prim.run .load [a0, a1])) fun t8 =>
  Option.bind (grd t6 true (Prim.run (.fptr 1) [(.ptr [])])) fun t9 =>
  Option.bind (grd t6 true (chk t1 fun a0 => chk t9 fun a1 => Prim.run .load [a0, a1])) fun t10 =>
  Option.bind (grd t6 true (chk t8 fun a0 => chk t10 fun a1 => Prim.run (.bin .leq) [a0, a1])) fun t11 =>
  Option.bind (chk t6 fun a0 => isB a0 (chk t11 fun a1 => some a1) (some (.bool false))) fun t12 =>
  Option.bind (chk t12 fun a0 => Prim.run .mov [a0]) fun t13 =>
  Option.bind (grd t13 true (Prim.run (.fptr 1) [(.ptr [])])) fun t14 =>
  Option.bind (grd t13 true (chk t1 fun a0 => chk t14 fun a1 => Prim.run .load [a0, a1])) fun t15 =>
  Option.bind (grd t13 true (chk t15 fun a0 => Option.bind (Ans T 110 [a0]) fun rs => retV 1 rs)) fun t16 =>
  Option.bind (chk t13 fun a0 => isB a0 (chk t16 fun a1 => some a1) (some (.bool false))) fun t17 =>
  Option.bind (chk t17 fun a0 => Prim.run .mov [a0]) fun t18 =>
  Option.bind (grd t18 true (Prim.run (.fptr 2) [(.ptr [])])) fun t19 =>
  Option.bind (grd t18 true (chk t1 fun a0 => chk t19 fun a1 => Prim.run .load [a0, a1])) fun t20 =>
  Option.bind (grd t18 true (chk t20 fun a0 => Option.bind (Ans T 110 [a0]) fun rs => retV 1 rs)) fun t21 =>
  Option.bind (chk t18 fun a0 => isB a0 (chk t21 fun a1 => some a1) (some (.bool false))) fun t22 =>
  Option.bind (chk t22 fun a0 => Prim.run .mov [a0]) fun t23 =>
  Option.bind (grd t23 true (Prim.run (.fptr 3) [(.ptr [])])) fun t24 =>
  Option.bind (grd t23 true (chk t1 fun a0 => chk t24 fun a1 => Prim.run .load [a0, a1])) fun t25 =>
  Option.bind (grd t23 true (chk t25 fun a0 => Prim.run (.bin .geq) [a0, (.int .i64 0)])) fun t26 =>
  Option.bind (chk t23 fun a0 => isB a0 (chk t26 fun a1 => some a1) (some (.bool false))) fun t27 =>
  Option.bind (chk t27 fun a0 => Prim.run .mov [a0]) fun t2 =>
  allDef [t2]) = some rs) : Ans T 96 [t0] = some rs := call_of (T := T) c96 (Eq.trans (by kernel_rfl) h)
/-! vmfleet/journal.host -/
theorem f97 (t0 t1 : PV) {rs : List PV} (h : (Option.bind (chk t0 fun a0 => Prim.run .mov [a0]) fun t2 =>
  Option.bind (Prim.run .mov [(.bool false)]) fun t4 =>
  Option.bind (chk t1 fun a0 => Prim.run .mov [a0]) fun t5 =>
  Option.bind (chk t5 fun a0 => Prim.run (.bin .geq) [a0, (.int .i64 0)]) fun t6 =>
  Option.bind (chk t6 fun a0 => Prim.run .mov [a0]) fun t7 =>
  Option.bind (grd t7 true (chk t1 fun a0 => Prim.run .mov [a0])) fun t8 =>
  Option.bind (grd t7 true (Prim.run (.fptr 0) [(.ptr [])])) fun t9 =>
  Option.bind (grd t7 true (chk t2 fun a0 => chk t9 fun a1 => Prim.run .load [a0, a1])) fun t10 =>
  Option.bind (grd t7 true (chk t10 fun a0 => Prim.run .len [a0])) fun t11 =>
  Option.bind (grd t7 true (chk t8 fun a0 => chk t11 fun a1 => Prim.run (.bin .lss) [a0, a1])) fun t12 =>
  Option.bind (chk t7 fun a0 => isB a0 (chk t12 fun a1 => some a1) (some (.bool false))) fun t13 =>
  Option.bind (chk t13 fun a0 => Prim.run .mov [a0]) fun t4 =>
  allDef [t4]) = some rs) : Ans T 97 [t0, t1] = some rs := call_of (T := T) c97 (Eq.trans (by kernel_rfl) h)
/-! vmfleet/admission.ValidHost -/
theorem f98 (t0 : PV) {rs : List PV} (h : (Option.bind (chk t0 fun a0 => Prim.run .mov [a0]) fun t1 =>
  Option.bind (Prim.run .mov [(.bool false)]) fun t2 =>
  Option.bind (Prim.run (.fptr 0) [(.ptr [])]) fun t3 =>
  Option.bind (chk t1 fun a0 => chk t3 fun a1 => Prim.run .load [a0, a1]) fun t4 =>
  Option.bind (chk t4 fun a0 => Option.bind (Ans T 110 [a0]) fun rs => retV 1 rs) fun t5 =>
  Option.bind (chk t5 fun a0 => Prim.run .mov [a0]) fun t6 =>
  Option.bind (grd t6 true (Prim.run (.fptr 1) [(.ptr [])])) fun t7 =>
  Option.bind (grd t6 true (chk t1 fun a0 => chk t7 fun a1 => Prim.run .load [a0, a1])) fun t8 =>
  Option.bind (grd t6 true (chk t8 fun a0 => Option.bind (Ans T 110 [a0]) fun rs => retV 1 rs)) fun t9 =>
  Option.bind (chk t6 fun a0 => isB a0 (chk t9 fun a1 => some a1) (some (.bool false))) fun t10 =>
  Option.bind (chk t10 fun a0 => Prim.run .mov [a0]) fun t2 =>
  allDef [t2]) = some rs) : Ans T 98 [t0] = some rs := call_of (T := T) c98 (Eq.trans (by kernel_rfl) h)
/-! vmfleet/admission.Fits -/
noncomputable def WL99x2 (t1 t2 t7 t8 t9 : PV) (K : RK) : Option (List PV) := loopK T kL99x2 L99x2 [.undef, t1, t2, .undef, .undef, .undef, .undef, t7, t8, t9, .undef, .undef, .undef, .undef, .undef, .undef, .undef, .undef, .undef, .undef, .undef, .undef] K
theorem oL99x2 (t1 t2 t7 t8 t9 : PV) (K : RK) {a : List PV} (h : (Option.bind (chk t9 fun a0 => chk t8 fun a1 => Prim.run (.bin .lss) [a0, a1]) fun t10 =>
  chk t10 fun c0 => isB c0
 (Option.bind (chk t9 fun a0 => Prim.run .mov [a0]) fun t11 =>
  Option.bind (chk t7 fun a0 => chk t9 fun a1 => Prim.run (.iptr []) [a0, a1]) fun t12 =>
  Option.bind (chk t7 fun a0 => chk t12 fun a1 => Prim.run .load [a0, a1]) fun t13 =>
  Option.bind (Prim.run .mov [(.agg [(.int .i64 0), (.int .i64 0), (.int .i64 0), (.int .i64 0)])]) fun t6 =>
  Option.bind (chk t11 fun a0 => Prim.run .mov [a0]) fun t5 =>
  chk t13 fun a0 => chk t6 fun y0 => Option.bind (setP [] y0 a0) fun t6 =>
  Option.bind (chk t2 fun a0 => Prim.run .load [a0, (.ptr [])]) fun t14 =>
  Option.bind (chk t1 fun a0 => Prim.run .mov [a0]) fun t15 =>
  Option.bind (chk t5 fun a0 => Prim.run .mov [a0]) fun t16 =>
  Option.bind (chk t15 fun a0 => chk t16 fun a1 => Prim.run (.sl false true) [a0, a1]) fun t17 =>
  Option.bind (chk t6 fun a0 => Prim.run .load [a0, (.ptr [])]) fun t18 =>
  Option.bind (chk t14 fun a0 => chk t17 fun a1 => chk t18 fun a2 => Option.bind (Ans T 103 [a0, a1, a2]) fun rs => retV 1 rs) fun t19 =>
  Option.bind (chk t19 fun a0 => Prim.run (.bin .neq) [a0, (.int .i64 0)]) fun t20 =>
  chk t20 fun c0 => isB c0
 (Option.bind (Prim.run .mov [(.bool false)]) fun t4 =>
  K (.ret, [.undef, .undef, .undef, .undef, t4, .undef, .undef, .undef, .undef, .undef, .undef, .undef, .undef, .undef, .undef, .undef, .undef, .undef, .undef, .undef, .undef, .undef]))
 (Option.bind (chk t9 fun a0 => Prim.run (.bin .add) [a0, (.int .i64 1)]) fun t21 =>
  Option.bind (chk t21 fun a0 => Prim.run .mov [a0]) fun t9 =>
  WL99x2 t1 t2 t7 t8 t9 K))
 (K (.exit 0, [.undef, .undef, .undef, .undef, .undef, .undef, .undef, .undef, .undef, .undef, .undef, .undef, .undef, .undef, .undef, .undef, .undef, .undef, .undef, .undef, .undef, .undef]))) = some a) : WL99x2 t1 t2 t7 t8 t9 K = some a := loopK_of (Eq.trans (by kernel_rfl) h)
@[simp] theorem aL99x2 (t0 t1 t2 t3 t4 t5 t6 t7 t8 t9 t10 t11 t12 t13 t14 t15 t16 t17 t18 t19 t20 t21 : PV) (K : RK) : againK T kL99x2 L99x2 K (.normal, [t0, t1, t2, t3, t4, t5, t6, t7, t8, t9, t10, t11, t12, t13, t14, t15, t16, t17, t18, t19, t20, t21]) = WL99x2 t1 t2 t7 t8 t9 K := by kernel_rfl
@[simp] theorem lA99x1 (t1 t2 : PV) (K : RK) : denK T A99x1 [.undef, t1, t2, .undef, .undef, .undef, .undef, .undef, .undef, .undef, .undef, .undef, .undef, .undef, .undef, .undef, .undef, .undef, .undef, .undef, .undef, .undef] K =
  Option.bind (chk t1 fun a0 => Prim.run .mov [a0]) fun t7 =>
  Option.bind (chk t7 fun a0 => Prim.run .len [a0]) fun t8 =>
  Option.bind (Prim.run .mov [(.int .i64 0)]) fun t9 =>
  WL99x2 t1 t2 t7 t8 t9 (blockK 0 K) := by kernel_rfl
@[simp] theorem lB99x1 (K : RK) : denK T B99x1 [.undef, .undef, .undef, .undef, .undef, .undef, .undef, .undef, .undef, .undef, .undef, .undef, .undef, .undef, .undef, .undef, .undef, .undef, .undef, .undef, .undef, .undef] K =
  Option.bind (Prim.run .mov [(.bool true)]) fun t4 =>
  K (.ret, [.undef, .undef, .undef, .undef, t4, .undef, .undef, .undef, .undef, .undef, .undef, .undef, .undef, .undef, .undef, .undef, .undef, .undef, .undef, .undef, .undef, .undef]) := by kernel_rfl
theorem f99 (t0 t1 : PV) {rs : List PV} (h : (Option.bind (chk t0 fun a0 => Prim.run .mov [a0]) fun t2 =>
  Option.bind (Prim.run .mov [(.bool false)]) fun t4 =>
  denK T A99x1 [.undef, t1, t2, .undef, .undef, .undef, .undef, .undef, .undef, .undef, .undef, .undef, .undef, .undef, .undef, .undef, .undef, .undef, .undef, .undef, .undef, .undef] (seqK T B99x1 (endK [4]))) = some rs) : Ans T 99 [t0, t1] = some rs := call_of (T := T) c99 (Eq.trans (by kernel_rfl) h)
/-! vmfleet/admission.On -/
noncomputable def WL100x4 (t1 t5 t7 t10 t11 t12 t17 t18 : PV) (K : RK) : Option (List PV) := loopK T kL100x4 L100x4 [.undef, t1, .undef, .undef, .undef, t5, .undef, t7, .undef, .undef, t10, t11, t12, .undef, .undef, .undef, .undef, t17, t18, .undef, .undef, .undef, .undef, .undef, .undef, .undef, .undef, .undef, .undef, .undef, .undef, .undef] K
theorem oL100x4 (t1 t5 t7 t10 t11 t12 t17 t18 : PV) (K : RK) {a : List PV} (h : (Option.bind (chk t18 fun a0 => Prim.run (.bin .lss) [a0, (.int .i64 2)]) fun t19 =>
  chk t19 fun c0 => isB c0
 (Option.bind (chk t17 fun a0 => chk t18 fun a1 => Prim.run .index [a0, a1]) fun t20 =>
  Option.bind (chk t20 fun a0 => Prim.run .mov [a0]) fun t9 =>
  Option.bind (chk t9 fun a0 => Prim.run .mov [a0]) fun t21 =>
  Option.bind (chk t1 fun a0 => Prim.run .mov [a0]) fun t22 =>
  Option.bind (chk t21 fun a0 => chk t22 fun a1 => Prim.run (.bin .eql) [a0, a1]) fun t23 =>
  chk t23 fun c0 => isB c0
 (Option.bind (chk t5 fun a0 => Prim.run .mov [a0]) fun t24 =>
  Option.bind (Prim.run (.fptr 1) [(.ptr [])]) fun t25 =>
  Option.bind (chk t7 fun a0 => chk t25 fun a1 => Prim.run .load [a0, a1]) fun t26 =>
  Option.bind (chk t26 fun a0 => Prim.run (.buildSl (.agg [(.int .i64 0), (.int .i64 0), (.int .i64 0), (.int .i64 0)]) 1 [0]) [a0]) fun t27 =>
  Option.bind (chk t24 fun a0 => chk t27 fun a1 => Prim.run (.app 32) [a0, a1]) fun t28 =>
  Option.bind (chk t28 fun a0 => Prim.run .mov [a0]) fun t5 =>
  Option.bind (chk t18 fun a0 => Prim.run (.bin .add) [a0, (.int .i64 1)]) fun t29 =>
  Option.bind (chk t29 fun a0 => Prim.run .mov [a0]) fun t18 =>
  WL100x4 t1 t5 t7 t10 t11 t12 t17 t18 K)
 (Option.bind (chk t18 fun a0 => Prim.run (.bin .add) [a0, (.int .i64 1)]) fun t29 =>
  Option.bind (chk t29 fun a0 => Prim.run .mov [a0]) fun t18 =>
  WL100x4 t1 t5 t7 t10 t11 t12 t17 t18 K))
 (K (.exit 2, [.undef, t1, .undef, .undef, .undef, t5, .undef, .undef, .undef, .undef, t10, t11, t12, .undef, .undef, .undef, .undef, .undef, .undef, .undef, .undef, .undef, .undef, .undef, .undef, .undef, .undef, .undef, .undef, .undef, .undef, .undef]))) = some a) : WL100x4 t1 t5 t7 t10 t11 t12 t17 t18 K = some a := loopK_of (Eq.trans (by kernel_rfl) h)
@[simp] theorem aL100x4 (t0 t1 t2 t3 t4 t5 t6 t7 t8 t9 t10 t11 t12 t13 t14 t15 t16 t17 t18 t19 t20 t21 t22 t23 t24 t25 t26 t27 t28 t29 t30 t31 : PV) (K : RK) : againK T kL100x4 L100x4 K (.normal, [t0, t1, t2, t3, t4, t5, t6, t7, t8, t9, t10, t11, t12, t13, t14, t15, t16, t17, t18, t19, t20, t21, t22, t23, t24, t25, t26, t27, t28, t29, t30, t31]) = WL100x4 t1 t5 t7 t10 t11 t12 t17 t18 K := by kernel_rfl
@[simp] theorem lA100x3 (t1 t5 t10 t11 t12 t13 : PV) (K : RK) : denK T A100x3 [.undef, t1, .undef, .undef, .undef, t5, .undef, .undef, .undef, .undef, t10, t11, t12, t13, .undef, .undef, .undef, .undef, .undef, .undef, .undef, .undef, .undef, .undef, .undef, .undef, .undef, .undef, .undef, .undef, .undef, .undef] K =
  Option.bind (chk t10 fun a0 => chk t12 fun a1 => Prim.run (.iptr []) [a0, a1]) fun t14 =>
  Option.bind (chk t10 fun a0 => chk t14 fun a1 => Prim.run .load [a0, a1]) fun t15 =>
  Option.bind (Prim.run .mov [(.agg [(.str []), (.agg [(.int .i64 0), (.int .i64 0), (.int .i64 0), (.int .i64 0)]), (.agg [(.int .i64 0), (.int .i64 0)])])]) fun t7 =>
  chk t15 fun a0 => chk t7 fun y0 => Option.bind (setP [] y0 a0) fun t7 =>
  Option.bind (Prim.run (.fptr 2) [(.ptr [])]) fun t16 =>
  Option.bind (chk t7 fun a0 => chk t16 fun a1 => Prim.run .load [a0, a1]) fun t17 =>
  Option.bind (Prim.run .mov [(.int .i64 0)]) fun t18 =>
  WL100x4 t1 t5 t7 t10 t11 t12 t17 t18 (blockK 2 (blockK 1 K)) := by kernel_rfl
@[simp] theorem lB100x3 (t1 t5 t10 t11 t12 : PV) (K : RK) : denK T B100x3 [.undef, t1, .undef, .undef, .undef, t5, .undef, .undef, .undef, .undef, t10, t11, t12, .undef, .undef, .undef, .undef, .undef, .undef, .undef, .undef, .undef, .undef, .undef, .undef, .undef, .undef, .undef, .undef, .undef, .undef, .undef] K =
  Option.bind (chk t12 fun a0 => Prim.run (.bin .add) [a0, (.int .i64 1)]) fun t30 =>
  Option.bind (chk t30 fun a0 => Prim.run .mov [a0]) fun t12 =>
  K (.normal, [.undef, t1, .undef, .undef, .undef, t5, .undef, .undef, .undef, .undef, t10, t11, t12, .undef, .undef, .undef, .undef, .undef, .undef, .undef, .undef, .undef, .undef, .undef, .undef, .undef, .undef, .undef, .undef, .undef, .undef, .undef]) := by kernel_rfl
noncomputable def WL100x2 (t1 t5 t10 t11 t12 : PV) (K : RK) : Option (List PV) := loopK T kL100x2 L100x2 [.undef, t1, .undef, .undef, .undef, t5, .undef, .undef, .undef, .undef, t10, t11, t12, .undef, .undef, .undef, .undef, .undef, .undef, .undef, .undef, .undef, .undef, .undef, .undef, .undef, .undef, .undef, .undef, .undef, .undef, .undef] K
theorem oL100x2 (t1 t5 t10 t11 t12 : PV) (K : RK) {a : List PV} (h : (Option.bind (chk t12 fun a0 => chk t11 fun a1 => Prim.run (.bin .lss) [a0, a1]) fun t13 =>
  chk t13 fun c0 => isB c0
 (denK T A100x3 [.undef, t1, .undef, .undef, .undef, t5, .undef, .undef, .undef, .undef, t10, t11, t12, t13, .undef, .undef, .undef, .undef, .undef, .undef, .undef, .undef, .undef, .undef, .undef, .undef, .undef, .undef, .undef, .undef, .undef, .undef] (seqK T B100x3 (againK T kL100x2 L100x2 K)))
 (K (.exit 0, [.undef, .undef, .undef, .undef, .undef, t5, .undef, .undef, .undef, .undef, .undef, .undef, .undef, .undef, .undef, .undef, .undef, .undef, .undef, .undef, .undef, .undef, .undef, .undef, .undef, .undef, .undef, .undef, .undef, .undef, .undef, .undef]))) = some a) : WL100x2 t1 t5 t10 t11 t12 K = some a := loopK_of (Eq.trans (by kernel_rfl) h)
@[simp] theorem aL100x2 (t0 t1 t2 t3 t4 t5 t6 t7 t8 t9 t10 t11 t12 t13 t14 t15 t16 t17 t18 t19 t20 t21 t22 t23 t24 t25 t26 t27 t28 t29 t30 t31 : PV) (K : RK) : againK T kL100x2 L100x2 K (.normal, [t0, t1, t2, t3, t4, t5, t6, t7, t8, t9, t10, t11, t12, t13, t14, t15, t16, t17, t18, t19, t20, t21, t22, t23, t24, t25, t26, t27, t28, t29, t30, t31]) = WL100x2 t1 t5 t10 t11 t12 K := by kernel_rfl
@[simp] theorem lA100x1 (t0 t1 t5 : PV) (K : RK) : denK T A100x1 [t0, t1, .undef, .undef, .undef, t5, .undef, .undef, .undef, .undef, .undef, .undef, .undef, .undef, .undef, .undef, .undef, .undef, .undef, .undef, .undef, .undef, .undef, .undef, .undef, .undef, .undef, .undef, .undef, .undef, .undef, .undef] K =
  Option.bind (chk t0 fun a0 => Prim.run .mov [a0]) fun t10 =>
  Option.bind (chk t10 fun a0 => Prim.run .len [a0]) fun t11 =>
  Option.bind (Prim.run .mov [(.int .i64 0)]) fun t12 =>
  WL100x2 t1 t5 t10 t11 t12 (blockK 0 K) := by kernel_rfl
@[simp] theorem lB100x1 (t5 : PV) (K : RK) : denK T B100x1 [.undef, .undef, .undef, .undef, .undef, t5, .undef, .undef, .undef, .undef, .undef, .undef, .undef, .undef, .undef, .undef, .undef, .undef, .undef, .undef, .undef, .undef, .undef, .undef, .undef, .undef, .undef, .undef, .undef, .undef, .undef, .undef] K =
  Option.bind (chk t5 fun a0 => Prim.run .mov [a0]) fun t31 =>
  Option.bind (chk t31 fun a0 => Prim.run .mov [a0]) fun t4 =>
  K (.ret, [.undef, .undef, .undef, .undef, t4, .undef, .undef, .undef, .undef, .undef, .undef, .undef, .undef, .undef, .undef, .undef, .undef, .undef, .undef, .undef, .undef, .undef, .undef, .undef, .undef, .undef, .undef, .undef, .undef, .undef, .undef, t31]) := by kernel_rfl
theorem f100 (t0 t1 : PV) {rs : List PV} (h : (Option.bind (Prim.run .mov [(.slice true [])]) fun t4 =>
  Option.bind (Prim.run .mov [(.slice true [])]) fun t5 =>
  denK T A100x1 [t0, t1, .undef, .undef, .undef, t5, .undef, .undef, .undef, .undef, .undef, .undef, .undef, .undef, .undef, .undef, .undef, .undef, .undef, .undef, .undef, .undef, .undef, .undef, .undef, .undef, .undef, .undef, .undef, .undef, .undef, .undef] (seqK T B100x1 (endK [4]))) = some rs) : Ans T 100 [t0, t1] = some rs := call_of (T := T) c100 (Eq.trans (by kernel_rfl) h)
/-! slices.Clone[[]vmfleet/api.Capacity,vmfleet/api.Capacity] -/
theorem f101 (t0 : PV) {rs : List PV} (h : (Option.bind (Prim.run .mov [(.slice true [])]) fun t2 =>
  Option.bind (chk t0 fun a0 => Prim.run .mov [a0]) fun t3 =>
  Option.bind (chk t3 fun a0 => Prim.run (.isNil false) [a0]) fun t4 =>
  chk t4 fun c0 => isB c0
 (Option.bind (Prim.run .mov [(.slice true [])]) fun t2 =>
  allDef [t2])
 (Option.bind (Prim.run (.buildSl (.agg [(.int .i64 0), (.int .i64 0), (.bool false)]) 0 []) []) fun t5 =>
  Option.bind (chk t0 fun a0 => Prim.run .mov [a0]) fun t6 =>
  Option.bind (chk t5 fun a0 => chk t6 fun a1 => Prim.run (.app 24) [a0, a1]) fun t7 =>
  Option.bind (chk t7 fun a0 => Prim.run .mov [a0]) fun t2 =>
  allDef [t2])) = some rs) : Ans T 101 [t0] = some rs := call_of (T := T) c101 (Eq.trans (by kernel_rfl) h)
/-! slices.Clone[[]vmfleet/api.Placed,vmfleet/api.Placed] -/
theorem f102 (t0 : PV) {rs : List PV} (h : (Option.bind (Prim.run .mov [(.slice true [])]) fun t2 =>
  Option.bind (chk t0 fun a0 => Prim.run .mov [a0]) fun t3 =>
  Option.bind (chk t3 fun a0 => Prim.run (.isNil false) [a0]) fun t4 =>
  chk t4 fun c0 => isB c0
 (Option.bind (Prim.run .mov [(.slice true [])]) fun t2 =>
  allDef [t2])
 (Option.bind (Prim.run (.buildSl (.agg [(.str []), (.agg [(.int .i64 0), (.int .i64 0), (.int .i64 0), (.int .i64 0)]), (.agg [(.int .i64 0), (.int .i64 0)])]) 0 []) []) fun t5 =>
  Option.bind (chk t0 fun a0 => Prim.run .mov [a0]) fun t6 =>
  Option.bind (chk t5 fun a0 => chk t6 fun a1 => Prim.run (.app 64) [a0, a1]) fun t7 =>
  Option.bind (chk t7 fun a0 => Prim.run .mov [a0]) fun t2 =>
  allDef [t2])) = some rs) : Ans T 102 [t0] = some rs := call_of (T := T) c102 (Eq.trans (by kernel_rfl) h)
/-! vmfleet/admission.Admit -/
noncomputable def WL103x2 (t5 t40 t41 t42 : PV) (K : RK) : Option (List PV) := loopK T kL103x2 L103x2 [.undef, .undef, .undef, .undef, .undef, t5, .undef, .undef, .undef, .undef, .undef, .undef, .undef, .undef, .undef, .undef, .undef, .undef, .undef, .undef, .undef, .undef, .undef, .undef, .undef, .undef, .undef, .undef, .undef, .undef, .undef, .undef, .undef, .undef, .undef, .undef, .undef, .undef, .undef, .undef, t40, t41, t42, .undef, .undef, .undef, .undef, .undef, .undef, .undef, .undef, .undef, .undef, .undef, .undef, .undef, .undef] K
theorem oL103x2 (t5 t40 t41 t42 : PV) (K : RK) {a : List PV} (h : (Option.bind (chk t42 fun a0 => chk t41 fun a1 => Prim.run (.bin .lss) [a0, a1]) fun t43 =>
  chk t43 fun c0 => isB c0
 (Option.bind (chk t40 fun a0 => chk t42 fun a1 => Prim.run (.iptr []) [a0, a1]) fun t44 =>
  Option.bind (chk t40 fun a0 => chk t44 fun a1 => Prim.run .load [a0, a1]) fun t45 =>
  Option.bind (Prim.run .mov [(.agg [(.int .i64 0), (.int .i64 0), (.int .i64 0), (.int .i64 0)])]) fun t10 =>
  chk t45 fun a0 => chk t10 fun y0 => Option.bind (setP [] y0 a0) fun t10 =>
  Option.bind (Prim.run (.fptr 3) [(.ptr [])]) fun t46 =>
  Option.bind (chk t5 fun a0 => chk t46 fun a1 => Prim.run .load [a0, a1]) fun t47 =>
  Option.bind (chk t47 fun a0 => Prim.run (.bin .neq) [a0, (.int .i64 0)]) fun t48 =>
  Option.bind (chk t48 fun a0 => Prim.run .mov [a0]) fun t49 =>
  Option.bind (grd t49 true (Prim.run (.fptr 3) [(.ptr [])])) fun t50 =>
  Option.bind (grd t49 true (chk t10 fun a0 => chk t50 fun a1 => Prim.run .load [a0, a1])) fun t51 =>
  Option.bind (grd t49 true (Prim.run (.fptr 3) [(.ptr [])])) fun t52 =>
  Option.bind (grd t49 true (chk t5 fun a0 => chk t52 fun a1 => Prim.run .load [a0, a1])) fun t53 =>
  Option.bind (grd t49 true (chk t51 fun a0 => chk t53 fun a1 => Prim.run (.bin .eql) [a0, a1])) fun t54 =>
  Option.bind (chk t49 fun a0 => isB a0 (chk t54 fun a1 => some a1) (some (.bool false))) fun t55 =>
  chk t55 fun c0 => isB c0
 (Option.bind (Prim.run .mov [(.int .i64 3903)]) fun t6 =>
  K (.ret, [.undef, .undef, .undef, .undef, .undef, .undef, t6, .undef, .undef, .undef, .undef, .undef, .undef, .undef, .undef, .undef, .undef, .undef, .undef, .undef, .undef, .undef, .undef, .undef, .undef, .undef, .undef, .undef, .undef, .undef, .undef, .undef, .undef, .undef, .undef, .undef, .undef, .undef, .undef, .undef, .undef, .undef, .undef, .undef, .undef, .undef, .undef, .undef, .undef, .undef, .undef, .undef, .undef, .undef, .undef, .undef, .undef]))
 (Option.bind (chk t42 fun a0 => Prim.run (.bin .add) [a0, (.int .i64 1)]) fun t56 =>
  Option.bind (chk t56 fun a0 => Prim.run .mov [a0]) fun t42 =>
  WL103x2 t5 t40 t41 t42 K))
 (K (.exit 1, [.undef, .undef, .undef, .undef, .undef, .undef, .undef, .undef, .undef, .undef, .undef, .undef, .undef, .undef, .undef, .undef, .undef, .undef, .undef, .undef, .undef, .undef, .undef, .undef, .undef, .undef, .undef, .undef, .undef, .undef, .undef, .undef, .undef, .undef, .undef, .undef, .undef, .undef, .undef, .undef, .undef, .undef, .undef, .undef, .undef, .undef, .undef, .undef, .undef, .undef, .undef, .undef, .undef, .undef, .undef, .undef, .undef]))) = some a) : WL103x2 t5 t40 t41 t42 K = some a := loopK_of (Eq.trans (by kernel_rfl) h)
@[simp] theorem aL103x2 (t0 t1 t2 t3 t4 t5 t6 t7 t8 t9 t10 t11 t12 t13 t14 t15 t16 t17 t18 t19 t20 t21 t22 t23 t24 t25 t26 t27 t28 t29 t30 t31 t32 t33 t34 t35 t36 t37 t38 t39 t40 t41 t42 t43 t44 t45 t46 t47 t48 t49 t50 t51 t52 t53 t54 t55 t56 : PV) (K : RK) : againK T kL103x2 L103x2 K (.normal, [t0, t1, t2, t3, t4, t5, t6, t7, t8, t9, t10, t11, t12, t13, t14, t15, t16, t17, t18, t19, t20, t21, t22, t23, t24, t25, t26, t27, t28, t29, t30, t31, t32, t33, t34, t35, t36, t37, t38, t39, t40, t41, t42, t43, t44, t45, t46, t47, t48, t49, t50, t51, t52, t53, t54, t55, t56]) = WL103x2 t5 t40 t41 t42 K := by kernel_rfl
@[simp] theorem lA103x1 (t1 t5 t35 : PV) (K : RK) : denK T A103x1 [.undef, t1, .undef, .undef, .undef, t5, .undef, .undef, .undef, .undef, .undef, .undef, .undef, .undef, .undef, .undef, .undef, .undef, .undef, .undef, .undef, .undef, .undef, .undef, .undef, .undef, .undef, .undef, .undef, .undef, .undef, .undef, .undef, .undef, .undef, t35, .undef, .undef, .undef, .undef, .undef, .undef, .undef, .undef, .undef, .undef, .undef, .undef, .undef, .undef, .undef, .undef, .undef, .undef, .undef, .undef, .undef] K =
  Option.bind (chk t1 fun a0 => Prim.run .mov [a0]) fun t40 =>
  Option.bind (chk t40 fun a0 => Prim.run .len [a0]) fun t41 =>
  Option.bind (Prim.run .mov [(.int .i64 0)]) fun t42 =>
  WL103x2 t5 t40 t41 t42 (blockK 1 K) := by kernel_rfl
@[simp] theorem lB103x1 (K : RK) : denK T B103x1 [.undef, .undef, .undef, .undef, .undef, .undef, .undef, .undef, .undef, .undef, .undef, .undef, .undef, .undef, .undef, .undef, .undef, .undef, .undef, .undef, .undef, .undef, .undef, .undef, .undef, .undef, .undef, .undef, .undef, .undef, .undef, .undef, .undef, .undef, .undef, .undef, .undef, .undef, .undef, .undef, .undef, .undef, .undef, .undef, .undef, .undef, .undef, .undef, .undef, .undef, .undef, .undef, .undef, .undef, .undef, .undef, .undef] K =
  Option.bind (Prim.run .mov [(.int .i64 0)]) fun t6 =>
  K (.ret, [.undef, .undef, .undef, .undef, .undef, .undef, t6, .undef, .undef, .undef, .undef, .undef, .undef, .undef, .undef, .undef, .undef, .undef, .undef, .undef, .undef, .undef, .undef, .undef, .undef, .undef, .undef, .undef, .undef, .undef, .undef, .undef, .undef, .undef, .undef, .undef, .undef, .undef, .undef, .undef, .undef, .undef, .undef, .undef, .undef, .undef, .undef, .undef, .undef, .undef, .undef, .undef, .undef, .undef, .undef, .undef, .undef]) := by kernel_rfl
theorem f103 (t0 t1 t2 : PV) {rs : List PV} (h : (Option.bind (chk t0 fun a0 => Prim.run .mov [a0]) fun t3 =>
  Option.bind (chk t2 fun a0 => Prim.run .mov [a0]) fun t5 =>
  Option.bind (Prim.run .mov [(.int .i64 0)]) fun t6 =>
  Option.bind (chk t3 fun a0 => Prim.run .load [a0, (.ptr [])]) fun t11 =>
  Option.bind (chk t1 fun a0 => Prim.run .mov [a0]) fun t12 =>
  Option.bind (chk t11 fun a0 => chk t12 fun a1 => Option.bind (Ans T 111 [a0, a1]) fun rs => retV 1 rs) fun t13 =>
  Option.bind (chk t13 fun a0 => Prim.run (.un .not) [a0]) fun t14 =>
  Option.bind (chk t14 fun a0 => Prim.run .mov [a0]) fun t15 =>
  Option.bind (grd t15 false (chk t5 fun a0 => Prim.run .load [a0, (.ptr [])])) fun t16 =>
  Option.bind (grd t15 false (chk t16 fun a0 => Option.bind (Ans T 96 [a0]) fun rs => retV 1 rs)) fun t17 =>
  Option.bind (grd t15 false (chk t17 fun a0 => Prim.run (.un .not) [a0])) fun t18 =>
  Option.bind (chk t15 fun a0 => isB a0 (some (.bool true)) (chk t18 fun a1 => some a1)) fun t19 =>
  chk t19 fun c0 => isB c0
 (Option.bind (Prim.run .mov [(.int .i64 3900)]) fun t6 =>
  allDef [t6])
 (Option.bind (chk t3 fun a0 => Prim.run .load [a0, (.ptr [])]) fun t21 =>
  Option.bind (chk t1 fun a0 => Prim.run .mov [a0]) fun t22 =>
  Option.bind (chk t21 fun a0 => chk t22 fun a1 => Option.bind (Ans T 112 [a0, a1]) fun rs => retV 2 rs) fun t23 =>
  Option.bind (chk t23 fun a0 => Prim.run .mov [a0]) fun t20 =>
  Option.bind (chk t20 fun a0 => Prim.run (.ext 0) [a0]) fun t24 =>
  Option.bind (chk t20 fun a0 => Prim.run (.ext 1) [a0]) fun t25 =>
  Option.bind (chk t24 fun a0 => Prim.run .mov [a0]) fun t7 =>
  Option.bind (chk t25 fun a0 => Prim.run .mov [a0]) fun t8 =>
  Option.bind (Prim.run (.fptr 2) [(.ptr [])]) fun t27 =>
  Option.bind (chk t3 fun a0 => chk t27 fun a1 => Prim.run .load [a0, a1]) fun t28 =>
  Option.bind (chk t28 fun a0 => Prim.run (.un .not) [a0]) fun t29 =>
  Option.bind (chk t29 fun a0 => Prim.run .mov [a0]) fun t26 =>
  chk t26 fun c0 => isB c0
 (Option.bind (Prim.run .mov [(.int .i64 3904)]) fun t6 =>
  allDef [t6])
 (Option.bind (chk t7 fun a0 => Prim.run .mov [a0]) fun t31 =>
  Option.bind (Prim.run (.fptr 0) [(.ptr [])]) fun t32 =>
  Option.bind (chk t5 fun a0 => chk t32 fun a1 => Prim.run .load [a0, a1]) fun t33 =>
  Option.bind (chk t31 fun a0 => chk t33 fun a1 => Prim.run (.bin .lss) [a0, a1]) fun t34 =>
  Option.bind (chk t34 fun a0 => Prim.run .mov [a0]) fun t30 =>
  chk t30 fun c0 => isB c0
 (Option.bind (Prim.run .mov [(.int .i64 3901)]) fun t6 =>
  allDef [t6])
 (Option.bind (chk t8 fun a0 => Prim.run .mov [a0]) fun t36 =>
  Option.bind (Prim.run (.fptr 2) [(.ptr [])]) fun t37 =>
  Option.bind (chk t5 fun a0 => chk t37 fun a1 => Prim.run .load [a0, a1]) fun t38 =>
  Option.bind (chk t36 fun a0 => chk t38 fun a1 => Prim.run (.bin .lss) [a0, a1]) fun t39 =>
  Option.bind (chk t39 fun a0 => Prim.run .mov [a0]) fun t35 =>
  chk t35 fun c0 => isB c0
 (Option.bind (Prim.run .mov [(.int .i64 3902)]) fun t6 =>
  allDef [t6])
 (denK T A103x1 [.undef, t1, .undef, .undef, .undef, t5, .undef, .undef, .undef, .undef, .undef, .undef, .undef, .undef, .undef, .undef, .undef, .undef, .undef, .undef, .undef, .undef, .undef, .undef, .undef, .undef, .undef, .undef, .undef, .undef, .undef, .undef, .undef, .undef, .undef, t35, .undef, .undef, .undef, .undef, .undef, .undef, .undef, .undef, .undef, .undef, .undef, .undef, .undef, .undef, .undef, .undef, .undef, .undef, .undef, .undef, .undef] (seqK T B103x1 (endK [6]))))))) = some rs) : Ans T 103 [t0, t1, t2] = some rs := call_of (T := T) c103 (Eq.trans (by kernel_rfl) h)
/-! slices.Insert[[]vmfleet/api.Placed,vmfleet/api.Placed] -/
theorem f104 (t0 t1 t2 : PV) {rs : List PV} (h : (Option.bind (Prim.run .mov [(.slice true [])]) fun t6 =>
  Option.bind (chk t0 fun a0 => Prim.run .mov [a0]) fun t10 =>
  Option.bind (chk t1 fun a0 => Prim.run .mov [a0]) fun t11 =>
  Option.bind (chk t10 fun a0 => chk t11 fun a1 => Prim.run (.sl true false) [a0, a1]) fun t12 =>
  Option.bind (chk t2 fun a0 => Prim.run .mov [a0]) fun t13 =>
  Option.bind (chk t13 fun a0 => Prim.run .len [a0]) fun t14 =>
  Option.bind (chk t14 fun a0 => Prim.run .mov [a0]) fun t7 =>
  Option.bind (chk t7 fun a0 => Prim.run .mov [a0]) fun t15 =>
  Option.bind (chk t15 fun a0 => Prim.run (.bin .eql) [a0, (.int .i64 0)]) fun t16 =>
  chk t16 fun c0 => isB c0
 (Option.bind (chk t0 fun a0 => Prim.run .mov [a0]) fun t17 =>
  Option.bind (chk t17 fun a0 => Prim.run .mov [a0]) fun t6 =>
  allDef [t6])
 (Option.bind (chk t0 fun a0 => Prim.run .mov [a0]) fun t18 =>
  Option.bind (chk t18 fun a0 => Prim.run .len [a0]) fun t19 =>
  Option.bind (chk t19 fun a0 => Prim.run .mov [a0]) fun t8 =>
  Option.bind (chk t1 fun a0 => Prim.run .mov [a0]) fun t20 =>
  Option.bind (chk t8 fun a0 => Prim.run .mov [a0]) fun t21 =>
  Option.bind (chk t20 fun a0 => chk t21 fun a1 => Prim.run (.bin .eql) [a0, a1]) fun t22 =>
  chk t22 fun c0 => isB c0
 (Option.bind (chk t0 fun a0 => Prim.run .mov [a0]) fun t23 =>
  Option.bind (chk t2 fun a0 => Prim.run .mov [a0]) fun t24 =>
  Option.bind (chk t23 fun a0 => chk t24 fun a1 => Prim.run (.app 64) [a0, a1]) fun t25 =>
  Option.bind (chk t25 fun a0 => Prim.run .mov [a0]) fun t6 =>
  allDef [t6])
 (Option.bind (Prim.run .mov []) fun _ =>
  allDef [.undef]))) = some rs) : Ans T 104 [t0, t1, t2] = some rs := call_of (T := T) c104 (Eq.trans (by kernel_rfl) h)
/-! vmfleet/admission.unit -/
theorem f110 (t0 : PV) {rs : List PV} (h : (Option.bind (Prim.run .mov [(.bool false)]) fun t2 =>
  Option.bind (chk t0 fun a0 => Prim.run .mov [a0]) fun t3 =>
  Option.bind (chk t3 fun a0 => Prim.run (.bin .geq) [a0, (.int .i64 0)]) fun t4 =>
  Option.bind (chk t4 fun a0 => Prim.run .mov [a0]) fun t5 =>
  Option.bind (grd t5 true (chk t0 fun a0 => Prim.run .mov [a0])) fun t6 =>
  Option.bind (grd t5 true (chk t6 fun a0 => Prim.run (.bin .leq) [a0, (.int .i64 1000000)])) fun t7 =>
  Option.bind (chk t5 fun a0 => isB a0 (chk t7 fun a1 => some a1) (some (.bool false))) fun t8 =>
  Option.bind (chk t8 fun a0 => Prim.run .mov [a0]) fun t2 =>
  allDef [t2]) = some rs) : Ans T 110 [t0] = some rs := call_of (T := T) c110 (Eq.trans (by kernel_rfl) h)
/-! vmfleet/admission.valid -/
noncomputable def WL111x2 (t15 t16 t17 : PV) (K : RK) : Option (List PV) := loopK T kL111x2 L111x2 [.undef, .undef, .undef, .undef, .undef, .undef, .undef, .undef, .undef, .undef, .undef, .undef, .undef, .undef, .undef, t15, t16, t17, .undef, .undef, .undef, .undef, .undef, .undef, .undef] K
theorem oL111x2 (t15 t16 t17 : PV) (K : RK) {a : List PV} (h : (Option.bind (chk t17 fun a0 => chk t16 fun a1 => Prim.run (.bin .lss) [a0, a1]) fun t18 =>
  chk t18 fun c0 => isB c0
 (Option.bind (chk t15 fun a0 => chk t17 fun a1 => Prim.run (.iptr []) [a0, a1]) fun t19 =>
  Option.bind (chk t15 fun a0 => chk t19 fun a1 => Prim.run .load [a0, a1]) fun t20 =>
  Option.bind (Prim.run .mov [(.agg [(.int .i64 0), (.int .i64 0), (.int .i64 0), (.int .i64 0)])]) fun t6 =>
  chk t20 fun a0 => chk t6 fun y0 => Option.bind (setP [] y0 a0) fun t6 =>
  Option.bind (chk t6 fun a0 => Prim.run .load [a0, (.ptr [])]) fun t21 =>
  Option.bind (chk t21 fun a0 => Option.bind (Ans T 96 [a0]) fun rs => retV 1 rs) fun t22 =>
  Option.bind (chk t22 fun a0 => Prim.run (.un .not) [a0]) fun t23 =>
  chk t23 fun c0 => isB c0
 (Option.bind (Prim.run .mov [(.bool false)]) fun t4 =>
  K (.ret, [.undef, .undef, .undef, .undef, t4, .undef, .undef, .undef, .undef, .undef, .undef, .undef, .undef, .undef, .undef, .undef, .undef, .undef, .undef, .undef, .undef, .undef, .undef, .undef, .undef]))
 (Option.bind (chk t17 fun a0 => Prim.run (.bin .add) [a0, (.int .i64 1)]) fun t24 =>
  Option.bind (chk t24 fun a0 => Prim.run .mov [a0]) fun t17 =>
  WL111x2 t15 t16 t17 K))
 (K (.exit 0, [.undef, .undef, .undef, .undef, .undef, .undef, .undef, .undef, .undef, .undef, .undef, .undef, .undef, .undef, .undef, .undef, .undef, .undef, .undef, .undef, .undef, .undef, .undef, .undef, .undef]))) = some a) : WL111x2 t15 t16 t17 K = some a := loopK_of (Eq.trans (by kernel_rfl) h)
@[simp] theorem aL111x2 (t0 t1 t2 t3 t4 t5 t6 t7 t8 t9 t10 t11 t12 t13 t14 t15 t16 t17 t18 t19 t20 t21 t22 t23 t24 : PV) (K : RK) : againK T kL111x2 L111x2 K (.normal, [t0, t1, t2, t3, t4, t5, t6, t7, t8, t9, t10, t11, t12, t13, t14, t15, t16, t17, t18, t19, t20, t21, t22, t23, t24]) = WL111x2 t15 t16 t17 K := by kernel_rfl
@[simp] theorem lA111x1 (t1 t14 : PV) (K : RK) : denK T A111x1 [.undef, t1, .undef, .undef, .undef, .undef, .undef, .undef, .undef, .undef, .undef, .undef, .undef, .undef, t14, .undef, .undef, .undef, .undef, .undef, .undef, .undef, .undef, .undef, .undef] K =
  Option.bind (chk t1 fun a0 => Prim.run .mov [a0]) fun t15 =>
  Option.bind (chk t15 fun a0 => Prim.run .len [a0]) fun t16 =>
  Option.bind (Prim.run .mov [(.int .i64 0)]) fun t17 =>
  WL111x2 t15 t16 t17 (blockK 0 K) := by kernel_rfl
@[simp] theorem lB111x1 (K : RK) : denK T B111x1 [.undef, .undef, .undef, .undef, .undef, .undef, .undef, .undef, .undef, .undef, .undef, .undef, .undef, .undef, .undef, .undef, .undef, .undef, .undef, .undef, .undef, .undef, .undef, .undef, .undef] K =
  Option.bind (Prim.run .mov [(.bool true)]) fun t4 =>
  K (.ret, [.undef, .undef, .undef, .undef, t4, .undef, .undef, .undef, .undef, .undef, .undef, .undef, .undef, .undef, .undef, .undef, .undef, .undef, .undef, .undef, .undef, .undef, .undef, .undef, .undef]) := by kernel_rfl
theorem f111 (t0 t1 : PV) {rs : List PV} (h : (Option.bind (chk t0 fun a0 => Prim.run .mov [a0]) fun t2 =>
  Option.bind (Prim.run .mov [(.bool false)]) fun t4 =>
  Option.bind (chk t2 fun a0 => Prim.run .load [a0, (.ptr [])]) fun t7 =>
  Option.bind (chk t7 fun a0 => Option.bind (Ans T 98 [a0]) fun rs => retV 1 rs) fun t8 =>
  Option.bind (chk t8 fun a0 => Prim.run (.un .not) [a0]) fun t9 =>
  Option.bind (chk t9 fun a0 => Prim.run .mov [a0]) fun t10 =>
  Option.bind (grd t10 false (chk t1 fun a0 => Prim.run .mov [a0])) fun t11 =>
  Option.bind (grd t10 false (chk t11 fun a0 => Prim.run .len [a0])) fun t12 =>
  Option.bind (grd t10 false (chk t12 fun a0 => Prim.run (.bin .gtr) [a0, (.int .i64 16)])) fun t13 =>
  Option.bind (chk t10 fun a0 => isB a0 (some (.bool true)) (chk t13 fun a1 => some a1)) fun t14 =>
  chk t14 fun c0 => isB c0
 (Option.bind (Prim.run .mov [(.bool false)]) fun t4 =>
  allDef [t4])
 (denK T A111x1 [.undef, t1, .undef, .undef, .undef, .undef, .undef, .undef, .undef, .undef, .undef, .undef, .undef, .undef, t14, .undef, .undef, .undef, .undef, .undef, .undef, .undef, .undef, .undef, .undef] (seqK T B111x1 (endK [4])))) = some rs) : Ans T 111 [t0, t1] = some rs := call_of (T := T) c111 (Eq.trans (by kernel_rfl) h)
/-! vmfleet/admission.Free -/
noncomputable def WL112x2 (t6 t7 t18 t19 t20 : PV) (K : RK) : Option (List PV) := loopK T kL112x2 L112x2 [.undef, .undef, .undef, .undef, .undef, .undef, t6, t7, .undef, .undef, .undef, .undef, .undef, .undef, .undef, .undef, .undef, .undef, t18, t19, t20, .undef, .undef, .undef, .undef, .undef, .undef, .undef, .undef, .undef, .undef, .undef, .undef, .undef, .undef] K
theorem oL112x2 (t6 t7 t18 t19 t20 : PV) (K : RK) {a : List PV} (h : (Option.bind (chk t20 fun a0 => chk t19 fun a1 => Prim.run (.bin .lss) [a0, a1]) fun t21 =>
  chk t21 fun c0 => isB c0
 (Option.bind (chk t18 fun a0 => chk t20 fun a1 => Prim.run (.iptr []) [a0, a1]) fun t22 =>
  Option.bind (chk t18 fun a0 => chk t22 fun a1 => Prim.run .load [a0, a1]) fun t23 =>
  Option.bind (Prim.run .mov [(.agg [(.int .i64 0), (.int .i64 0), (.int .i64 0), (.int .i64 0)])]) fun t9 =>
  chk t23 fun a0 => chk t9 fun y0 => Option.bind (setP [] y0 a0) fun t9 =>
  Option.bind (chk t6 fun a0 => Prim.run .mov [a0]) fun t24 =>
  Option.bind (Prim.run (.fptr 0) [(.ptr [])]) fun t25 =>
  Option.bind (chk t9 fun a0 => chk t25 fun a1 => Prim.run .load [a0, a1]) fun t26 =>
  Option.bind (chk t24 fun a0 => chk t26 fun a1 => Prim.run (.bin .sub) [a0, a1]) fun t27 =>
  Option.bind (chk t27 fun a0 => Prim.run .mov [a0]) fun t6 =>
  Option.bind (chk t7 fun a0 => Prim.run .mov [a0]) fun t28 =>
  Option.bind (Prim.run (.fptr 2) [(.ptr [])]) fun t29 =>
  Option.bind (chk t9 fun a0 => chk t29 fun a1 => Prim.run .load [a0, a1]) fun t30 =>
  Option.bind (chk t28 fun a0 => chk t30 fun a1 => Prim.run (.bin .sub) [a0, a1]) fun t31 =>
  Option.bind (chk t31 fun a0 => Prim.run .mov [a0]) fun t7 =>
  Option.bind (chk t20 fun a0 => Prim.run (.bin .add) [a0, (.int .i64 1)]) fun t32 =>
  Option.bind (chk t32 fun a0 => Prim.run .mov [a0]) fun t20 =>
  WL112x2 t6 t7 t18 t19 t20 K)
 (K (.exit 0, [.undef, .undef, .undef, .undef, .undef, .undef, t6, t7, .undef, .undef, .undef, .undef, .undef, .undef, .undef, .undef, .undef, .undef, .undef, .undef, .undef, .undef, .undef, .undef, .undef, .undef, .undef, .undef, .undef, .undef, .undef, .undef, .undef, .undef, .undef]))) = some a) : WL112x2 t6 t7 t18 t19 t20 K = some a := loopK_of (Eq.trans (by kernel_rfl) h)
@[simp] theorem aL112x2 (t0 t1 t2 t3 t4 t5 t6 t7 t8 t9 t10 t11 t12 t13 t14 t15 t16 t17 t18 t19 t20 t21 t22 t23 t24 t25 t26 t27 t28 t29 t30 t31 t32 t33 t34 : PV) (K : RK) : againK T kL112x2 L112x2 K (.normal, [t0, t1, t2, t3, t4, t5, t6, t7, t8, t9, t10, t11, t12, t13, t14, t15, t16, t17, t18, t19, t20, t21, t22, t23, t24, t25, t26, t27, t28, t29, t30, t31, t32, t33, t34]) = WL112x2 t6 t7 t18 t19 t20 K := by kernel_rfl
@[simp] theorem lA112x1 (t1 t6 t7 : PV) (K : RK) : denK T A112x1 [.undef, t1, .undef, .undef, .undef, .undef, t6, t7, .undef, .undef, .undef, .undef, .undef, .undef, .undef, .undef, .undef, .undef, .undef, .undef, .undef, .undef, .undef, .undef, .undef, .undef, .undef, .undef, .undef, .undef, .undef, .undef, .undef, .undef, .undef] K =
  Option.bind (chk t1 fun a0 => Prim.run .mov [a0]) fun t18 =>
  Option.bind (chk t18 fun a0 => Prim.run .len [a0]) fun t19 =>
  Option.bind (Prim.run .mov [(.int .i64 0)]) fun t20 =>
  WL112x2 t6 t7 t18 t19 t20 (blockK 0 K) := by kernel_rfl
@[simp] theorem lB112x1 (t6 t7 : PV) (K : RK) : denK T B112x1 [.undef, .undef, .undef, .undef, .undef, .undef, t6, t7, .undef, .undef, .undef, .undef, .undef, .undef, .undef, .undef, .undef, .undef, .undef, .undef, .undef, .undef, .undef, .undef, .undef, .undef, .undef, .undef, .undef, .undef, .undef, .undef, .undef, .undef, .undef] K =
  Option.bind (chk t6 fun a0 => Prim.run .mov [a0]) fun t33 =>
  Option.bind (chk t7 fun a0 => Prim.run .mov [a0]) fun t34 =>
  Option.bind (chk t33 fun a0 => Prim.run .mov [a0]) fun t4 =>
  Option.bind (chk t34 fun a0 => Prim.run .mov [a0]) fun t5 =>
  K (.ret, [.undef, .undef, .undef, .undef, t4, t5, .undef, .undef, .undef, .undef, .undef, .undef, .undef, .undef, .undef, .undef, .undef, .undef, .undef, .undef, .undef, .undef, .undef, .undef, .undef, .undef, .undef, .undef, .undef, .undef, .undef, .undef, .undef, .undef, .undef]) := by kernel_rfl
theorem f112 (t0 t1 : PV) {rs : List PV} (h : (Option.bind (chk t0 fun a0 => Prim.run .mov [a0]) fun t2 =>
  Option.bind (Prim.run .mov [(.int .i64 0)]) fun t4 =>
  Option.bind (Prim.run .mov [(.int .i64 0)]) fun t5 =>
  Option.bind (chk t2 fun a0 => Prim.run .load [a0, (.ptr [])]) fun t10 =>
  Option.bind (chk t1 fun a0 => Prim.run .mov [a0]) fun t11 =>
  Option.bind (chk t10 fun a0 => chk t11 fun a1 => Option.bind (Ans T 111 [a0, a1]) fun rs => retV 1 rs) fun t12 =>
  Option.bind (chk t12 fun a0 => Prim.run (.un .not) [a0]) fun t13 =>
  chk t13 fun c0 => isB c0
 (Option.bind (Prim.run .mov [(.int .i64 0)]) fun t4 =>
  Option.bind (Prim.run .mov [(.int .i64 0)]) fun t5 =>
  allDef [t4, t5])
 (Option.bind (Prim.run (.fptr 0) [(.ptr [])]) fun t14 =>
  Option.bind (chk t2 fun a0 => chk t14 fun a1 => Prim.run .load [a0, a1]) fun t15 =>
  Option.bind (Prim.run (.fptr 1) [(.ptr [])]) fun t16 =>
  Option.bind (chk t2 fun a0 => chk t16 fun a1 => Prim.run .load [a0, a1]) fun t17 =>
  Option.bind (chk t15 fun a0 => Prim.run .mov [a0]) fun t6 =>
  Option.bind (chk t17 fun a0 => Prim.run .mov [a0]) fun t7 =>
  denK T A112x1 [.undef, t1, .undef, .undef, .undef, .undef, t6, t7, .undef, .undef, .undef, .undef, .undef, .undef, .undef, .undef, .undef, .undef, .undef, .undef, .undef, .undef, .undef, .undef, .undef, .undef, .undef, .undef, .undef, .undef, .undef, .undef, .undef, .undef, .undef] (seqK T B112x1 (endK [4, 5])))) = some rs) : Ans T 112 [t0, t1] = some rs := call_of (T := T) c112 (Eq.trans (by kernel_rfl) h)

end Go.Proofs.Ytaldhebldjphbaa

/-
  The law JournalCodes: what its functions compute, and that it answers true.
  Conditions: none.
-/
import Derived.Test.YtaldhebldjphbaaJrn1
namespace Go.Proofs.Ytaldhebldjphbaa
open Go.Vm
set_option maxRecDepth 100000
set_option linter.unusedVariables false
/-! vmfleet/vmfleetlaw42.JournalCodes -/
theorem f13 (t0 t1 : PV) {rs : List PV} (h : (Option.bind (chk t0 fun a0 => Prim.run .mov [a0]) fun t2 =>
  Option.bind (Prim.run .mov [(.bool false)]) fun t4 =>
  Option.bind (Prim.run (.fptr 1) [(.ptr [])]) fun t9 =>
  Option.bind (chk t2 fun a0 => chk t9 fun a1 => Prim.run .load [a0, a1]) fun t10 =>
  Option.bind (chk t10 fun a0 => Prim.run .len [a0]) fun t11 =>
  Option.bind (chk t11 fun a0 => Prim.run (.bin .gtr) [a0, (.int .i64 300)]) fun t12 =>
  Option.bind (chk t12 fun a0 => Prim.run .mov [a0]) fun t13 =>
  Option.bind (grd t13 false (chk t1 fun a0 => Prim.run .mov [a0])) fun t14 =>
  Option.bind (grd t13 false (chk t14 fun a0 => Prim.run .len [a0])) fun t15 =>
  Option.bind (grd t13 false (chk t15 fun a0 => Prim.run (.bin .gtr) [a0, (.int .i64 300)])) fun t16 =>
  Option.bind (chk t13 fun a0 => isB a0 (some (.bool true)) (chk t16 fun a1 => some a1)) fun t17 =>
  chk t17 fun c0 => isB c0
 (Option.bind (Option.bind (Ans T 51 []) fun rs => retV 1 rs) fun t18 =>
  Option.bind (chk t18 fun a0 => Prim.run .mov [a0]) fun t4 =>
  allDef [t4])
 (Option.bind (chk t2 fun a0 => Prim.run .load [a0, (.ptr [])]) fun t20 =>
  Option.bind (chk t20 fun a0 => Option.bind (Ans T 53 [a0]) fun rs => retV 1 rs) fun t21 =>
  Option.bind (chk t21 fun a0 => Option.bind (Ans T 52 [a0]) fun rs => retV 2 rs) fun t22 =>
  Option.bind (chk t22 fun a0 => Prim.run .mov [a0]) fun t19 =>
  Option.bind (chk t19 fun a0 => Prim.run (.ext 0) [a0]) fun t23 =>
  Option.bind (chk t19 fun a0 => Prim.run (.ext 1) [a0]) fun t24 =>
  Option.bind (Prim.run .mov [(.agg [(.int .i64 0), (.str []), (.int .i64 0), (.int .i64 0), (.agg [(.int .i64 0), (.int .i64 0), (.int .i64 0), (.int .i64 0)]), (.agg [(.int .i64 0), (.int .i64 0), (.bool false)])])]) fun t5 =>
  chk t23 fun a0 => chk t5 fun y0 => Option.bind (setP [] y0 a0) fun t5 =>
  Option.bind (chk t24 fun a0 => Prim.run .mov [a0]) fun t6 =>
  Option.bind (chk t1 fun a0 => Prim.run .mov [a0]) fun t26 =>
  Option.bind (chk t26 fun a0 => Option.bind (Ans T 52 [a0]) fun rs => retV 2 rs) fun t27 =>
  Option.bind (chk t27 fun a0 => Prim.run .mov [a0]) fun t25 =>
  Option.bind (chk t25 fun a0 => Prim.run (.ext 0) [a0]) fun t28 =>
  Option.bind (chk t25 fun a0 => Prim.run (.ext 1) [a0]) fun t29 =>
  Option.bind (Prim.run .mov [(.agg [(.int .i64 0), (.str []), (.int .i64 0), (.int .i64 0), (.agg [(.int .i64 0), (.int .i64 0), (.int .i64 0), (.int .i64 0)]), (.agg [(.int .i64 0), (.int .i64 0), (.bool false)])])]) fun t7 =>
  chk t28 fun a0 => chk t7 fun y0 => Option.bind (setP [] y0 a0) fun t7 =>
  Option.bind (chk t29 fun a0 => Prim.run .mov [a0]) fun t8 =>
  Option.bind (chk t6 fun a0 => Prim.run .mov [a0]) fun t30 =>
  Option.bind (chk t30 fun a0 => Prim.run .mov [a0]) fun t31 =>
  Option.bind (grd t31 true (chk t5 fun a0 => Prim.run .load [a0, (.ptr [])])) fun t32 =>
  Option.bind (grd t31 true (chk t2 fun a0 => Prim.run .load [a0, (.ptr [])])) fun t33 =>
  Option.bind (grd t31 true (chk t32 fun a0 => chk t33 fun a1 => Prim.run (.eqv false (.agg [(.int .i64 0), (.str []), (.int .i64 0), (.int .i64 0), (.agg [(.int .i64 0), (.int .i64 0), (.int .i64 0), (.int .i64 0)]), (.agg [(.int .i64 0), (.int .i64 0), (.bool false)])])) [a0, a1])) fun t34 =>
  Option.bind (chk t31 fun a0 => isB a0 (chk t34 fun a1 => some a1) (some (.bool false))) fun t35 =>
  Option.bind (chk t35 fun a0 => Prim.run .mov [a0]) fun t36 =>
  Option.bind (grd t36 true (chk t8 fun a0 => Prim.run .mov [a0])) fun t37 =>
  Option.bind (grd t36 true (chk t37 fun a0 => Prim.run (.un .not) [a0])) fun t38 =>
  Option.bind (grd t36 true (chk t38 fun a0 => Prim.run .mov [a0])) fun t39 =>
  Option.bind (grd t39 false (chk t7 fun a0 => Prim.run .load [a0, (.ptr [])])) fun t40 =>
  Option.bind (grd t39 false (chk t40 fun a0 => Option.bind (Ans T 53 [a0]) fun rs => retV 1 rs)) fun t41 =>
  Option.bind (grd t39 false (chk t1 fun a0 => Prim.run .mov [a0])) fun t42 =>
  Option.bind (grd t39 false (chk t41 fun a0 => chk t42 fun a1 => Prim.run (.bin .eql) [a0, a1])) fun t43 =>
  Option.bind (grd t36 true (chk t39 fun a0 => isB a0 (some (.bool true)) (chk t43 fun a1 => some a1))) fun t44 =>
  Option.bind (chk t36 fun a0 => isB a0 (chk t44 fun a1 => some a1) (some (.bool false))) fun t45 =>
  Option.bind (chk t45 fun a0 => Prim.run .mov [a0]) fun t46 =>
  Option.bind (grd t46 true (chk t8 fun a0 => Prim.run .mov [a0])) fun t47 =>
  Option.bind (grd t46 true (chk t47 fun a0 => Prim.run .mov [a0])) fun t48 =>
  Option.bind (grd t48 false (chk t7 fun a0 => Prim.run .load [a0, (.ptr [])])) fun t49 =>
  Option.bind (grd t48 false (Prim.run (.build [(.int .i64 0), (.str []), (.int .i64 0), (.int .i64 0), (.agg [(.int .i64 0), (.int .i64 0), (.int .i64 0), (.int .i64 0)]), (.agg [(.int .i64 0), (.int .i64 0), (.bool false)])] []) [])) fun t50 =>
  Option.bind (grd t48 false (chk t49 fun a0 => chk t50 fun a1 => Prim.run (.eqv false (.agg [(.int .i64 0), (.str []), (.int .i64 0), (.int .i64 0), (.agg [(.int .i64 0), (.int .i64 0), (.int .i64 0), (.int .i64 0)]), (.agg [(.int .i64 0), (.int .i64 0), (.bool false)])])) [a0, a1])) fun t51 =>
  Option.bind (grd t46 true (chk t48 fun a0 => isB a0 (some (.bool true)) (chk t51 fun a1 => some a1))) fun t52 =>
  Option.bind (chk t46 fun a0 => isB a0 (chk t52 fun a1 => some a1) (some (.bool false))) fun t53 =>
  Option.bind (chk t53 fun a0 => Prim.run .mov [a0]) fun t54 =>
  Option.bind (grd t54 true (Option.bind (Ans T 51 []) fun rs => retV 1 rs)) fun t55 =>
  Option.bind (chk t54 fun a0 => isB a0 (chk t55 fun a1 => some a1) (some (.bool false))) fun t56 =>
  Option.bind (chk t56 fun a0 => Prim.run .mov [a0]) fun t4 =>
  allDef [t4])) = some rs) : Ans T 13 [t0, t1] = some rs := call_of (T := T) c13 (Eq.trans (by kernel_rfl) h)
/-! vmfleet/eventlog.Seal -/
theorem f47 (t0 t1 : PV) {rs : List PV} (h : (Option.bind (Prim.run .mov [(.str [])]) fun t4 =>
  Option.bind (chk t0 fun a0 => Prim.run .mov [a0]) fun t6 =>
  Option.bind (chk t6 fun a0 => Option.bind (Ans T 66 [a0]) fun rs => retV 1 rs) fun t7 =>
  Option.bind (chk t1 fun a0 => Prim.run .mov [a0]) fun t8 =>
  Option.bind (chk t8 fun a0 => Option.bind (Ans T 71 [a0]) fun rs => retV 1 rs) fun t9 =>
  Option.bind (chk t7 fun a0 => chk t9 fun a1 => Prim.run (.bin .add) [a0, a1]) fun t10 =>
  Option.bind (chk t10 fun a0 => Prim.run .mov [a0]) fun t5 =>
  Option.bind (chk t5 fun a0 => Prim.run .mov [a0]) fun t11 =>
  Option.bind (chk t5 fun a0 => Prim.run .mov [a0]) fun t12 =>
  Option.bind (chk t12 fun a0 => Option.bind (Ans T 72 [a0]) fun rs => retV 1 rs) fun t13 =>
  Option.bind (chk t11 fun a0 => chk t13 fun a1 => Prim.run (.bin .add) [a0, a1]) fun t14 =>
  Option.bind (chk t14 fun a0 => Prim.run .mov [a0]) fun t4 =>
  allDef [t4]) = some rs) : Ans T 47 [t0, t1] = some rs := call_of (T := T) c47 (Eq.trans (by kernel_rfl) h)
/-! vmfleet/eventlog.Open -/
theorem f48 (t0 : PV) {rs : List PV} (h : (Option.bind (Prim.run .mov [(.int .u64 0)]) fun t2 =>
  Option.bind (Prim.run .mov [(.str [])]) fun t3 =>
  Option.bind (Prim.run .mov [(.int .i64 0)]) fun t4 =>
  Option.bind (chk t0 fun a0 => Prim.run .mov [a0]) fun t8 =>
  Option.bind (chk t8 fun a0 => Prim.run (.build [(.str []), (.bool false)] [0, 1]) [a0, (.bool true)]) fun t9 =>
  Option.bind (chk t9 fun a0 => Prim.run .mov [a0]) fun t10 =>
  Option.bind (Prim.run .mov [(.ptr [])]) fun t5 =>
  Option.bind (chk t5 fun a0 => Prim.run .mov [a0]) fun t11 =>
  asPath t11 fun a0q => chk t10 fun a0r => Option.bind (getP a0q a0r) fun a0 => Option.bind (Ans T 73 [a0]) fun rs1 => consK (rs1.drop 1) fun y0 ys0 => asPath t11 fun q0 => chk t10 fun x0 => Option.bind (setP q0 x0 y0) fun t10 => nilK ys0 (Option.bind (chk t5 fun a0 => Prim.run .mov [a0]) fun t13 =>
  asPath t13 fun a0q => chk t10 fun a0r => Option.bind (getP a0q a0r) fun a0 => Option.bind (Ans T 74 [a0]) fun rs2 => consK (rs2.drop 1) fun y0 ys0 => asPath t13 fun q0 => chk t10 fun x0 => Option.bind (setP q0 x0 y0) fun t10 => nilK ys0 (Option.bind (chk (resultOf 1 rs1) fun a0 => Prim.run .mov [a0]) fun t6 =>
  Option.bind (chk (resultOf 1 rs2) fun a0 => Prim.run .mov [a0]) fun t7 =>
  Option.bind (chk t5 fun a0 => Prim.run .mov [a0]) fun t15 =>
  Option.bind (chk t15 fun a0 => Prim.run .mov [a0]) fun t16 =>
  Option.bind (chk t16 fun a0 => Prim.run (.fptr 1) [a0]) fun t17 =>
  Option.bind (chk t10 fun a0 => chk t17 fun a1 => Prim.run .load [a0, a1]) fun t18 =>
  Option.bind (chk t18 fun a0 => Prim.run (.un .not) [a0]) fun t19 =>
  Option.bind (chk t19 fun a0 => Prim.run .mov [a0]) fun t20 =>
  Option.bind (grd t20 false (chk t5 fun a0 => Prim.run .mov [a0])) fun t21 =>
  Option.bind (grd t20 false (chk t21 fun a0 => Prim.run .mov [a0])) fun t22 =>
  Option.bind (grd t20 false (chk t22 fun a0 => Prim.run (.fptr 0) [a0])) fun t23 =>
  Option.bind (grd t20 false (chk t10 fun a0 => chk t23 fun a1 => Prim.run .load [a0, a1])) fun t24 =>
  Option.bind (grd t20 false (chk t24 fun a0 => Prim.run .len [a0])) fun t25 =>
  Option.bind (grd t20 false (chk t25 fun a0 => Prim.run (.bin .neq) [a0, (.int .i64 8)])) fun t26 =>
  Option.bind (chk t20 fun a0 => isB a0 (some (.bool true)) (chk t26 fun a1 => some a1)) fun t27 =>
  chk t27 fun c0 => isB c0
 (Option.bind (Prim.run .mov [(.int .u64 0)]) fun t2 =>
  Option.bind (Prim.run .mov [(.str [])]) fun t3 =>
  Option.bind (Prim.run .mov [(.int .i64 1900)]) fun t4 =>
  allDef [t2, t3, t4])
 (Option.bind (chk t5 fun a0 => Prim.run .mov [a0]) fun t28 =>
  Option.bind (chk t28 fun a0 => Prim.run .mov [a0]) fun t29 =>
  Option.bind (chk t29 fun a0 => Prim.run (.fptr 0) [a0]) fun t30 =>
  Option.bind (chk t10 fun a0 => chk t30 fun a1 => Prim.run .load [a0, a1]) fun t31 =>
  Option.bind (chk t0 fun a0 => Prim.run .mov [a0]) fun t32 =>
  Option.bind (chk t0 fun a0 => Prim.run .mov [a0]) fun t33 =>
  Option.bind (chk t33 fun a0 => Prim.run .len [a0]) fun t34 =>
  Option.bind (chk t34 fun a0 => Prim.run (.bin .sub) [a0, (.int .i64 8)]) fun t35 =>
  Option.bind (chk t32 fun a0 => chk t35 fun a1 => Prim.run (.sl false true) [a0, a1]) fun t36 =>
  Option.bind (chk t36 fun a0 => Option.bind (Ans T 72 [a0]) fun rs => retV 1 rs) fun t37 =>
  Option.bind (chk t31 fun a0 => chk t37 fun a1 => Prim.run (.bin .neq) [a0, a1]) fun t38 =>
  chk t38 fun c0 => isB c0
 (Option.bind (Prim.run .mov [(.int .u64 0)]) fun t2 =>
  Option.bind (Prim.run .mov [(.str [])]) fun t3 =>
  Option.bind (Prim.run .mov [(.int .i64 1903)]) fun t4 =>
  allDef [t2, t3, t4])
 (Option.bind (chk t6 fun a0 => Prim.run .mov [a0]) fun t39 =>
  Option.bind (chk t7 fun a0 => Prim.run .mov [a0]) fun t40 =>
  Option.bind (chk t39 fun a0 => Prim.run .mov [a0]) fun t2 =>
  Option.bind (chk t40 fun a0 => Prim.run .mov [a0]) fun t3 =>
  Option.bind (Prim.run .mov [(.int .i64 0)]) fun t4 =>
  allDef [t2, t3, t4]))))) = some rs) : Ans T 48 [t0] = some rs := call_of (T := T) c48 (Eq.trans (by kernel_rfl) h)
/-! vmfleet/vmfleetlaw42.awake -/
theorem f51 {rs : List PV} (h : (Option.bind (Prim.run .mov [(.bool false)]) fun t0 =>
  Option.bind (Prim.run (.build [(.int .i64 0), (.int .i64 0), (.bool false)] [0, 1, 2]) [(.int .i64 10), (.int .i64 10), (.bool true)]) fun t13 =>
  Option.bind (Prim.run .mov [(.agg [(.int .i64 0), (.int .i64 0), (.bool false)])]) fun t1 =>
  chk t13 fun a0 => chk t1 fun y0 => Option.bind (setP [] y0 a0) fun t1 =>
  Option.bind (chk t1 fun a0 => Prim.run .load [a0, (.ptr [])]) fun t14 =>
  Option.bind (chk t14 fun a1 => Prim.run (.build [(.int .i64 0), (.str []), (.int .i64 0), (.int .i64 0), (.agg [(.int .i64 0), (.int .i64 0), (.int .i64 0), (.int .i64 0)]), (.agg [(.int .i64 0), (.int .i64 0), (.bool false)])] [0, 5]) [(.int .i64 4), a1]) fun t15 =>
  Option.bind (Prim.run .mov [(.agg [(.int .i64 0), (.str []), (.int .i64 0), (.int .i64 0), (.agg [(.int .i64 0), (.int .i64 0), (.int .i64 0), (.int .i64 0)]), (.agg [(.int .i64 0), (.int .i64 0), (.bool false)])])]) fun t2 =>
  chk t15 fun a0 => chk t2 fun y0 => Option.bind (setP [] y0 a0) fun t2 =>
  Option.bind (chk t2 fun a0 => Prim.run .load [a0, (.ptr [])]) fun t17 =>
  Option.bind (chk t17 fun a1 => Option.bind (Ans T 54 [(.str []), a1]) fun rs => retV 2 rs) fun t18 =>
  Option.bind (chk t18 fun a0 => Prim.run .mov [a0]) fun t16 =>
  Option.bind (chk t16 fun a0 => Prim.run (.ext 0) [a0]) fun t19 =>
  Option.bind (chk t16 fun a0 => Prim.run (.ext 1) [a0]) fun t20 =>
  Option.bind (chk t19 fun a0 => Prim.run .mov [a0]) fun t3 =>
  Option.bind (chk t20 fun a0 => Prim.run .mov [a0]) fun t4 =>
  Option.bind (chk t3 fun a0 => Prim.run .mov [a0]) fun t22 =>
  Option.bind (chk t22 fun a0 => Option.bind (Ans T 79 [a0]) fun rs => retV 2 rs) fun t23 =>
  Option.bind (chk t23 fun a0 => Prim.run .mov [a0]) fun t21 =>
  Option.bind (chk t21 fun a0 => Prim.run (.ext 0) [a0]) fun t24 =>
  Option.bind (chk t21 fun a0 => Prim.run (.ext 1) [a0]) fun t25 =>
  Option.bind (chk t24 fun a0 => Prim.run .mov [a0]) fun t5 =>
  Option.bind (chk t25 fun a0 => Prim.run .mov [a0]) fun t6 =>
  Option.bind (chk t3 fun a0 => Prim.run .mov [a0]) fun t27 =>
  Option.bind (chk t27 fun a0 => Option.bind (Ans T 57 [a0]) fun rs => retV 2 rs) fun t28 =>
  Option.bind (chk t28 fun a0 => Prim.run .mov [a0]) fun t26 =>
  Option.bind (chk t26 fun a0 => Prim.run (.ext 0) [a0]) fun t29 =>
  Option.bind (chk t26 fun a0 => Prim.run (.ext 1) [a0]) fun t30 =>
  Option.bind (Prim.run .mov [(.agg [(.slice true []), (.slice true [])])]) fun t7 =>
  chk t29 fun a0 => chk t7 fun y0 => Option.bind (setP [] y0 a0) fun t7 =>
  Option.bind (chk t30 fun a0 => Prim.run .mov [a0]) fun t8 =>
  Option.bind (chk t2 fun a0 => Prim.run .load [a0, (.ptr [])]) fun t32 =>
  Option.bind (chk t32 fun a0 => Option.bind (Ans T 53 [a0]) fun rs => retV 1 rs) fun t33 =>
  Option.bind (chk t33 fun a0 => Option.bind (Ans T 52 [a0]) fun rs => retV 2 rs) fun t34 =>
  Option.bind (chk t34 fun a0 => Prim.run .mov [a0]) fun t31 =>
  Option.bind (chk t31 fun a0 => Prim.run (.ext 0) [a0]) fun t35 =>
  Option.bind (chk t31 fun a0 => Prim.run (.ext 1) [a0]) fun t36 =>
  Option.bind (Prim.run .mov [(.agg [(.int .i64 0), (.str []), (.int .i64 0), (.int .i64 0), (.agg [(.int .i64 0), (.int .i64 0), (.int .i64 0), (.int .i64 0)]), (.agg [(.int .i64 0), (.int .i64 0), (.bool false)])])]) fun t9 =>
  chk t35 fun a0 => chk t9 fun y0 => Option.bind (setP [] y0 a0) fun t9 =>
  Option.bind (chk t36 fun a0 => Prim.run .mov [a0]) fun t10 =>
  Option.bind (chk t4 fun a0 => Prim.run .mov [a0]) fun t37 =>
  Option.bind (chk t37 fun a0 => Prim.run (.un .not) [a0]) fun t38 =>
  Option.bind (chk t38 fun a0 => Prim.run .mov [a0]) fun t39 =>
  Option.bind (grd t39 false (chk t3 fun a0 => Prim.run .mov [a0])) fun t40 =>
  Option.bind (grd t39 false (chk t40 fun a0 => Prim.run .len [a0])) fun t41 =>
  Option.bind (grd t39 false (chk t41 fun a0 => Prim.run (.bin .eql) [a0, (.int .i64 0)])) fun t42 =>
  Option.bind (chk t39 fun a0 => isB a0 (some (.bool true)) (chk t42 fun a1 => some a1)) fun t43 =>
  Option.bind (chk t43 fun a0 => Prim.run .mov [a0]) fun t44 =>
  Option.bind (grd t44 false (chk t5 fun a0 => Prim.run .mov [a0])) fun t45 =>
  Option.bind (grd t44 false (chk t45 fun a0 => Prim.run .len [a0])) fun t46 =>
  Option.bind (grd t44 false (chk t46 fun a0 => Prim.run (.bin .neq) [a0, (.int .i64 1)])) fun t47 =>
  Option.bind (chk t44 fun a0 => isB a0 (some (.bool true)) (chk t47 fun a1 => some a1)) fun t48 =>
  Option.bind (chk t48 fun a0 => Prim.run .mov [a0]) fun t49 =>
  Option.bind (grd t49 false (chk t6 fun a0 => Prim.run .mov [a0])) fun t50 =>
  Option.bind (grd t49 false (chk t3 fun a0 => Prim.run .mov [a0])) fun t51 =>
  Option.bind (grd t49 false (chk t51 fun a0 => Prim.run .len [a0])) fun t52 =>
  Option.bind (grd t49 false (chk t50 fun a0 => chk t52 fun a1 => Prim.run (.bin .neq) [a0, a1])) fun t53 =>
  Option.bind (chk t49 fun a0 => isB a0 (some (.bool true)) (chk t53 fun a1 => some a1)) fun t54 =>
  Option.bind (chk t54 fun a0 => Prim.run .mov [a0]) fun t55 =>
  Option.bind (grd t55 false (chk t8 fun a0 => Prim.run .mov [a0])) fun t56 =>
  Option.bind (grd t55 false (chk t3 fun a0 => Prim.run .mov [a0])) fun t57 =>
  Option.bind (grd t55 false (chk t56 fun a0 => chk t57 fun a1 => Prim.run (.bin .neq) [a0, a1])) fun t58 =>
  Option.bind (chk t55 fun a0 => isB a0 (some (.bool true)) (chk t58 fun a1 => some a1)) fun t59 =>
  Option.bind (chk t59 fun a0 => Prim.run .mov [a0]) fun t60 =>
  Option.bind (grd t60 false (Prim.run (.fptr 0) [(.ptr [])])) fun t61 =>
  Option.bind (grd t60 false (chk t7 fun a0 => chk t61 fun a1 => Prim.run .load [a0, a1])) fun t62 =>
  Option.bind (grd t60 false (chk t62 fun a0 => Prim.run .len [a0])) fun t63 =>
  Option.bind (grd t60 false (chk t63 fun a0 => Prim.run (.bin .neq) [a0, (.int .i64 1)])) fun t64 =>
  Option.bind (chk t60 fun a0 => isB a0 (some (.bool true)) (chk t64 fun a1 => some a1)) fun t65 =>
  Option.bind (chk t65 fun a0 => Prim.run .mov [a0]) fun t66 =>
  Option.bind (grd t66 false (chk t10 fun a0 => Prim.run .mov [a0])) fun t67 =>
  Option.bind (grd t66 false (chk t67 fun a0 => Prim.run (.un .not) [a0])) fun t68 =>
  Option.bind (chk t66 fun a0 => isB a0 (some (.bool true)) (chk t68 fun a1 => some a1)) fun t69 =>
  Option.bind (chk t69 fun a0 => Prim.run .mov [a0]) fun t70 =>
  Option.bind (grd t70 false (chk t9 fun a0 => Prim.run .load [a0, (.ptr [])])) fun t71 =>
  Option.bind (grd t70 false (chk t2 fun a0 => Prim.run .load [a0, (.ptr [])])) fun t72 =>
  Option.bind (grd t70 false (chk t71 fun a0 => chk t72 fun a1 => Prim.run (.eqv true (.agg [(.int .i64 0), (.str []), (.int .i64 0), (.int .i64 0), (.agg [(.int .i64 0), (.int .i64 0), (.int .i64 0), (.int .i64 0)]), (.agg [(.int .i64 0), (.int .i64 0), (.bool false)])])) [a0, a1])) fun t73 =>
  Option.bind (chk t70 fun a0 => isB a0 (some (.bool true)) (chk t73 fun a1 => some a1)) fun t74 =>
  chk t74 fun c0 => isB c0
 (Option.bind (Prim.run .mov [(.bool false)]) fun t0 =>
  allDef [t0])
 (Option.bind (chk t3 fun a0 => Prim.run .mov [a0]) fun t76 =>
  Option.bind (chk t3 fun a0 => Prim.run .mov [a0]) fun t77 =>
  Option.bind (chk t77 fun a0 => Prim.run .len [a0]) fun t78 =>
  Option.bind (chk t78 fun a0 => Prim.run (.bin .sub) [a0, (.int .i64 1)]) fun t79 =>
  Option.bind (chk t76 fun a0 => chk t79 fun a1 => Prim.run (.sl false true) [a0, a1]) fun t80 =>
  Option.bind (chk t80 fun a0 => Option.bind (Ans T 79 [a0]) fun rs => retV 2 rs) fun t81 =>
  Option.bind (chk t81 fun a0 => Prim.run .mov [a0]) fun t75 =>
  Option.bind (chk t75 fun a0 => Prim.run (.ext 0) [a0]) fun t82 =>
  Option.bind (chk t75 fun a0 => Prim.run (.ext 1) [a0]) fun t83 =>
  Option.bind (chk t82 fun a0 => Prim.run .mov [a0]) fun t11 =>
  Option.bind (chk t83 fun a0 => Prim.run .mov [a0]) fun t12 =>
  Option.bind (chk t11 fun a0 => Prim.run .mov [a0]) fun t84 =>
  Option.bind (chk t84 fun a0 => Prim.run .len [a0]) fun t85 =>
  Option.bind (chk t85 fun a0 => Prim.run (.bin .eql) [a0, (.int .i64 0)]) fun t86 =>
  Option.bind (chk t86 fun a0 => Prim.run .mov [a0]) fun t87 =>
  Option.bind (grd t87 true (chk t12 fun a0 => Prim.run .mov [a0])) fun t88 =>
  Option.bind (grd t87 true (chk t88 fun a0 => Prim.run (.bin .eql) [a0, (.int .i64 0)])) fun t89 =>
  Option.bind (chk t87 fun a0 => isB a0 (chk t89 fun a1 => some a1) (some (.bool false))) fun t90 =>
  Option.bind (chk t90 fun a0 => Prim.run .mov [a0]) fun t91 =>
  Option.bind (grd t91 true (chk t7 fun a0 => Prim.run .load [a0, (.ptr [])])) fun t92 =>
  Option.bind (grd t91 true (chk t92 fun a0 => Option.bind (Ans T 80 [a0]) fun rs => retV 1 rs)) fun t93 =>
  Option.bind (chk t91 fun a0 => isB a0 (chk t93 fun a1 => some a1) (some (.bool false))) fun t94 =>
  Option.bind (chk t94 fun a0 => Prim.run .mov [a0]) fun t95 =>
  Option.bind (grd t95 true (Prim.run (.fptr 0) [(.ptr [])])) fun t96 =>
  Option.bind (grd t95 true (chk t7 fun a0 => chk t96 fun a1 => Prim.run .load [a0, a1])) fun t97 =>
  Option.bind (grd t95 true (chk t97 fun a0 => Prim.run (.iptr [0]) [a0, (.int .i64 0)])) fun t98 =>
  Option.bind (grd t95 true (chk t7 fun a0 => chk t98 fun a1 => Prim.run .load [a0, a1])) fun t99 =>
  Option.bind (grd t95 true (chk t1 fun a0 => Prim.run .load [a0, (.ptr [])])) fun t100 =>
  Option.bind (grd t95 true (chk t99 fun a0 => chk t100 fun a1 => Prim.run (.eqv false (.agg [(.int .i64 0), (.int .i64 0), (.bool false)])) [a0, a1])) fun t101 =>
  Option.bind (chk t95 fun a0 => isB a0 (chk t101 fun a1 => some a1) (some (.bool false))) fun t102 =>
  Option.bind (chk t102 fun a0 => Prim.run .mov [a0]) fun t0 =>
  allDef [t0])) = some rs) : Ans T 51 [] = some rs := call_of (T := T) c51 (Eq.trans (by kernel_rfl) h)
/-! vmfleet/journal.Decode -/
@[simp] theorem lA52x1 (t2 t4 t5 t11 : PV) (K : RK) : denK T A52x1 [.undef, .undef, t2, .undef, t4, t5, .undef, .undef, .undef, .undef, .undef, t11, .undef, .undef, .undef, .undef, .undef, .undef, .undef, .undef, .undef, .undef, .undef, .undef, .undef, .undef, .undef, .undef, .undef, .undef, .undef, .undef, .undef, .undef, .undef, .undef, .undef, .undef, .undef, .undef, .undef, .undef, .undef, .undef, .undef, .undef, .undef, .undef, .undef, .undef, .undef, .undef, .undef, .undef, .undef, .undef, .undef, .undef, .undef, .undef, .undef, .undef, .undef, .undef, .undef, .undef, .undef, .undef, .undef] K =
  Option.bind (chk t4 fun a0 => Prim.run .mov [a0]) fun t12 =>
  asPath t12 fun a0q => chk t11 fun a0r => Option.bind (getP a0q a0r) fun a0 => Option.bind (Ans T 81 [a0]) fun rs2 => consK (rs2.drop 1) fun y0 ys0 => asPath t12 fun q0 => chk t11 fun x0 => Option.bind (setP q0 x0 y0) fun t11 => nilK ys0 (Option.bind (Prim.run (.fptr 0) [(.ptr [])]) fun t14 =>
  chk (resultOf 1 rs2) fun a0 => asPath t14 fun q0 => chk t5 fun y0 => Option.bind (setP q0 y0 a0) fun t5 =>
  K (.normal, [.undef, .undef, t2, .undef, t4, t5, .undef, .undef, .undef, .undef, .undef, t11, .undef, .undef, .undef, .undef, .undef, .undef, .undef, .undef, .undef, .undef, .undef, .undef, .undef, .undef, .undef, .undef, .undef, .undef, .undef, .undef, .undef, .undef, .undef, .undef, .undef, .undef, .undef, .undef, .undef, .undef, .undef, .undef, .undef, .undef, .undef, .undef, .undef, .undef, .undef, .undef, .undef, .undef, .undef, .undef, .undef, .undef, .undef, .undef, .undef, .undef, .undef, .undef, .undef, .undef, .undef, .undef, .undef])) := by kernel_rfl
@[simp] theorem lA52x3 (t2 t4 t5 t11 : PV) (K : RK) : denK T A52x3 [.undef, .undef, t2, .undef, t4, t5, .undef, .undef, .undef, .undef, .undef, t11, .undef, .undef, .undef, .undef, .undef, .undef, .undef, .undef, .undef, .undef, .undef, .undef, .undef, .undef, .undef, .undef, .undef, .undef, .undef, .undef, .undef, .undef, .undef, .undef, .undef, .undef, .undef, .undef, .undef, .undef, .undef, .undef, .undef, .undef, .undef, .undef, .undef, .undef, .undef, .undef, .undef, .undef, .undef, .undef, .undef, .undef, .undef, .undef, .undef, .undef, .undef, .undef, .undef, .undef, .undef, .undef, .undef] K =
  Option.bind (chk t4 fun a0 => Prim.run .mov [a0]) fun t15 =>
  asPath t15 fun a0q => chk t11 fun a0r => Option.bind (getP a0q a0r) fun a0 => Option.bind (Ans T 82 [a0]) fun rs4 => consK (rs4.drop 1) fun y0 ys0 => asPath t15 fun q0 => chk t11 fun x0 => Option.bind (setP q0 x0 y0) fun t11 => nilK ys0 (Option.bind (Prim.run (.fptr 1) [(.ptr [])]) fun t17 =>
  chk (resultOf 1 rs4) fun a0 => asPath t17 fun q0 => chk t5 fun y0 => Option.bind (setP q0 y0 a0) fun t5 =>
  K (.normal, [.undef, .undef, t2, .undef, t4, t5, .undef, .undef, .undef, .undef, .undef, t11, .undef, .undef, .undef, .undef, .undef, .undef, .undef, .undef, .undef, .undef, .undef, .undef, .undef, .undef, .undef, .undef, .undef, .undef, .undef, .undef, .undef, .undef, .undef, .undef, .undef, .undef, .undef, .undef, .undef, .undef, .undef, .undef, .undef, .undef, .undef, .undef, .undef, .undef, .undef, .undef, .undef, .undef, .undef, .undef, .undef, .undef, .undef, .undef, .undef, .undef, .undef, .undef, .undef, .undef, .undef, .undef, .undef])) := by kernel_rfl
@[simp] theorem lA52x6 (t2 t4 t5 t6 t11 : PV) (K : RK) : denK T A52x6 [.undef, .undef, t2, .undef, t4, t5, t6, .undef, .undef, .undef, .undef, t11, .undef, .undef, .undef, .undef, .undef, .undef, .undef, .undef, .undef, .undef, .undef, .undef, .undef, .undef, .undef, .undef, .undef, .undef, .undef, .undef, .undef, .undef, .undef, .undef, .undef, .undef, .undef, .undef, .undef, .undef, .undef, .undef, .undef, .undef, .undef, .undef, .undef, .undef, .undef, .undef, .undef, .undef, .undef, .undef, .undef, .undef, .undef, .undef, .undef, .undef, .undef, .undef, .undef, .undef, .undef, .undef, .undef] K =
  Option.bind (Prim.run (.fptr 2) [(.ptr [])]) fun t18 =>
  Option.bind (Prim.run (.fptr 3) [(.ptr [])]) fun t19 =>
  Option.bind (Prim.run (.fptr 4) [(.ptr [])]) fun t20 =>
  Option.bind (chk t20 fun a0 => Prim.run (.fptr 0) [a0]) fun t21 =>
  Option.bind (Prim.run (.fptr 4) [(.ptr [])]) fun t22 =>
  Option.bind (chk t22 fun a0 => Prim.run (.fptr 1) [a0]) fun t23 =>
  Option.bind (Prim.run (.fptr 4) [(.ptr [])]) fun t24 =>
  Option.bind (chk t24 fun a0 => Prim.run (.fptr 2) [a0]) fun t25 =>
  Option.bind (Prim.run (.fptr 4) [(.ptr [])]) fun t26 =>
  Option.bind (chk t26 fun a0 => Prim.run (.fptr 3) [a0]) fun t27 =>
  Option.bind (Prim.run (.fptr 5) [(.ptr [])]) fun t28 =>
  Option.bind (chk t28 fun a0 => Prim.run (.fptr 0) [a0]) fun t29 =>
  Option.bind (Prim.run (.fptr 5) [(.ptr [])]) fun t30 =>
  Option.bind (chk t30 fun a0 => Prim.run (.fptr 1) [a0]) fun t31 =>
  Option.bind (chk t18 fun a0 => chk t19 fun a1 => chk t21 fun a2 => chk t23 fun a3 => chk t25 fun a4 => chk t27 fun a5 => chk t29 fun a6 => chk t31 fun a7 => chk t6 fun a8 => Prim.run (.idx 9) [a0, a1, a2, a3, a4, a5, a6, a7, a8]) fun t32 =>
  Option.bind (chk t32 fun a0 => Prim.run .len [a0]) fun t33 =>
  Option.bind (Prim.run .mov [(.int .i64 0)]) fun t34 =>
  K (.normal, [.undef, .undef, t2, .undef, t4, t5, t6, .undef, .undef, .undef, .undef, t11, .undef, .undef, .undef, .undef, .undef, .undef, .undef, .undef, .undef, .undef, .undef, .undef, .undef, .undef, .undef, .undef, .undef, .undef, .undef, .undef, t32, t33, t34, .undef, .undef, .undef, .undef, .undef, .undef, .undef, .undef, .undef, .undef, .undef, .undef, .undef, .undef, .undef, .undef, .undef, .undef, .undef, .undef, .undef, .undef, .undef, .undef, .undef, .undef, .undef, .undef, .undef, .undef, .undef, .undef, .undef, .undef]) := by kernel_rfl
noncomputable def WL52x7 (t2 t4 t5 t6 t11 t32 t33 t34 : PV) (K : RK) : Option (List PV) := loopK T kL52x7 L52x7 [.undef, .undef, t2, .undef, t4, t5, t6, .undef, .undef, .undef, .undef, t11, .undef, .undef, .undef, .undef, .undef, .undef, .undef, .undef, .undef, .undef, .undef, .undef, .undef, .undef, .undef, .undef, .undef, .undef, .undef, .undef, t32, t33, t34, .undef, .undef, .undef, .undef, .undef, .undef, .undef, .undef, .undef, .undef, .undef, .undef, .undef, .undef, .undef, .undef, .undef, .undef, .undef, .undef, .undef, .undef, .undef, .undef, .undef, .undef, .undef, .undef, .undef, .undef, .undef, .undef, .undef, .undef] K
theorem oL52x7 (t2 t4 t5 t6 t11 t32 t33 t34 : PV) (K : RK) {a : List PV} (h : (Option.bind (chk t34 fun a0 => chk t33 fun a1 => Prim.run (.bin .lss) [a0, a1]) fun t35 =>
  chk t35 fun c0 => isB c0
 (Option.bind (chk t32 fun a0 => chk t34 fun a1 => Prim.run .index [a0, a1]) fun t36 =>
  Option.bind (chk t36 fun a0 => Prim.run .mov [a0]) fun t37 =>
  Option.bind (chk t37 fun a0 => Prim.run .mov [a0]) fun t8 =>
  Option.bind (chk t8 fun a0 => Prim.run .mov [a0]) fun t38 =>
  Option.bind (chk t4 fun a0 => Prim.run .mov [a0]) fun t39 =>
  asPath t39 fun a0q => chk t11 fun a0r => Option.bind (getP a0q a0r) fun a0 => Option.bind (Ans T 81 [a0]) fun rs8 => consK (rs8.drop 1) fun y0 ys0 => asPath t39 fun q0 => chk t11 fun x0 => Option.bind (setP q0 x0 y0) fun t11 => nilK ys0 (Option.bind (chk t38 fun a0 => Prim.run .mov [a0]) fun t41 =>
  chk (resultOf 1 rs8) fun a0 => chk t41 fun j0 => chk t5 fun y0 => Option.bind (pickM [(some [2]), (some [3]), (some [4, 0]), (some [4, 1]), (some [4, 2]), (some [4, 3]), (some [5, 0]), (some [5, 1]), none] j0 y0 a0) fun t5 => chk t6 fun y1 => Option.bind (pickM [none, none, none, none, none, none, none, none, (some [])] j0 y1 a0) fun t6 => Option.bind (chk t34 fun a0 => Prim.run (.bin .add) [a0, (.int .i64 1)]) fun t42 =>
  Option.bind (chk t42 fun a0 => Prim.run .mov [a0]) fun t34 =>
  WL52x7 t2 t4 t5 t6 t11 t32 t33 t34 K))
 (K (.exit 0, [.undef, .undef, t2, .undef, t4, t5, t6, .undef, .undef, .undef, .undef, t11, .undef, .undef, .undef, .undef, .undef, .undef, .undef, .undef, .undef, .undef, .undef, .undef, .undef, .undef, .undef, .undef, .undef, .undef, .undef, .undef, .undef, .undef, .undef, .undef, .undef, .undef, .undef, .undef, .undef, .undef, .undef, .undef, .undef, .undef, .undef, .undef, .undef, .undef, .undef, .undef, .undef, .undef, .undef, .undef, .undef, .undef, .undef, .undef, .undef, .undef, .undef, .undef, .undef, .undef, .undef, .undef, .undef]))) = some a) : WL52x7 t2 t4 t5 t6 t11 t32 t33 t34 K = some a := loopK_of (Eq.trans (by kernel_rfl) h)
@[simp] theorem aL52x7 (t0 t1 t2 t3 t4 t5 t6 t7 t8 t9 t10 t11 t12 t13 t14 t15 t16 t17 t18 t19 t20 t21 t22 t23 t24 t25 t26 t27 t28 t29 t30 t31 t32 t33 t34 t35 t36 t37 t38 t39 t40 t41 t42 t43 t44 t45 t46 t47 t48 t49 t50 t51 t52 t53 t54 t55 t56 t57 t58 t59 t60 t61 t62 t63 t64 t65 t66 t67 t68 : PV) (K : RK) : againK T kL52x7 L52x7 K (.normal, [t0, t1, t2, t3, t4, t5, t6, t7, t8, t9, t10, t11, t12, t13, t14, t15, t16, t17, t18, t19, t20, t21, t22, t23, t24, t25, t26, t27, t28, t29, t30, t31, t32, t33, t34, t35, t36, t37, t38, t39, t40, t41, t42, t43, t44, t45, t46, t47, t48, t49, t50, t51, t52, t53, t54, t55, t56, t57, t58, t59, t60, t61, t62, t63, t64, t65, t66, t67, t68]) = WL52x7 t2 t4 t5 t6 t11 t32 t33 t34 K := by kernel_rfl
@[simp] theorem lB52x6 (t2 t4 t5 t6 t11 t32 t33 t34 : PV) (K : RK) : denK T B52x6 [.undef, .undef, t2, .undef, t4, t5, t6, .undef, .undef, .undef, .undef, t11, .undef, .undef, .undef, .undef, .undef, .undef, .undef, .undef, .undef, .undef, .undef, .undef, .undef, .undef, .undef, .undef, .undef, .undef, .undef, .undef, t32, t33, t34, .undef, .undef, .undef, .undef, .undef, .undef, .undef, .undef, .undef, .undef, .undef, .undef, .undef, .undef, .undef, .undef, .undef, .undef, .undef, .undef, .undef, .undef, .undef, .undef, .undef, .undef, .undef, .undef, .undef, .undef, .undef, .undef, .undef, .undef] K =
  WL52x7 t2 t4 t5 t6 t11 t32 t33 t34 (blockK 0 K) := by kernel_rfl
@[simp] theorem lA52x5 (t2 t4 t5 t6 t11 : PV) (K : RK) : denK T A52x5 [.undef, .undef, t2, .undef, t4, t5, t6, .undef, .undef, .undef, .undef, t11, .undef, .undef, .undef, .undef, .undef, .undef, .undef, .undef, .undef, .undef, .undef, .undef, .undef, .undef, .undef, .undef, .undef, .undef, .undef, .undef, .undef, .undef, .undef, .undef, .undef, .undef, .undef, .undef, .undef, .undef, .undef, .undef, .undef, .undef, .undef, .undef, .undef, .undef, .undef, .undef, .undef, .undef, .undef, .undef, .undef, .undef, .undef, .undef, .undef, .undef, .undef, .undef, .undef, .undef, .undef, .undef, .undef] K =
  denK T A52x6 [.undef, .undef, t2, .undef, t4, t5, t6, .undef, .undef, .undef, .undef, t11, .undef, .undef, .undef, .undef, .undef, .undef, .undef, .undef, .undef, .undef, .undef, .undef, .undef, .undef, .undef, .undef, .undef, .undef, .undef, .undef, .undef, .undef, .undef, .undef, .undef, .undef, .undef, .undef, .undef, .undef, .undef, .undef, .undef, .undef, .undef, .undef, .undef, .undef, .undef, .undef, .undef, .undef, .undef, .undef, .undef, .undef, .undef, .undef, .undef, .undef, .undef, .undef, .undef, .undef, .undef, .undef, .undef] (seqK T B52x6 K) := by kernel_rfl
@[simp] theorem lA52x9 (t2 t4 t5 t6 t11 : PV) (K : RK) : denK T A52x9 [.undef, .undef, t2, .undef, t4, t5, t6, .undef, .undef, .undef, .undef, t11, .undef, .undef, .undef, .undef, .undef, .undef, .undef, .undef, .undef, .undef, .undef, .undef, .undef, .undef, .undef, .undef, .undef, .undef, .undef, .undef, .undef, .undef, .undef, .undef, .undef, .undef, .undef, .undef, .undef, .undef, .undef, .undef, .undef, .undef, .undef, .undef, .undef, .undef, .undef, .undef, .undef, .undef, .undef, .undef, .undef, .undef, .undef, .undef, .undef, .undef, .undef, .undef, .undef, .undef, .undef, .undef, .undef] K =
  Option.bind (chk t6 fun a0 => Prim.run .load [a0, (.ptr [])]) fun t43 =>
  Option.bind (chk t43 fun a0 => Prim.run (.bin .eql) [a0, (.int .i64 1)]) fun t44 =>
  Option.bind (Prim.run (.fptr 5) [(.ptr [])]) fun t45 =>
  Option.bind (chk t45 fun a0 => Prim.run (.fptr 2) [a0]) fun t46 =>
  chk t44 fun a0 => asPath t46 fun q0 => chk t5 fun y0 => Option.bind (setP q0 y0 a0) fun t5 =>
  K (.normal, [.undef, .undef, t2, .undef, t4, t5, t6, .undef, .undef, .undef, .undef, t11, .undef, .undef, .undef, .undef, .undef, .undef, .undef, .undef, .undef, .undef, .undef, .undef, .undef, .undef, .undef, .undef, .undef, .undef, .undef, .undef, .undef, .undef, .undef, .undef, .undef, .undef, .undef, .undef, .undef, .undef, .undef, .undef, .undef, .undef, .undef, .undef, .undef, .undef, .undef, .undef, .undef, .undef, .undef, .undef, .undef, .undef, .undef, .undef, .undef, .undef, .undef, .undef, .undef, .undef, .undef, .undef, .undef]) := by kernel_rfl
@[simp] theorem lB52x9 (t2 t4 t5 t6 t11 : PV) (K : RK) : denK T B52x9 [.undef, .undef, t2, .undef, t4, t5, t6, .undef, .undef, .undef, .undef, t11, .undef, .undef, .undef, .undef, .undef, .undef, .undef, .undef, .undef, .undef, .undef, .undef, .undef, .undef, .undef, .undef, .undef, .undef, .undef, .undef, .undef, .undef, .undef, .undef, .undef, .undef, .undef, .undef, .undef, .undef, .undef, .undef, .undef, .undef, .undef, .undef, .undef, .undef, .undef, .undef, .undef, .undef, .undef, .undef, .undef, .undef, .undef, .undef, .undef, .undef, .undef, .undef, .undef, .undef, .undef, .undef, .undef] K =
  Option.bind (chk t4 fun a0 => Prim.run .mov [a0]) fun t47 =>
  Option.bind (chk t47 fun a0 => Prim.run .mov [a0]) fun t48 =>
  Option.bind (chk t48 fun a0 => Prim.run (.fptr 1) [a0]) fun t49 =>
  Option.bind (chk t11 fun a0 => chk t49 fun a1 => Prim.run .load [a0, a1]) fun t50 =>
  Option.bind (chk t50 fun a0 => Prim.run (.un .not) [a0]) fun t51 =>
  Option.bind (chk t51 fun a0 => Prim.run .mov [a0]) fun t52 =>
  Option.bind (grd t52 false (chk t4 fun a0 => Prim.run .mov [a0])) fun t53 =>
  Option.bind (grd t52 false (chk t53 fun a0 => Prim.run .mov [a0])) fun t54 =>
  Option.bind (grd t52 false (chk t54 fun a0 => Prim.run (.fptr 0) [a0])) fun t55 =>
  Option.bind (grd t52 false (chk t11 fun a0 => chk t55 fun a1 => Prim.run .load [a0, a1])) fun t56 =>
  Option.bind (grd t52 false (chk t56 fun a0 => Prim.run (.bin .neq) [a0, (.str [])])) fun t57 =>
  Option.bind (chk t52 fun a0 => isB a0 (some (.bool true)) (chk t57 fun a1 => some a1)) fun t58 =>
  Option.bind (chk t58 fun a0 => Prim.run .mov [a0]) fun t59 =>
  Option.bind (grd t59 false (chk t6 fun a0 => Prim.run .load [a0, (.ptr [])])) fun t60 =>
  Option.bind (grd t59 false (chk t60 fun a0 => Prim.run (.bin .lss) [a0, (.int .i64 0)])) fun t61 =>
  Option.bind (chk t59 fun a0 => isB a0 (some (.bool true)) (chk t61 fun a1 => some a1)) fun t62 =>
  Option.bind (chk t62 fun a0 => Prim.run .mov [a0]) fun t63 =>
  Option.bind (grd t63 false (chk t6 fun a0 => Prim.run .load [a0, (.ptr [])])) fun t64 =>
  Option.bind (grd t63 false (chk t64 fun a0 => Prim.run (.bin .gtr) [a0, (.int .i64 1)])) fun t65 =>
  Option.bind (chk t63 fun a0 => isB a0 (some (.bool true)) (chk t65 fun a1 => some a1)) fun t66 =>
  chk t66 fun c0 => isB c0
 (Option.bind (Prim.run (.build [(.int .i64 0), (.str []), (.int .i64 0), (.int .i64 0), (.agg [(.int .i64 0), (.int .i64 0), (.int .i64 0), (.int .i64 0)]), (.agg [(.int .i64 0), (.int .i64 0), (.bool false)])] []) []) fun t67 =>
  chk t67 fun a0 => chk t2 fun y0 => Option.bind (setP [] y0 a0) fun t2 =>
  Option.bind (Prim.run .mov [(.bool false)]) fun t3 =>
  K (.ret, [.undef, .undef, t2, t3, .undef, .undef, .undef, .undef, .undef, .undef, .undef, .undef, .undef, .undef, .undef, .undef, .undef, .undef, .undef, .undef, .undef, .undef, .undef, .undef, .undef, .undef, .undef, .undef, .undef, .undef, .undef, .undef, .undef, .undef, .undef, .undef, .undef, .undef, .undef, .undef, .undef, .undef, .undef, .undef, .undef, .undef, .undef, .undef, .undef, .undef, .undef, .undef, .undef, .undef, .undef, .undef, .undef, .undef, .undef, .undef, .undef, .undef, .undef, .undef, .undef, .undef, .undef, .undef, .undef]))
 (Option.bind (chk t5 fun a0 => Prim.run .load [a0, (.ptr [])]) fun t68 =>
  chk t68 fun a0 => chk t2 fun y0 => Option.bind (setP [] y0 a0) fun t2 =>
  Option.bind (Prim.run .mov [(.bool true)]) fun t3 =>
  K (.ret, [.undef, .undef, t2, t3, .undef, .undef, .undef, .undef, .undef, .undef, .undef, .undef, .undef, .undef, .undef, .undef, .undef, .undef, .undef, .undef, .undef, .undef, .undef, .undef, .undef, .undef, .undef, .undef, .undef, .undef, .undef, .undef, .undef, .undef, .undef, .undef, .undef, .undef, .undef, .undef, .undef, .undef, .undef, .undef, .undef, .undef, .undef, .undef, .undef, .undef, .undef, .undef, .undef, .undef, .undef, .undef, .undef, .undef, .undef, .undef, .undef, .undef, .undef, .undef, .undef, .undef, .undef, .undef, .undef])) := by kernel_rfl
@[simp] theorem lB52x5 (t2 t4 t5 t6 t11 : PV) (K : RK) : denK T B52x5 [.undef, .undef, t2, .undef, t4, t5, t6, .undef, .undef, .undef, .undef, t11, .undef, .undef, .undef, .undef, .undef, .undef, .undef, .undef, .undef, .undef, .undef, .undef, .undef, .undef, .undef, .undef, .undef, .undef, .undef, .undef, .undef, .undef, .undef, .undef, .undef, .undef, .undef, .undef, .undef, .undef, .undef, .undef, .undef, .undef, .undef, .undef, .undef, .undef, .undef, .undef, .undef, .undef, .undef, .undef, .undef, .undef, .undef, .undef, .undef, .undef, .undef, .undef, .undef, .undef, .undef, .undef, .undef] K =
  denK T A52x9 [.undef, .undef, t2, .undef, t4, t5, t6, .undef, .undef, .undef, .undef, t11, .undef, .undef, .undef, .undef, .undef, .undef, .undef, .undef, .undef, .undef, .undef, .undef, .undef, .undef, .undef, .undef, .undef, .undef, .undef, .undef, .undef, .undef, .undef, .undef, .undef, .undef, .undef, .undef, .undef, .undef, .undef, .undef, .undef, .undef, .undef, .undef, .undef, .undef, .undef, .undef, .undef, .undef, .undef, .undef, .undef, .undef, .undef, .undef, .undef, .undef, .undef, .undef, .undef, .undef, .undef, .undef, .undef] (seqK T B52x9 K) := by kernel_rfl
@[simp] theorem lB52x3 (t2 t4 t5 t11 : PV) (K : RK) : denK T B52x3 [.undef, .undef, t2, .undef, t4, t5, .undef, .undef, .undef, .undef, .undef, t11, .undef, .undef, .undef, .undef, .undef, .undef, .undef, .undef, .undef, .undef, .undef, .undef, .undef, .undef, .undef, .undef, .undef, .undef, .undef, .undef, .undef, .undef, .undef, .undef, .undef, .undef, .undef, .undef, .undef, .undef, .undef, .undef, .undef, .undef, .undef, .undef, .undef, .undef, .undef, .undef, .undef, .undef, .undef, .undef, .undef, .undef, .undef, .undef, .undef, .undef, .undef, .undef, .undef, .undef, .undef, .undef, .undef] K =
  Option.bind (Prim.run .mov [(.int .i64 0)]) fun t6 =>
  chk t6 fun y0 => Option.bind (setP [] y0 (.int .i64 0)) fun t6 =>
  denK T A52x5 [.undef, .undef, t2, .undef, t4, t5, t6, .undef, .undef, .undef, .undef, t11, .undef, .undef, .undef, .undef, .undef, .undef, .undef, .undef, .undef, .undef, .undef, .undef, .undef, .undef, .undef, .undef, .undef, .undef, .undef, .undef, .undef, .undef, .undef, .undef, .undef, .undef, .undef, .undef, .undef, .undef, .undef, .undef, .undef, .undef, .undef, .undef, .undef, .undef, .undef, .undef, .undef, .undef, .undef, .undef, .undef, .undef, .undef, .undef, .undef, .undef, .undef, .undef, .undef, .undef, .undef, .undef, .undef] (seqK T B52x5 K) := by kernel_rfl
@[simp] theorem lB52x1 (t2 t4 t5 t11 : PV) (K : RK) : denK T B52x1 [.undef, .undef, t2, .undef, t4, t5, .undef, .undef, .undef, .undef, .undef, t11, .undef, .undef, .undef, .undef, .undef, .undef, .undef, .undef, .undef, .undef, .undef, .undef, .undef, .undef, .undef, .undef, .undef, .undef, .undef, .undef, .undef, .undef, .undef, .undef, .undef, .undef, .undef, .undef, .undef, .undef, .undef, .undef, .undef, .undef, .undef, .undef, .undef, .undef, .undef, .undef, .undef, .undef, .undef, .undef, .undef, .undef, .undef, .undef, .undef, .undef, .undef, .undef, .undef, .undef, .undef, .undef, .undef] K =
  denK T A52x3 [.undef, .undef, t2, .undef, t4, t5, .undef, .undef, .undef, .undef, .undef, t11, .undef, .undef, .undef, .undef, .undef, .undef, .undef, .undef, .undef, .undef, .undef, .undef, .undef, .undef, .undef, .undef, .undef, .undef, .undef, .undef, .undef, .undef, .undef, .undef, .undef, .undef, .undef, .undef, .undef, .undef, .undef, .undef, .undef, .undef, .undef, .undef, .undef, .undef, .undef, .undef, .undef, .undef, .undef, .undef, .undef, .undef, .undef, .undef, .undef, .undef, .undef, .undef, .undef, .undef, .undef, .undef, .undef] (seqK T B52x3 K) := by kernel_rfl
/-! vmfleet/journal.Encode -/
@[simp] theorem lA53x1 (t1 t3 t4 : PV) (K : RK) : denK T A53x1 [.undef, t1, .undef, t3, t4, .undef, .undef, .undef, .undef, .undef, .undef, .undef, .undef, .undef, .undef, .undef, .undef, .undef, .undef, .undef, .undef, .undef, .undef, .undef, .undef, .undef, .undef, .undef, .undef, .undef, .undef, .undef, .undef, .undef, .undef, .undef, .undef, .undef, .undef, .undef, .undef, .undef, .undef, .undef, .undef, .undef, .undef, .undef, .undef, .undef, .undef, .undef, .undef, .undef, .undef, .undef, .undef, .undef, .undef, .undef] K =
  Option.bind (chk t4 fun a0 => Prim.run .mov [a0]) fun t9 =>
  Option.bind (Prim.run (.fptr 0) [(.ptr [])]) fun t10 =>
  Option.bind (chk t1 fun a0 => chk t10 fun a1 => Prim.run .load [a0, a1]) fun t11 =>
  chk t11 fun a0 => asPath t9 fun a1q => chk t3 fun a1r => Option.bind (getP a1q a1r) fun a1 => Option.bind (Ans T 83 [a0, a1]) fun rs2 => consK (rs2.drop 0) fun y0 ys0 => chk t3 fun x0 => Option.bind (setP [] x0 y0) fun t3 => nilK ys0 (K (.normal, [.undef, t1, .undef, t3, t4, .undef, .undef, .undef, .undef, .undef, .undef, .undef, .undef, .undef, .undef, .undef, .undef, .undef, .undef, .undef, .undef, .undef, .undef, .undef, .undef, .undef, .undef, .undef, .undef, .undef, .undef, .undef, .undef, .undef, .undef, .undef, .undef, .undef, .undef, .undef, .undef, .undef, .undef, .undef, .undef, .undef, .undef, .undef, .undef, .undef, .undef, .undef, .undef, .undef, .undef, .undef, .undef, .undef, .undef, .undef])) := by kernel_rfl
@[simp] theorem lA53x3 (t1 t3 t4 : PV) (K : RK) : denK T A53x3 [.undef, t1, .undef, t3, t4, .undef, .undef, .undef, .undef, .undef, .undef, .undef, .undef, .undef, .undef, .undef, .undef, .undef, .undef, .undef, .undef, .undef, .undef, .undef, .undef, .undef, .undef, .undef, .undef, .undef, .undef, .undef, .undef, .undef, .undef, .undef, .undef, .undef, .undef, .undef, .undef, .undef, .undef, .undef, .undef, .undef, .undef, .undef, .undef, .undef, .undef, .undef, .undef, .undef, .undef, .undef, .undef, .undef, .undef, .undef] K =
  Option.bind (chk t4 fun a0 => Prim.run .mov [a0]) fun t13 =>
  Option.bind (Prim.run (.fptr 1) [(.ptr [])]) fun t14 =>
  Option.bind (chk t1 fun a0 => chk t14 fun a1 => Prim.run .load [a0, a1]) fun t15 =>
  Option.bind (chk t15 fun a0 => Prim.run .len [a0]) fun t16 =>
  chk t16 fun a0 => asPath t13 fun a1q => chk t3 fun a1r => Option.bind (getP a1q a1r) fun a1 => Option.bind (Ans T 83 [a0, a1]) fun rs4 => consK (rs4.drop 0) fun y0 ys0 => chk t3 fun x0 => Option.bind (setP [] x0 y0) fun t3 => nilK ys0 (K (.normal, [.undef, t1, .undef, t3, t4, .undef, .undef, .undef, .undef, .undef, .undef, .undef, .undef, .undef, .undef, .undef, .undef, .undef, .undef, .undef, .undef, .undef, .undef, .undef, .undef, .undef, .undef, .undef, .undef, .undef, .undef, .undef, .undef, .undef, .undef, .undef, .undef, .undef, .undef, .undef, .undef, .undef, .undef, .undef, .undef, .undef, .undef, .undef, .undef, .undef, .undef, .undef, .undef, .undef, .undef, .undef, .undef, .undef, .undef, .undef])) := by kernel_rfl
@[simp] theorem lA53x5 (t1 t3 t4 : PV) (K : RK) : denK T A53x5 [.undef, t1, .undef, t3, t4, .undef, .undef, .undef, .undef, .undef, .undef, .undef, .undef, .undef, .undef, .undef, .undef, .undef, .undef, .undef, .undef, .undef, .undef, .undef, .undef, .undef, .undef, .undef, .undef, .undef, .undef, .undef, .undef, .undef, .undef, .undef, .undef, .undef, .undef, .undef, .undef, .undef, .undef, .undef, .undef, .undef, .undef, .undef, .undef, .undef, .undef, .undef, .undef, .undef, .undef, .undef, .undef, .undef, .undef, .undef] K =
  Option.bind (chk t3 fun a0 => Prim.run .load [a0, (.ptr [])]) fun t18 =>
  Option.bind (Prim.run (.fptr 1) [(.ptr [])]) fun t19 =>
  Option.bind (chk t1 fun a0 => chk t19 fun a1 => Prim.run .load [a0, a1]) fun t20 =>
  Option.bind (chk t18 fun a0 => chk t20 fun a1 => Prim.run (.app 1) [a0, a1]) fun t21 =>
  chk t21 fun a0 => chk t3 fun y0 => Option.bind (setP [] y0 a0) fun t3 =>
  K (.normal, [.undef, t1, .undef, t3, t4, .undef, .undef, .undef, .undef, .undef, .undef, .undef, .undef, .undef, .undef, .undef, .undef, .undef, t18, .undef, .undef, .undef, .undef, .undef, .undef, .undef, .undef, .undef, .undef, .undef, .undef, .undef, .undef, .undef, .undef, .undef, .undef, .undef, .undef, .undef, .undef, .undef, .undef, .undef, .undef, .undef, .undef, .undef, .undef, .undef, .undef, .undef, .undef, .undef, .undef, .undef, .undef, .undef, .undef, .undef]) := by kernel_rfl
@[simp] theorem lA53x6 (t1 t3 t4 t5 t18 : PV) (K : RK) : denK T A53x6 [.undef, t1, .undef, t3, t4, t5, .undef, .undef, .undef, .undef, .undef, .undef, .undef, .undef, .undef, .undef, .undef, .undef, t18, .undef, .undef, .undef, .undef, .undef, .undef, .undef, .undef, .undef, .undef, .undef, .undef, .undef, .undef, .undef, .undef, .undef, .undef, .undef, .undef, .undef, .undef, .undef, .undef, .undef, .undef, .undef, .undef, .undef, .undef, .undef, .undef, .undef, .undef, .undef, .undef, .undef, .undef, .undef, .undef, .undef] K =
  Option.bind (Prim.run (.fptr 5) [(.ptr [])]) fun t22 =>
  Option.bind (chk t22 fun a0 => Prim.run (.fptr 2) [a0]) fun t23 =>
  Option.bind (chk t1 fun a0 => chk t23 fun a1 => Prim.run .load [a0, a1]) fun t24 =>
  chk t24 fun c0 => isB c0
 (Option.bind (Prim.run .mov [(.int .i64 1)]) fun t5 =>
  K (.normal, [.undef, t1, .undef, t3, t4, t5, .undef, .undef, .undef, .undef, .undef, .undef, .undef, .undef, .undef, .undef, .undef, .undef, t18, .undef, .undef, .undef, .undef, .undef, .undef, .undef, .undef, .undef, .undef, .undef, .undef, .undef, .undef, .undef, .undef, .undef, .undef, .undef, .undef, .undef, .undef, .undef, .undef, .undef, .undef, .undef, .undef, .undef, .undef, .undef, .undef, .undef, .undef, .undef, .undef, .undef, .undef, .undef, .undef, .undef]))
 (K (.normal, [.undef, t1, .undef, t3, t4, t5, .undef, .undef, .undef, .undef, .undef, .undef, .undef, .undef, .undef, .undef, .undef, .undef, t18, .undef, .undef, .undef, .undef, .undef, t24, .undef, .undef, .undef, .undef, .undef, .undef, .undef, .undef, .undef, .undef, .undef, .undef, .undef, .undef, .undef, .undef, .undef, .undef, .undef, .undef, .undef, .undef, .undef, .undef, .undef, .undef, .undef, .undef, .undef, .undef, .undef, .undef, .undef, .undef, .undef])) := by kernel_rfl
@[simp] theorem lA53x8 (t1 t3 t4 t5 t18 t24 : PV) (K : RK) : denK T A53x8 [.undef, t1, .undef, t3, t4, t5, .undef, .undef, .undef, .undef, .undef, .undef, .undef, .undef, .undef, .undef, .undef, .undef, t18, .undef, .undef, .undef, .undef, .undef, t24, .undef, .undef, .undef, .undef, .undef, .undef, .undef, .undef, .undef, .undef, .undef, .undef, .undef, .undef, .undef, .undef, .undef, .undef, .undef, .undef, .undef, .undef, .undef, .undef, .undef, .undef, .undef, .undef, .undef, .undef, .undef, .undef, .undef, .undef, .undef] K =
  Option.bind (Prim.run (.fptr 2) [(.ptr [])]) fun t25 =>
  Option.bind (chk t1 fun a0 => chk t25 fun a1 => Prim.run .load [a0, a1]) fun t26 =>
  Option.bind (Prim.run (.fptr 3) [(.ptr [])]) fun t27 =>
  Option.bind (chk t1 fun a0 => chk t27 fun a1 => Prim.run .load [a0, a1]) fun t28 =>
  Option.bind (Prim.run (.fptr 4) [(.ptr [])]) fun t29 =>
  Option.bind (chk t29 fun a0 => Prim.run (.fptr 0) [a0]) fun t30 =>
  Option.bind (chk t1 fun a0 => chk t30 fun a1 => Prim.run .load [a0, a1]) fun t31 =>
  Option.bind (Prim.run (.fptr 4) [(.ptr [])]) fun t32 =>
  Option.bind (chk t32 fun a0 => Prim.run (.fptr 1) [a0]) fun t33 =>
  Option.bind (chk t1 fun a0 => chk t33 fun a1 => Prim.run .load [a0, a1]) fun t34 =>
  Option.bind (Prim.run (.fptr 4) [(.ptr [])]) fun t35 =>
  Option.bind (chk t35 fun a0 => Prim.run (.fptr 2) [a0]) fun t36 =>
  Option.bind (chk t1 fun a0 => chk t36 fun a1 => Prim.run .load [a0, a1]) fun t37 =>
  Option.bind (Prim.run (.fptr 4) [(.ptr [])]) fun t38 =>
  Option.bind (chk t38 fun a0 => Prim.run (.fptr 3) [a0]) fun t39 =>
  Option.bind (chk t1 fun a0 => chk t39 fun a1 => Prim.run .load [a0, a1]) fun t40 =>
  Option.bind (Prim.run (.fptr 5) [(.ptr [])]) fun t41 =>
  Option.bind (chk t41 fun a0 => Prim.run (.fptr 0) [a0]) fun t42 =>
  Option.bind (chk t1 fun a0 => chk t42 fun a1 => Prim.run .load [a0, a1]) fun t43 =>
  Option.bind (Prim.run (.fptr 5) [(.ptr [])]) fun t44 =>
  Option.bind (chk t44 fun a0 => Prim.run (.fptr 1) [a0]) fun t45 =>
  Option.bind (chk t1 fun a0 => chk t45 fun a1 => Prim.run .load [a0, a1]) fun t46 =>
  Option.bind (chk t5 fun a0 => Prim.run .mov [a0]) fun t47 =>
  Option.bind (chk t26 fun a0 => chk t28 fun a1 => chk t31 fun a2 => chk t34 fun a3 => chk t37 fun a4 => chk t40 fun a5 => chk t43 fun a6 => chk t46 fun a7 => chk t47 fun a8 => Prim.run (.buildSl (.int .i64 0) 9 [0, 1, 2, 3, 4, 5, 6, 7, 8]) [a0, a1, a2, a3, a4, a5, a6, a7, a8]) fun t48 =>
  Option.bind (chk t48 fun a0 => Prim.run .len [a0]) fun t49 =>
  Option.bind (Prim.run .mov [(.int .i64 0)]) fun t50 =>
  K (.normal, [.undef, .undef, .undef, t3, t4, .undef, .undef, .undef, .undef, .undef, .undef, .undef, .undef, .undef, .undef, .undef, .undef, .undef, t18, .undef, .undef, .undef, .undef, .undef, t24, .undef, .undef, .undef, .undef, .undef, .undef, .undef, .undef, .undef, .undef, .undef, .undef, .undef, .undef, .undef, .undef, .undef, .undef, .undef, .undef, .undef, .undef, .undef, t48, t49, t50, .undef, .undef, .undef, .undef, .undef, .undef, .undef, .undef, .undef]) := by kernel_rfl
noncomputable def WL53x9 (t3 t4 t48 t49 t50 : PV) (K : RK) : Option (List PV) := loopK T kL53x9 L53x9 [.undef, .undef, .undef, t3, t4, .undef, .undef, .undef, .undef, .undef, .undef, .undef, .undef, .undef, .undef, .undef, .undef, .undef, .undef, .undef, .undef, .undef, .undef, .undef, .undef, .undef, .undef, .undef, .undef, .undef, .undef, .undef, .undef, .undef, .undef, .undef, .undef, .undef, .undef, .undef, .undef, .undef, .undef, .undef, .undef, .undef, .undef, .undef, t48, t49, t50, .undef, .undef, .undef, .undef, .undef, .undef, .undef, .undef, .undef] K
theorem oL53x9 (t3 t4 t48 t49 t50 : PV) (K : RK) {a : List PV} (h : (Option.bind (chk t50 fun a0 => chk t49 fun a1 => Prim.run (.bin .lss) [a0, a1]) fun t51 =>
  chk t51 fun c0 => isB c0
 (Option.bind (chk t48 fun a0 => chk t50 fun a1 => Prim.run (.iptr []) [a0, a1]) fun t52 =>
  Option.bind (chk t48 fun a0 => chk t52 fun a1 => Prim.run .load [a0, a1]) fun t53 =>
  Option.bind (chk t53 fun a0 => Prim.run .mov [a0]) fun t7 =>
  Option.bind (chk t4 fun a0 => Prim.run .mov [a0]) fun t54 =>
  Option.bind (chk t7 fun a0 => Prim.run .mov [a0]) fun t55 =>
  chk t55 fun a0 => asPath t54 fun a1q => chk t3 fun a1r => Option.bind (getP a1q a1r) fun a1 => Option.bind (Ans T 83 [a0, a1]) fun rs10 => consK (rs10.drop 0) fun y0 ys0 => chk t3 fun x0 => Option.bind (setP [] x0 y0) fun t3 => nilK ys0 (Option.bind (chk t50 fun a0 => Prim.run (.bin .add) [a0, (.int .i64 1)]) fun t57 =>
  Option.bind (chk t57 fun a0 => Prim.run .mov [a0]) fun t50 =>
  WL53x9 t3 t4 t48 t49 t50 K))
 (K (.exit 0, [.undef, .undef, .undef, t3, .undef, .undef, .undef, .undef, .undef, .undef, .undef, .undef, .undef, .undef, .undef, .undef, .undef, .undef, .undef, .undef, .undef, .undef, .undef, .undef, .undef, .undef, .undef, .undef, .undef, .undef, .undef, .undef, .undef, .undef, .undef, .undef, .undef, .undef, .undef, .undef, .undef, .undef, .undef, .undef, .undef, .undef, .undef, .undef, .undef, .undef, .undef, .undef, .undef, .undef, .undef, .undef, .undef, .undef, .undef, .undef]))) = some a) : WL53x9 t3 t4 t48 t49 t50 K = some a := loopK_of (Eq.trans (by kernel_rfl) h)
@[simp] theorem aL53x9 (t0 t1 t2 t3 t4 t5 t6 t7 t8 t9 t10 t11 t12 t13 t14 t15 t16 t17 t18 t19 t20 t21 t22 t23 t24 t25 t26 t27 t28 t29 t30 t31 t32 t33 t34 t35 t36 t37 t38 t39 t40 t41 t42 t43 t44 t45 t46 t47 t48 t49 t50 t51 t52 t53 t54 t55 t56 t57 t58 t59 : PV) (K : RK) : againK T kL53x9 L53x9 K (.normal, [t0, t1, t2, t3, t4, t5, t6, t7, t8, t9, t10, t11, t12, t13, t14, t15, t16, t17, t18, t19, t20, t21, t22, t23, t24, t25, t26, t27, t28, t29, t30, t31, t32, t33, t34, t35, t36, t37, t38, t39, t40, t41, t42, t43, t44, t45, t46, t47, t48, t49, t50, t51, t52, t53, t54, t55, t56, t57, t58, t59]) = WL53x9 t3 t4 t48 t49 t50 K := by kernel_rfl
@[simp] theorem lB53x8 (t3 t4 t18 t24 t48 t49 t50 : PV) (K : RK) : denK T B53x8 [.undef, .undef, .undef, t3, t4, .undef, .undef, .undef, .undef, .undef, .undef, .undef, .undef, .undef, .undef, .undef, .undef, .undef, t18, .undef, .undef, .undef, .undef, .undef, t24, .undef, .undef, .undef, .undef, .undef, .undef, .undef, .undef, .undef, .undef, .undef, .undef, .undef, .undef, .undef, .undef, .undef, .undef, .undef, .undef, .undef, .undef, .undef, t48, t49, t50, .undef, .undef, .undef, .undef, .undef, .undef, .undef, .undef, .undef] K =
  WL53x9 t3 t4 t48 t49 t50 (blockK 0 K) := by kernel_rfl
@[simp] theorem lA53x7 (t1 t3 t4 t5 t18 t24 : PV) (K : RK) : denK T A53x7 [.undef, t1, .undef, t3, t4, t5, .undef, .undef, .undef, .undef, .undef, .undef, .undef, .undef, .undef, .undef, .undef, .undef, t18, .undef, .undef, .undef, .undef, .undef, t24, .undef, .undef, .undef, .undef, .undef, .undef, .undef, .undef, .undef, .undef, .undef, .undef, .undef, .undef, .undef, .undef, .undef, .undef, .undef, .undef, .undef, .undef, .undef, .undef, .undef, .undef, .undef, .undef, .undef, .undef, .undef, .undef, .undef, .undef, .undef] K =
  denK T A53x8 [.undef, t1, .undef, t3, t4, t5, .undef, .undef, .undef, .undef, .undef, .undef, .undef, .undef, .undef, .undef, .undef, .undef, t18, .undef, .undef, .undef, .undef, .undef, t24, .undef, .undef, .undef, .undef, .undef, .undef, .undef, .undef, .undef, .undef, .undef, .undef, .undef, .undef, .undef, .undef, .undef, .undef, .undef, .undef, .undef, .undef, .undef, .undef, .undef, .undef, .undef, .undef, .undef, .undef, .undef, .undef, .undef, .undef, .undef] (seqK T B53x8 K) := by kernel_rfl
@[simp] theorem lB53x7 (t3 : PV) (K : RK) : denK T B53x7 [.undef, .undef, .undef, t3, .undef, .undef, .undef, .undef, .undef, .undef, .undef, .undef, .undef, .undef, .undef, .undef, .undef, .undef, .undef, .undef, .undef, .undef, .undef, .undef, .undef, .undef, .undef, .undef, .undef, .undef, .undef, .undef, .undef, .undef, .undef, .undef, .undef, .undef, .undef, .undef, .undef, .undef, .undef, .undef, .undef, .undef, .undef, .undef, .undef, .undef, .undef, .undef, .undef, .undef, .undef, .undef, .undef, .undef, .undef, .undef] K =
  Option.bind (chk t3 fun a0 => Prim.run .load [a0, (.ptr [])]) fun t58 =>
  Option.bind (chk t58 fun a0 => Prim.run .toStr [a0]) fun t59 =>
  Option.bind (chk t59 fun a0 => Prim.run .mov [a0]) fun t2 =>
  K (.ret, [.undef, .undef, t2, .undef, .undef, .undef, .undef, .undef, .undef, .undef, .undef, .undef, .undef, .undef, .undef, .undef, .undef, .undef, .undef, .undef, .undef, .undef, .undef, .undef, .undef, .undef, .undef, .undef, .undef, .undef, .undef, .undef, .undef, .undef, .undef, .undef, .undef, .undef, .undef, .undef, .undef, .undef, .undef, .undef, .undef, .undef, .undef, .undef, .undef, .undef, .undef, .undef, .undef, .undef, .undef, .undef, .undef, .undef, .undef, .undef]) := by kernel_rfl
@[simp] theorem lB53x6 (t1 t3 t4 t5 t18 t24 : PV) (K : RK) : denK T B53x6 [.undef, t1, .undef, t3, t4, t5, .undef, .undef, .undef, .undef, .undef, .undef, .undef, .undef, .undef, .undef, .undef, .undef, t18, .undef, .undef, .undef, .undef, .undef, t24, .undef, .undef, .undef, .undef, .undef, .undef, .undef, .undef, .undef, .undef, .undef, .undef, .undef, .undef, .undef, .undef, .undef, .undef, .undef, .undef, .undef, .undef, .undef, .undef, .undef, .undef, .undef, .undef, .undef, .undef, .undef, .undef, .undef, .undef, .undef] K =
  denK T A53x7 [.undef, t1, .undef, t3, t4, t5, .undef, .undef, .undef, .undef, .undef, .undef, .undef, .undef, .undef, .undef, .undef, .undef, t18, .undef, .undef, .undef, .undef, .undef, t24, .undef, .undef, .undef, .undef, .undef, .undef, .undef, .undef, .undef, .undef, .undef, .undef, .undef, .undef, .undef, .undef, .undef, .undef, .undef, .undef, .undef, .undef, .undef, .undef, .undef, .undef, .undef, .undef, .undef, .undef, .undef, .undef, .undef, .undef, .undef] (seqK T B53x7 K) := by kernel_rfl
@[simp] theorem lB53x5 (t1 t3 t4 t18 : PV) (K : RK) : denK T B53x5 [.undef, t1, .undef, t3, t4, .undef, .undef, .undef, .undef, .undef, .undef, .undef, .undef, .undef, .undef, .undef, .undef, .undef, t18, .undef, .undef, .undef, .undef, .undef, .undef, .undef, .undef, .undef, .undef, .undef, .undef, .undef, .undef, .undef, .undef, .undef, .undef, .undef, .undef, .undef, .undef, .undef, .undef, .undef, .undef, .undef, .undef, .undef, .undef, .undef, .undef, .undef, .undef, .undef, .undef, .undef, .undef, .undef, .undef, .undef] K =
  Option.bind (Prim.run .mov [(.int .i64 0)]) fun t5 =>
  denK T A53x6 [.undef, t1, .undef, t3, t4, t5, .undef, .undef, .undef, .undef, .undef, .undef, .undef, .undef, .undef, .undef, .undef, .undef, t18, .undef, .undef, .undef, .undef, .undef, .undef, .undef, .undef, .undef, .undef, .undef, .undef, .undef, .undef, .undef, .undef, .undef, .undef, .undef, .undef, .undef, .undef, .undef, .undef, .undef, .undef, .undef, .undef, .undef, .undef, .undef, .undef, .undef, .undef, .undef, .undef, .undef, .undef, .undef, .undef, .undef] (seqK T B53x6 K) := by kernel_rfl
@[simp] theorem lB53x3 (t1 t3 t4 : PV) (K : RK) : denK T B53x3 [.undef, t1, .undef, t3, t4, .undef, .undef, .undef, .undef, .undef, .undef, .undef, .undef, .undef, .undef, .undef, .undef, .undef, .undef, .undef, .undef, .undef, .undef, .undef, .undef, .undef, .undef, .undef, .undef, .undef, .undef, .undef, .undef, .undef, .undef, .undef, .undef, .undef, .undef, .undef, .undef, .undef, .undef, .undef, .undef, .undef, .undef, .undef, .undef, .undef, .undef, .undef, .undef, .undef, .undef, .undef, .undef, .undef, .undef, .undef] K =
  denK T A53x5 [.undef, t1, .undef, t3, t4, .undef, .undef, .undef, .undef, .undef, .undef, .undef, .undef, .undef, .undef, .undef, .undef, .undef, .undef, .undef, .undef, .undef, .undef, .undef, .undef, .undef, .undef, .undef, .undef, .undef, .undef, .undef, .undef, .undef, .undef, .undef, .undef, .undef, .undef, .undef, .undef, .undef, .undef, .undef, .undef, .undef, .undef, .undef, .undef, .undef, .undef, .undef, .undef, .undef, .undef, .undef, .undef, .undef, .undef, .undef] (seqK T B53x5 K) := by kernel_rfl
@[simp] theorem lB53x1 (t1 t3 t4 : PV) (K : RK) : denK T B53x1 [.undef, t1, .undef, t3, t4, .undef, .undef, .undef, .undef, .undef, .undef, .undef, .undef, .undef, .undef, .undef, .undef, .undef, .undef, .undef, .undef, .undef, .undef, .undef, .undef, .undef, .undef, .undef, .undef, .undef, .undef, .undef, .undef, .undef, .undef, .undef, .undef, .undef, .undef, .undef, .undef, .undef, .undef, .undef, .undef, .undef, .undef, .undef, .undef, .undef, .undef, .undef, .undef, .undef, .undef, .undef, .undef, .undef, .undef, .undef] K =
  denK T A53x3 [.undef, t1, .undef, t3, t4, .undef, .undef, .undef, .undef, .undef, .undef, .undef, .undef, .undef, .undef, .undef, .undef, .undef, .undef, .undef, .undef, .undef, .undef, .undef, .undef, .undef, .undef, .undef, .undef, .undef, .undef, .undef, .undef, .undef, .undef, .undef, .undef, .undef, .undef, .undef, .undef, .undef, .undef, .undef, .undef, .undef, .undef, .undef, .undef, .undef, .undef, .undef, .undef, .undef, .undef, .undef, .undef, .undef, .undef, .undef] (seqK T B53x3 K) := by kernel_rfl
theorem f53 (t0 : PV) {rs : List PV} (h : (Option.bind (chk t0 fun a0 => Prim.run .mov [a0]) fun t1 =>
  Option.bind (Prim.run .mov [(.str [])]) fun t2 =>
  Option.bind (Prim.run .mov [(.slice true [])]) fun t3 =>
  Option.bind (Prim.run .mov [(.ptr [])]) fun t8 =>
  Option.bind (chk t8 fun a0 => Prim.run .mov [a0]) fun t4 =>
  denK T A53x1 [.undef, t1, .undef, t3, t4, .undef, .undef, .undef, .undef, .undef, .undef, .undef, .undef, .undef, .undef, .undef, .undef, .undef, .undef, .undef, .undef, .undef, .undef, .undef, .undef, .undef, .undef, .undef, .undef, .undef, .undef, .undef, .undef, .undef, .undef, .undef, .undef, .undef, .undef, .undef, .undef, .undef, .undef, .undef, .undef, .undef, .undef, .undef, .undef, .undef, .undef, .undef, .undef, .undef, .undef, .undef, .undef, .undef, .undef, .undef] (seqK T B53x1 (endK [2]))) = some rs) : Ans T 53 [t0] = some rs := call_of (T := T) c53 (Eq.trans (by kernel_rfl) h)
/-! vmfleet/journal.Append -/
theorem f54 (t0 t1 : PV) {rs : List PV} (h : (Option.bind (chk t1 fun a0 => Prim.run .mov [a0]) fun t3 =>
  Option.bind (Prim.run .mov [(.str [])]) fun t4 =>
  Option.bind (Prim.run .mov [(.bool false)]) fun t5 =>
  Option.bind (chk t0 fun a0 => Prim.run .mov [a0]) fun t11 =>
  Option.bind (chk t11 fun a0 => Option.bind (Ans T 79 [a0]) fun rs => retV 2 rs) fun t12 =>
  Option.bind (chk t12 fun a0 => Prim.run .mov [a0]) fun t10 =>
  Option.bind (chk t10 fun a0 => Prim.run (.ext 0) [a0]) fun t13 =>
  Option.bind (chk t10 fun a0 => Prim.run (.ext 1) [a0]) fun t14 =>
  Option.bind (chk t13 fun a0 => Prim.run .mov [a0]) fun t6 =>
  Option.bind (chk t14 fun a0 => Prim.run .mov [a0]) fun t7 =>
  Option.bind (chk t6 fun a0 => Prim.run .mov [a0]) fun t15 =>
  Option.bind (chk t15 fun a0 => Prim.run .len [a0]) fun t16 =>
  Option.bind (chk t16 fun a0 => Prim.run (.toInt .u64) [a0]) fun t17 =>
  Option.bind (chk t3 fun a0 => Prim.run .load [a0, (.ptr [])]) fun t18 =>
  Option.bind (chk t18 fun a0 => Option.bind (Ans T 53 [a0]) fun rs => retV 1 rs) fun t19 =>
  Option.bind (chk t17 fun a0 => chk t19 fun a1 => Option.bind (Ans T 47 [a0, a1]) fun rs => retV 1 rs) fun t20 =>
  Option.bind (chk t20 fun a0 => Prim.run .mov [a0]) fun t8 =>
  Option.bind (chk t0 fun a0 => Prim.run .mov [a0]) fun t21 =>
  Option.bind (chk t8 fun a0 => Prim.run .mov [a0]) fun t22 =>
  Option.bind (chk t22 fun a0 => Prim.run .len [a0]) fun t23 =>
  Option.bind (chk t23 fun a0 => Prim.run (.toInt .u64) [a0]) fun t24 =>
  Option.bind (chk t24 fun a0 => Option.bind (Ans T 66 [a0]) fun rs => retV 1 rs) fun t25 =>
  Option.bind (chk t21 fun a0 => chk t25 fun a1 => Prim.run (.bin .add) [a0, a1]) fun t26 =>
  Option.bind (chk t8 fun a0 => Prim.run .mov [a0]) fun t27 =>
  Option.bind (chk t26 fun a0 => chk t27 fun a1 => Prim.run (.bin .add) [a0, a1]) fun t28 =>
  Option.bind (chk t28 fun a0 => Prim.run .mov [a0]) fun t9 =>
  Option.bind (chk t9 fun a0 => Prim.run .mov [a0]) fun t29 =>
  Option.bind (chk t29 fun a0 => Prim.run .len [a0]) fun t30 =>
  Option.bind (chk t30 fun a0 => Prim.run (.bin .gtr) [a0, (.int .i64 8192)]) fun t31 =>
  chk t31 fun c0 => isB c0
 (Option.bind (chk t0 fun a0 => Prim.run .mov [a0]) fun t32 =>
  Option.bind (chk t32 fun a0 => Prim.run .mov [a0]) fun t4 =>
  Option.bind (Prim.run .mov [(.bool false)]) fun t5 =>
  allDef [t4, t5])
 (Option.bind (chk t9 fun a0 => Prim.run .mov [a0]) fun t33 =>
  Option.bind (chk t33 fun a0 => Prim.run .mov [a0]) fun t4 =>
  Option.bind (Prim.run .mov [(.bool true)]) fun t5 =>
  allDef [t4, t5])) = some rs) : Ans T 54 [t0, t1] = some rs := call_of (T := T) c54 (Eq.trans (by kernel_rfl) h)
/-! vmfleet/journal.Apply -/
@[simp] theorem lA56x1 (t0 t1 : PV) (K : RK) : denK T A56x1 [t0, t1, .undef, .undef, .undef, .undef, .undef, .undef, .undef, .undef, .undef, .undef, .undef, .undef, .undef, .undef, .undef, .undef, .undef, .undef, .undef, .undef, .undef, .undef, .undef, .undef, .undef, .undef, .undef, .undef, .undef, .undef, .undef, .undef, .undef, .undef, .undef, .undef, .undef, .undef, .undef, .undef, .undef, .undef, .undef, .undef, .undef, .undef, .undef, .undef, .undef, .undef, .undef, .undef, .undef, .undef, .undef] K =
  Option.bind (chk t0 fun a0 => Prim.run .mov [a0]) fun t2 =>
  Option.bind (chk t1 fun a0 => Prim.run .mov [a0]) fun t3 =>
  Option.bind (Prim.run .mov [(.agg [(.slice true []), (.slice true [])])]) fun t4 =>
  Option.bind (Prim.run .mov [(.int .i64 0)]) fun t5 =>
  K (.normal, [.undef, .undef, t2, t3, t4, .undef, .undef, .undef, .undef, .undef, .undef, .undef, .undef, .undef, .undef, .undef, .undef, .undef, .undef, .undef, .undef, .undef, .undef, .undef, .undef, .undef, .undef, .undef, .undef, .undef, .undef, .undef, .undef, .undef, .undef, .undef, .undef, .undef, .undef, .undef, .undef, .undef, .undef, .undef, .undef, .undef, .undef, .undef, .undef, .undef, .undef, .undef, .undef, .undef, .undef, .undef, .undef]) := by kernel_rfl
@[simp] theorem lA56x2 (t2 t3 t4 : PV) (K : RK) : denK T A56x2 [.undef, .undef, t2, t3, t4, .undef, .undef, .undef, .undef, .undef, .undef, .undef, .undef, .undef, .undef, .undef, .undef, .undef, .undef, .undef, .undef, .undef, .undef, .undef, .undef, .undef, .undef, .undef, .undef, .undef, .undef, .undef, .undef, .undef, .undef, .undef, .undef, .undef, .undef, .undef, .undef, .undef, .undef, .undef, .undef, .undef, .undef, .undef, .undef, .undef, .undef, .undef, .undef, .undef, .undef, .undef, .undef] K =
  Option.bind (chk t2 fun a0 => Prim.run .load [a0, (.ptr [])]) fun t11 =>
  Option.bind (chk t11 fun a0 => Option.bind (Ans T 84 [a0]) fun rs => retV 1 rs) fun t12 =>
  Option.bind (Prim.run .mov [(.agg [(.slice true []), (.slice true [])])]) fun t6 =>
  chk t12 fun a0 => chk t6 fun y0 => Option.bind (setP [] y0 a0) fun t6 =>
  K (.normal, [.undef, .undef, t2, t3, t4, .undef, t6, .undef, .undef, .undef, .undef, .undef, .undef, .undef, .undef, .undef, .undef, .undef, .undef, .undef, .undef, .undef, .undef, .undef, .undef, .undef, .undef, .undef, .undef, .undef, .undef, .undef, .undef, .undef, .undef, .undef, .undef, .undef, .undef, .undef, .undef, .undef, .undef, .undef, .undef, .undef, .undef, .undef, .undef, .undef, .undef, .undef, .undef, .undef, .undef, .undef, .undef]) := by kernel_rfl
@[simp] theorem lA56x3 (t2 t3 t4 t6 : PV) (K : RK) : denK T A56x3 [.undef, .undef, t2, t3, t4, .undef, t6, .undef, .undef, .undef, .undef, .undef, .undef, .undef, .undef, .undef, .undef, .undef, .undef, .undef, .undef, .undef, .undef, .undef, .undef, .undef, .undef, .undef, .undef, .undef, .undef, .undef, .undef, .undef, .undef, .undef, .undef, .undef, .undef, .undef, .undef, .undef, .undef, .undef, .undef, .undef, .undef, .undef, .undef, .undef, .undef, .undef, .undef, .undef, .undef, .undef, .undef] K =
  Option.bind (chk t2 fun a0 => Prim.run .load [a0, (.ptr [])]) fun t13 =>
  Option.bind (chk t13 fun a0 => Option.bind (Ans T 80 [a0]) fun rs => retV 1 rs) fun t14 =>
  Option.bind (chk t14 fun a0 => Prim.run (.un .not) [a0]) fun t15 =>
  chk t15 fun c0 => isB c0
 (Option.bind (chk t6 fun a0 => Prim.run .load [a0, (.ptr [])]) fun t16 =>
  chk t16 fun a0 => chk t4 fun y0 => Option.bind (setP [] y0 a0) fun t4 =>
  Option.bind (Prim.run .mov [(.int .i64 4200)]) fun t5 =>
  K (.ret, [.undef, .undef, .undef, .undef, t4, t5, .undef, .undef, .undef, .undef, .undef, .undef, .undef, .undef, .undef, .undef, t16, .undef, .undef, .undef, .undef, .undef, .undef, .undef, .undef, .undef, .undef, .undef, .undef, .undef, .undef, .undef, .undef, .undef, .undef, .undef, .undef, .undef, .undef, .undef, .undef, .undef, .undef, .undef, .undef, .undef, .undef, .undef, .undef, .undef, .undef, .undef, .undef, .undef, .undef, .undef, .undef]))
 (K (.normal, [.undef, .undef, t2, t3, t4, .undef, t6, .undef, .undef, .undef, .undef, .undef, .undef, .undef, .undef, t15, .undef, .undef, .undef, .undef, .undef, .undef, .undef, .undef, .undef, .undef, .undef, .undef, .undef, .undef, .undef, .undef, .undef, .undef, .undef, .undef, .undef, .undef, .undef, .undef, .undef, .undef, .undef, .undef, .undef, .undef, .undef, .undef, .undef, .undef, .undef, .undef, .undef, .undef, .undef, .undef, .undef])) := by kernel_rfl
@[simp] theorem lA56x4 (t2 t3 t4 t6 t15 : PV) (K : RK) : denK T A56x4 [.undef, .undef, t2, t3, t4, .undef, t6, .undef, .undef, .undef, .undef, .undef, .undef, .undef, .undef, t15, .undef, .undef, .undef, .undef, .undef, .undef, .undef, .undef, .undef, .undef, .undef, .undef, .undef, .undef, .undef, .undef, .undef, .undef, .undef, .undef, .undef, .undef, .undef, .undef, .undef, .undef, .undef, .undef, .undef, .undef, .undef, .undef, .undef, .undef, .undef, .undef, .undef, .undef, .undef, .undef, .undef] K =
  Option.bind (chk t2 fun a0 => Prim.run .load [a0, (.ptr [])]) fun t17 =>
  Option.bind (chk t17 fun a0 => Option.bind (Ans T 84 [a0]) fun rs => retV 1 rs) fun t18 =>
  Option.bind (Prim.run .mov [(.agg [(.slice true []), (.slice true [])])]) fun t7 =>
  chk t18 fun a0 => chk t7 fun y0 => Option.bind (setP [] y0 a0) fun t7 =>
  K (.normal, [.undef, .undef, .undef, t3, t4, .undef, t6, t7, .undef, .undef, .undef, .undef, .undef, .undef, .undef, .undef, .undef, .undef, .undef, .undef, .undef, .undef, .undef, .undef, .undef, .undef, .undef, .undef, .undef, .undef, .undef, .undef, .undef, .undef, .undef, .undef, .undef, .undef, .undef, .undef, .undef, .undef, .undef, .undef, .undef, .undef, .undef, .undef, .undef, .undef, .undef, .undef, .undef, .undef, .undef, .undef, .undef]) := by kernel_rfl
@[simp] theorem lA56x8 (t3 t4 t6 t7 t8 t20 t29 : PV) (K : RK) : denK T A56x8 [.undef, .undef, .undef, t3, t4, .undef, t6, t7, t8, .undef, .undef, .undef, .undef, .undef, .undef, .undef, .undef, .undef, .undef, .undef, t20, .undef, .undef, .undef, .undef, .undef, .undef, .undef, .undef, t29, .undef, .undef, .undef, .undef, .undef, .undef, .undef, .undef, .undef, .undef, .undef, .undef, .undef, .undef, .undef, .undef, .undef, .undef, .undef, .undef, .undef, .undef, .undef, .undef, .undef, .undef, .undef] K =
  Option.bind (chk t7 fun a0 => Prim.run .load [a0, (.ptr [])]) fun t32 =>
  Option.bind (Prim.run (.fptr 1) [(.ptr [])]) fun t33 =>
  Option.bind (chk t3 fun a0 => chk t33 fun a1 => Prim.run .load [a0, a1]) fun t34 =>
  Option.bind (chk t32 fun a0 => chk t34 fun a1 => Option.bind (Ans T 87 [a0, a1]) fun rs => retV 2 rs) fun t35 =>
  Option.bind (chk t35 fun a0 => Prim.run .mov [a0]) fun t31 =>
  Option.bind (chk t31 fun a0 => Prim.run (.ext 0) [a0]) fun t36 =>
  Option.bind (chk t31 fun a0 => Prim.run (.ext 1) [a0]) fun t37 =>
  Option.bind (chk t36 fun a0 => Prim.run .mov [a0]) fun t9 =>
  Option.bind (chk t37 fun a0 => Prim.run .mov [a0]) fun t10 =>
  K (.normal, [.undef, .undef, .undef, .undef, t4, .undef, t6, t7, t8, t9, t10, .undef, .undef, .undef, .undef, .undef, .undef, .undef, .undef, .undef, .undef, .undef, .undef, .undef, .undef, .undef, .undef, .undef, .undef, .undef, .undef, .undef, .undef, .undef, .undef, .undef, .undef, .undef, .undef, .undef, .undef, .undef, .undef, .undef, .undef, .undef, .undef, .undef, .undef, .undef, .undef, .undef, .undef, .undef, .undef, .undef, .undef]) := by kernel_rfl
@[simp] theorem lB56x8 (t4 t6 t7 t8 t9 t10 : PV) (K : RK) : denK T B56x8 [.undef, .undef, .undef, .undef, t4, .undef, t6, t7, t8, t9, t10, .undef, .undef, .undef, .undef, .undef, .undef, .undef, .undef, .undef, .undef, .undef, .undef, .undef, .undef, .undef, .undef, .undef, .undef, .undef, .undef, .undef, .undef, .undef, .undef, .undef, .undef, .undef, .undef, .undef, .undef, .undef, .undef, .undef, .undef, .undef, .undef, .undef, .undef, .undef, .undef, .undef, .undef, .undef, .undef, .undef, .undef] K =
  Option.bind (chk t10 fun a0 => Prim.run .mov [a0]) fun t38 =>
  Option.bind (chk t38 fun a0 => Prim.run (.un .not) [a0]) fun t39 =>
  chk t39 fun c0 => isB c0
 (Option.bind (chk t6 fun a0 => Prim.run .load [a0, (.ptr [])]) fun t40 =>
  chk t40 fun a0 => chk t4 fun y0 => Option.bind (setP [] y0 a0) fun t4 =>
  Option.bind (Prim.run .mov [(.int .i64 4202)]) fun t5 =>
  K (.ret, [.undef, .undef, .undef, .undef, t4, t5, .undef, .undef, .undef, .undef, .undef, .undef, .undef, .undef, .undef, .undef, .undef, .undef, .undef, .undef, .undef, .undef, .undef, .undef, .undef, .undef, .undef, .undef, .undef, .undef, .undef, .undef, .undef, .undef, .undef, .undef, .undef, .undef, .undef, .undef, t40, .undef, .undef, .undef, .undef, .undef, .undef, .undef, .undef, .undef, .undef, .undef, .undef, .undef, .undef, .undef, .undef]))
 (Option.bind (Prim.run (.fptr 1) [(.ptr [])]) fun t41 =>
  Option.bind (chk t7 fun a0 => chk t41 fun a1 => Prim.run .load [a0, a1]) fun t42 =>
  Option.bind (chk t9 fun a0 => Prim.run .mov [a0]) fun t43 =>
  Option.bind (chk t9 fun a0 => Prim.run .mov [a0]) fun t44 =>
  Option.bind (chk t44 fun a0 => Prim.run (.bin .add) [a0, (.int .i64 1)]) fun t45 =>
  Option.bind (chk t42 fun a0 => chk t43 fun a1 => chk t45 fun a2 => Option.bind (Ans T 88 [a0, a1, a2]) fun rs => retV 1 rs) fun t46 =>
  Option.bind (Prim.run (.fptr 1) [(.ptr [])]) fun t47 =>
  chk t46 fun a0 => asPath t47 fun q0 => chk t7 fun y0 => Option.bind (setP q0 y0 a0) fun t7 =>
  K (.normal, [.undef, .undef, .undef, .undef, t4, .undef, t6, t7, t8, .undef, .undef, .undef, .undef, .undef, .undef, .undef, .undef, .undef, .undef, .undef, .undef, .undef, .undef, .undef, .undef, .undef, .undef, .undef, .undef, .undef, .undef, .undef, .undef, .undef, .undef, .undef, .undef, .undef, .undef, .undef, .undef, .undef, t42, .undef, .undef, .undef, .undef, .undef, .undef, .undef, .undef, .undef, .undef, .undef, .undef, .undef, .undef])) := by kernel_rfl
@[simp] theorem lA56x5 (t3 t4 t6 t7 t8 : PV) (K : RK) : denK T A56x5 [.undef, .undef, .undef, t3, t4, .undef, t6, t7, t8, .undef, .undef, .undef, .undef, .undef, .undef, .undef, .undef, .undef, .undef, .undef, .undef, .undef, .undef, .undef, .undef, .undef, .undef, .undef, .undef, .undef, .undef, .undef, .undef, .undef, .undef, .undef, .undef, .undef, .undef, .undef, .undef, .undef, .undef, .undef, .undef, .undef, .undef, .undef, .undef, .undef, .undef, .undef, .undef, .undef, .undef, .undef, .undef] K =
  Option.bind (Prim.run (.fptr 0) [(.ptr [])]) fun t19 =>
  Option.bind (chk t3 fun a0 => chk t19 fun a1 => Prim.run .load [a0, a1]) fun t20 =>
  Option.bind (chk t20 fun a0 => Prim.run (.bin .eql) [a0, (.int .i64 4)]) fun t22 =>
  Option.bind (chk t22 fun a0 => Prim.run .mov [a0]) fun t21 =>
  chk t21 fun c0 => isB c0
 (Option.bind (chk t3 fun a0 => Prim.run .load [a0, (.ptr [])]) fun t23 =>
  chk t7 fun a0r => Option.bind (getP [] a0r) fun a0 => chk t23 fun a1 => Option.bind (Ans T 85 [a0, a1]) fun rs6 => consK (rs6.drop 1) fun y0 ys0 => chk t7 fun x0 => Option.bind (setP [] x0 y0) fun t7 => nilK ys0 (Option.bind (chk (resultOf 1 rs6) fun a0 => Prim.run .mov [a0]) fun t8 =>
  K (.normal, [.undef, .undef, .undef, .undef, t4, .undef, t6, t7, t8, .undef, .undef, .undef, .undef, .undef, .undef, .undef, .undef, .undef, .undef, .undef, .undef, .undef, .undef, .undef, .undef, .undef, .undef, .undef, .undef, .undef, .undef, .undef, .undef, .undef, .undef, .undef, .undef, .undef, .undef, .undef, .undef, .undef, .undef, .undef, .undef, .undef, .undef, .undef, .undef, .undef, .undef, .undef, .undef, .undef, .undef, .undef, .undef])))
 (Option.bind (chk t20 fun a0 => Prim.run (.bin .eql) [a0, (.int .i64 1)]) fun t26 =>
  Option.bind (chk t26 fun a0 => Prim.run .mov [a0]) fun t25 =>
  chk t25 fun c0 => isB c0
 (Option.bind (chk t3 fun a0 => Prim.run .load [a0, (.ptr [])]) fun t27 =>
  chk t7 fun a0r => Option.bind (getP [] a0r) fun a0 => chk t27 fun a1 => Option.bind (Ans T 86 [a0, a1]) fun rs7 => consK (rs7.drop 1) fun y0 ys0 => chk t7 fun x0 => Option.bind (setP [] x0 y0) fun t7 => nilK ys0 (Option.bind (chk (resultOf 1 rs7) fun a0 => Prim.run .mov [a0]) fun t8 =>
  K (.normal, [.undef, .undef, .undef, .undef, t4, .undef, t6, t7, t8, .undef, .undef, .undef, .undef, .undef, .undef, .undef, .undef, .undef, .undef, .undef, .undef, .undef, .undef, .undef, .undef, .undef, .undef, .undef, .undef, .undef, .undef, .undef, .undef, .undef, .undef, .undef, .undef, .undef, .undef, .undef, .undef, .undef, .undef, .undef, .undef, .undef, .undef, .undef, .undef, .undef, .undef, .undef, .undef, .undef, .undef, .undef, .undef])))
 (Option.bind (chk t20 fun a0 => Prim.run (.bin .eql) [a0, (.int .i64 2)]) fun t30 =>
  Option.bind (chk t30 fun a0 => Prim.run .mov [a0]) fun t29 =>
  chk t29 fun c0 => isB c0
 (denK T A56x8 [.undef, .undef, .undef, t3, t4, .undef, t6, t7, t8, .undef, .undef, .undef, .undef, .undef, .undef, .undef, .undef, .undef, .undef, .undef, t20, .undef, .undef, .undef, .undef, .undef, .undef, .undef, .undef, t29, .undef, .undef, .undef, .undef, .undef, .undef, .undef, .undef, .undef, .undef, .undef, .undef, .undef, .undef, .undef, .undef, .undef, .undef, .undef, .undef, .undef, .undef, .undef, .undef, .undef, .undef, .undef] (seqK T B56x8 (blockK 0 K)))
 (Option.bind (chk t20 fun a0 => Prim.run (.bin .eql) [a0, (.int .i64 3)]) fun t49 =>
  Option.bind (chk t49 fun a0 => Prim.run .mov [a0]) fun t48 =>
  chk t48 fun c0 => isB c0
 (Option.bind (Prim.run .mov []) fun _ =>
  K (.normal, [.undef, .undef, .undef, t3, t4, .undef, t6, t7, .undef, .undef, .undef, .undef, .undef, .undef, .undef, .undef, .undef, .undef, .undef, .undef, .undef, .undef, .undef, .undef, .undef, .undef, .undef, .undef, .undef, .undef, .undef, .undef, .undef, .undef, .undef, .undef, .undef, .undef, .undef, .undef, .undef, .undef, .undef, .undef, .undef, .undef, .undef, .undef, t48, .undef, .undef, .undef, .undef, .undef, .undef, .undef, .undef]))
 (Option.bind (Prim.run .mov [(.int .i64 4200)]) fun t8 =>
  K (.normal, [.undef, .undef, .undef, .undef, t4, .undef, t6, t7, t8, .undef, .undef, .undef, .undef, .undef, .undef, .undef, .undef, .undef, .undef, .undef, .undef, .undef, .undef, .undef, .undef, .undef, .undef, .undef, .undef, .undef, .undef, .undef, .undef, .undef, .undef, .undef, .undef, .undef, .undef, .undef, .undef, .undef, .undef, .undef, .undef, .undef, .undef, .undef, .undef, .undef, .undef, .undef, .undef, .undef, .undef, .undef, .undef]))))) := by kernel_rfl
@[simp] theorem lB56x5 (t3 t4 t6 t7 t8 t42 t48 : PV) (K : RK) : denK T B56x5 [.undef, .undef, .undef, t3, t4, .undef, t6, t7, t8, .undef, .undef, .undef, .undef, .undef, .undef, .undef, .undef, .undef, .undef, .undef, .undef, .undef, .undef, .undef, .undef, .undef, .undef, .undef, .undef, .undef, .undef, .undef, .undef, .undef, .undef, .undef, .undef, .undef, .undef, .undef, .undef, .undef, t42, .undef, .undef, .undef, .undef, .undef, t48, .undef, .undef, .undef, .undef, .undef, .undef, .undef, .undef] K =
  Option.bind (chk t8 fun a0 => Prim.run .mov [a0]) fun t52 =>
  Option.bind (chk t52 fun a0 => Prim.run (.bin .neq) [a0, (.int .i64 0)]) fun t53 =>
  chk t53 fun c0 => isB c0
 (Option.bind (chk t6 fun a0 => Prim.run .load [a0, (.ptr [])]) fun t54 =>
  Option.bind (chk t8 fun a0 => Prim.run .mov [a0]) fun t55 =>
  chk t54 fun a0 => chk t4 fun y0 => Option.bind (setP [] y0 a0) fun t4 =>
  Option.bind (chk t55 fun a0 => Prim.run .mov [a0]) fun t5 =>
  K (.ret, [.undef, .undef, .undef, t3, t4, t5, .undef, .undef, .undef, .undef, .undef, .undef, .undef, .undef, .undef, .undef, .undef, .undef, .undef, .undef, .undef, .undef, .undef, .undef, .undef, .undef, .undef, .undef, .undef, .undef, .undef, .undef, .undef, .undef, .undef, .undef, .undef, .undef, .undef, .undef, .undef, .undef, t42, .undef, .undef, .undef, .undef, .undef, t48, .undef, .undef, .undef, .undef, .undef, t54, .undef, .undef]))
 (Option.bind (chk t7 fun a0 => Prim.run .load [a0, (.ptr [])]) fun t56 =>
  chk t56 fun a0 => chk t4 fun y0 => Option.bind (setP [] y0 a0) fun t4 =>
  Option.bind (Prim.run .mov [(.int .i64 0)]) fun t5 =>
  K (.ret, [.undef, .undef, .undef, t3, t4, t5, .undef, .undef, .undef, .undef, .undef, .undef, .undef, .undef, .undef, .undef, .undef, .undef, .undef, .undef, .undef, .undef, .undef, .undef, .undef, .undef, .undef, .undef, .undef, .undef, .undef, .undef, .undef, .undef, .undef, .undef, .undef, .undef, .undef, .undef, .undef, .undef, t42, .undef, .undef, .undef, .undef, .undef, t48, .undef, .undef, .undef, .undef, .undef, .undef, .undef, t56])) := by kernel_rfl
@[simp] theorem lB56x4 (t3 t4 t6 t7 : PV) (K : RK) : denK T B56x4 [.undef, .undef, .undef, t3, t4, .undef, t6, t7, .undef, .undef, .undef, .undef, .undef, .undef, .undef, .undef, .undef, .undef, .undef, .undef, .undef, .undef, .undef, .undef, .undef, .undef, .undef, .undef, .undef, .undef, .undef, .undef, .undef, .undef, .undef, .undef, .undef, .undef, .undef, .undef, .undef, .undef, .undef, .undef, .undef, .undef, .undef, .undef, .undef, .undef, .undef, .undef, .undef, .undef, .undef, .undef, .undef] K =
  Option.bind (Prim.run .mov [(.int .i64 0)]) fun t8 =>
  denK T A56x5 [.undef, .undef, .undef, t3, t4, .undef, t6, t7, t8, .undef, .undef, .undef, .undef, .undef, .undef, .undef, .undef, .undef, .undef, .undef, .undef, .undef, .undef, .undef, .undef, .undef, .undef, .undef, .undef, .undef, .undef, .undef, .undef, .undef, .undef, .undef, .undef, .undef, .undef, .undef, .undef, .undef, .undef, .undef, .undef, .undef, .undef, .undef, .undef, .undef, .undef, .undef, .undef, .undef, .undef, .undef, .undef] (seqK T B56x5 K) := by kernel_rfl
@[simp] theorem lB56x3 (t2 t3 t4 t6 t15 : PV) (K : RK) : denK T B56x3 [.undef, .undef, t2, t3, t4, .undef, t6, .undef, .undef, .undef, .undef, .undef, .undef, .undef, .undef, t15, .undef, .undef, .undef, .undef, .undef, .undef, .undef, .undef, .undef, .undef, .undef, .undef, .undef, .undef, .undef, .undef, .undef, .undef, .undef, .undef, .undef, .undef, .undef, .undef, .undef, .undef, .undef, .undef, .undef, .undef, .undef, .undef, .undef, .undef, .undef, .undef, .undef, .undef, .undef, .undef, .undef] K =
  denK T A56x4 [.undef, .undef, t2, t3, t4, .undef, t6, .undef, .undef, .undef, .undef, .undef, .undef, .undef, .undef, t15, .undef, .undef, .undef, .undef, .undef, .undef, .undef, .undef, .undef, .undef, .undef, .undef, .undef, .undef, .undef, .undef, .undef, .undef, .undef, .undef, .undef, .undef, .undef, .undef, .undef, .undef, .undef, .undef, .undef, .undef, .undef, .undef, .undef, .undef, .undef, .undef, .undef, .undef, .undef, .undef, .undef] (seqK T B56x4 K) := by kernel_rfl
@[simp] theorem lB56x2 (t2 t3 t4 t6 : PV) (K : RK) : denK T B56x2 [.undef, .undef, t2, t3, t4, .undef, t6, .undef, .undef, .undef, .undef, .undef, .undef, .undef, .undef, .undef, .undef, .undef, .undef, .undef, .undef, .undef, .undef, .undef, .undef, .undef, .undef, .undef, .undef, .undef, .undef, .undef, .undef, .undef, .undef, .undef, .undef, .undef, .undef, .undef, .undef, .undef, .undef, .undef, .undef, .undef, .undef, .undef, .undef, .undef, .undef, .undef, .undef, .undef, .undef, .undef, .undef] K =
  denK T A56x3 [.undef, .undef, t2, t3, t4, .undef, t6, .undef, .undef, .undef, .undef, .undef, .undef, .undef, .undef, .undef, .undef, .undef, .undef, .undef, .undef, .undef, .undef, .undef, .undef, .undef, .undef, .undef, .undef, .undef, .undef, .undef, .undef, .undef, .undef, .undef, .undef, .undef, .undef, .undef, .undef, .undef, .undef, .undef, .undef, .undef, .undef, .undef, .undef, .undef, .undef, .undef, .undef, .undef, .undef, .undef, .undef] (seqK T B56x3 K) := by kernel_rfl
@[simp] theorem lB56x1 (t2 t3 t4 : PV) (K : RK) : denK T B56x1 [.undef, .undef, t2, t3, t4, .undef, .undef, .undef, .undef, .undef, .undef, .undef, .undef, .undef, .undef, .undef, .undef, .undef, .undef, .undef, .undef, .undef, .undef, .undef, .undef, .undef, .undef, .undef, .undef, .undef, .undef, .undef, .undef, .undef, .undef, .undef, .undef, .undef, .undef, .undef, .undef, .undef, .undef, .undef, .undef, .undef, .undef, .undef, .undef, .undef, .undef, .undef, .undef, .undef, .undef, .undef, .undef] K =
  denK T A56x2 [.undef, .undef, t2, t3, t4, .undef, .undef, .undef, .undef, .undef, .undef, .undef, .undef, .undef, .undef, .undef, .undef, .undef, .undef, .undef, .undef, .undef, .undef, .undef, .undef, .undef, .undef, .undef, .undef, .undef, .undef, .undef, .undef, .undef, .undef, .undef, .undef, .undef, .undef, .undef, .undef, .undef, .undef, .undef, .undef, .undef, .undef, .undef, .undef, .undef, .undef, .undef, .undef, .undef, .undef, .undef, .undef] (seqK T B56x2 K) := by kernel_rfl
theorem f56 (t0 t1 : PV) {rs : List PV} (h : (denK T A56x1 [t0, t1, .undef, .undef, .undef, .undef, .undef, .undef, .undef, .undef, .undef, .undef, .undef, .undef, .undef, .undef, .undef, .undef, .undef, .undef, .undef, .undef, .undef, .undef, .undef, .undef, .undef, .undef, .undef, .undef, .undef, .undef, .undef, .undef, .undef, .undef, .undef, .undef, .undef, .undef, .undef, .undef, .undef, .undef, .undef, .undef, .undef, .undef, .undef, .undef, .undef, .undef, .undef, .undef, .undef, .undef, .undef] (seqK T B56x1 (endK [4, 5]))) = some rs) : Ans T 56 [t0, t1] = some rs := call_of (T := T) c56 (Eq.trans (by kernel_rfl) h)
end Go.Proofs.Ytaldhebldjphbaa

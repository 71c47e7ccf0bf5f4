/-
  The law JournalCodes: what its functions compute, and that it answers true.
  Conditions: none.
-/
import Derived.Test.YtaldhebldjphbaaRows
import Derived.Test.YtaldhebldjphbaaVmF
namespace Go.Proofs.Ytaldhebldjphbaa
open Go.Vm
set_option maxRecDepth 100000
set_option linter.unusedVariables false
def sg : Sigs := fun f => match f with
  | 13 => some ⟨[(.val (.agg [.sc, .sc, .sc, .sc, (.agg [.sc, .sc, .sc, .sc]), (.agg [.sc, .sc, .sc])])), (.val .sc)], [.sc], false⟩
  | 47 => some ⟨[(.val .sc), (.val .sc)], [.sc], false⟩
  | 48 => some ⟨[(.val .sc)], [.sc, .sc, .sc], false⟩
  | 51 => some ⟨[], [.sc], false⟩
  | 52 => some ⟨[(.val .sc)], [(.agg [.sc, .sc, .sc, .sc, (.agg [.sc, .sc, .sc, .sc]), (.agg [.sc, .sc, .sc])]), .sc], false⟩
  | 53 => some ⟨[(.val (.agg [.sc, .sc, .sc, .sc, (.agg [.sc, .sc, .sc, .sc]), (.agg [.sc, .sc, .sc])]))], [.sc], false⟩
  | 54 => some ⟨[(.val .sc), (.val (.agg [.sc, .sc, .sc, .sc, (.agg [.sc, .sc, .sc, .sc]), (.agg [.sc, .sc, .sc])]))], [.sc, .sc], false⟩
  | 56 => some ⟨[(.val (.agg [(.sl .sh (.agg [.sc, .sc, .sc])), (.sl .sh (.agg [.sc, (.agg [.sc, .sc, .sc, .sc]), (.agg [.sc, .sc])]))])), (.val (.agg [.sc, .sc, .sc, .sc, (.agg [.sc, .sc, .sc, .sc]), (.agg [.sc, .sc, .sc])]))], [(.agg [(.sl .own (.agg [.sc, .sc, .sc])), (.sl .sh (.agg [.sc, (.agg [.sc, .sc, .sc, .sc]), (.agg [.sc, .sc])]))]), .sc], false⟩
  | 57 => some ⟨[(.val .sc)], [(.agg [(.sl .own (.agg [.sc, .sc, .sc])), (.sl .sh (.agg [.sc, (.agg [.sc, .sc, .sc, .sc]), (.agg [.sc, .sc])]))]), .sc], false⟩
  | 63 => some ⟨[(.val .sc)], [.sc, .sc, .sc], false⟩
  | 66 => some ⟨[(.val .sc)], [.sc], false⟩
  | 71 => some ⟨[(.val .sc)], [.sc], false⟩
  | 72 => some ⟨[(.val .sc)], [.sc], false⟩
  | 73 => some ⟨[(.ref (.agg [.sc, .sc]) (.agg [.sc, .sc]))], [.sc], false⟩
  | 74 => some ⟨[(.ref (.agg [.sc, .sc]) (.agg [.sc, .sc]))], [.sc], false⟩
  | 79 => some ⟨[(.val .sc)], [(.sl .own (.agg [.sc, .sc, .sc, .sc, (.agg [.sc, .sc, .sc, .sc]), (.agg [.sc, .sc, .sc])])), .sc], false⟩
  | 80 => some ⟨[(.val (.agg [(.sl .sh (.agg [.sc, .sc, .sc])), (.sl .sh (.agg [.sc, (.agg [.sc, .sc, .sc, .sc]), (.agg [.sc, .sc])]))]))], [.sc], false⟩
  | 81 => some ⟨[(.ref (.agg [.sc, .sc]) (.agg [.sc, .sc]))], [.sc], false⟩
  | 82 => some ⟨[(.ref (.agg [.sc, .sc]) (.agg [.sc, .sc]))], [.sc], false⟩
  | 83 => some ⟨[(.val .sc), (.ref (.sl .own .sc) (.sl .own .sc))], [], false⟩
  | 84 => some ⟨[(.val (.agg [(.sl .sh (.agg [.sc, .sc, .sc])), (.sl .sh (.agg [.sc, (.agg [.sc, .sc, .sc, .sc]), (.agg [.sc, .sc])]))]))], [(.agg [(.sl .own (.agg [.sc, .sc, .sc])), (.sl .own (.agg [.sc, (.agg [.sc, .sc, .sc, .sc]), (.agg [.sc, .sc])]))])], false⟩
  | 85 => some ⟨[(.ref (.agg [(.sl .own (.agg [.sc, .sc, .sc])), (.sl .own (.agg [.sc, (.agg [.sc, .sc, .sc, .sc]), (.agg [.sc, .sc])]))]) (.agg [(.sl .own (.agg [.sc, .sc, .sc])), (.sl .own (.agg [.sc, (.agg [.sc, .sc, .sc, .sc]), (.agg [.sc, .sc])]))])), (.val (.agg [.sc, .sc, .sc, .sc, (.agg [.sc, .sc, .sc, .sc]), (.agg [.sc, .sc, .sc])]))], [.sc], false⟩
  | 86 => some ⟨[(.ref (.agg [(.sl .own (.agg [.sc, .sc, .sc])), (.sl .own (.agg [.sc, (.agg [.sc, .sc, .sc, .sc]), (.agg [.sc, .sc])]))]) (.agg [(.sl .own (.agg [.sc, .sc, .sc])), (.sl .own (.agg [.sc, (.agg [.sc, .sc, .sc, .sc]), (.agg [.sc, .sc])]))])), (.val (.agg [.sc, .sc, .sc, .sc, (.agg [.sc, .sc, .sc, .sc]), (.agg [.sc, .sc, .sc])]))], [.sc], false⟩
  | 87 => some ⟨[(.val (.agg [(.sl .sh (.agg [.sc, .sc, .sc])), (.sl .sh (.agg [.sc, (.agg [.sc, .sc, .sc, .sc]), (.agg [.sc, .sc])]))])), (.val .sc)], [.sc, .sc], false⟩
  | 88 => some ⟨[(.val (.sl .sh (.agg [.sc, (.agg [.sc, .sc, .sc, .sc]), (.agg [.sc, .sc])]))), (.val .sc), (.val .sc)], [(.sl .sh (.agg [.sc, (.agg [.sc, .sc, .sc, .sc]), (.agg [.sc, .sc])]))], false⟩
  | 94 => some ⟨[(.val .sc), (.val .sc)], [.sc], false⟩
  | 95 => some ⟨[(.val .sc)], [.sc], false⟩
  | 96 => some ⟨[(.val (.agg [.sc, .sc, .sc, .sc]))], [.sc], false⟩
  | 97 => some ⟨[(.val (.agg [(.sl .sh (.agg [.sc, .sc, .sc])), (.sl .sh (.agg [.sc, (.agg [.sc, .sc, .sc, .sc]), (.agg [.sc, .sc])]))])), (.val .sc)], [.sc], false⟩
  | 98 => some ⟨[(.val (.agg [.sc, .sc, .sc]))], [.sc], false⟩
  | 99 => some ⟨[(.val (.agg [.sc, .sc, .sc])), (.val (.sl .sh (.agg [.sc, .sc, .sc, .sc])))], [.sc], false⟩
  | 100 => some ⟨[(.val (.sl .sh (.agg [.sc, (.agg [.sc, .sc, .sc, .sc]), (.agg [.sc, .sc])]))), (.val .sc)], [(.sl .own (.agg [.sc, .sc, .sc, .sc]))], false⟩
  | 101 => some ⟨[(.val (.sl .sh (.agg [.sc, .sc, .sc])))], [(.sl .own (.agg [.sc, .sc, .sc]))], false⟩
  | 102 => some ⟨[(.val (.sl .sh (.agg [.sc, (.agg [.sc, .sc, .sc, .sc]), (.agg [.sc, .sc])])))], [(.sl .own (.agg [.sc, (.agg [.sc, .sc, .sc, .sc]), (.agg [.sc, .sc])]))], false⟩
  | 103 => some ⟨[(.val (.agg [.sc, .sc, .sc])), (.val (.sl .sh (.agg [.sc, .sc, .sc, .sc]))), (.val (.agg [.sc, .sc, .sc, .sc]))], [.sc], false⟩
  | 104 => some ⟨[(.val (.sl .own (.agg [.sc, (.agg [.sc, .sc, .sc, .sc]), (.agg [.sc, .sc])]))), (.val .sc), (.val (.sl .sh (.agg [.sc, (.agg [.sc, .sc, .sc, .sc]), (.agg [.sc, .sc])])))], [(.sl .own (.agg [.sc, (.agg [.sc, .sc, .sc, .sc]), (.agg [.sc, .sc])]))], false⟩
  | 110 => some ⟨[(.val .sc)], [.sc], false⟩
  | 111 => some ⟨[(.val (.agg [.sc, .sc, .sc])), (.val (.sl .sh (.agg [.sc, .sc, .sc, .sc])))], [.sc], false⟩
  | 112 => some ⟨[(.val (.agg [.sc, .sc, .sc])), (.val (.sl .sh (.agg [.sc, .sc, .sc, .sc])))], [.sc, .sc], false⟩
  | _ => none

/-- vmfleet/vmfleetlaw42.JournalCodes -/
def F13 : VFunc := ⟨57,
  (.seq (.region [⟨(some 2), none, (.prim .mov [(.tmp 0)])⟩,
    ⟨(some 4), none, (.prim .mov [(.const (.bool false))])⟩] [0, 4])
  (.seq (.seq (.region [⟨(some 9), none, (.prim (.fptr 1) [(.const (.ptr []))])⟩,
    ⟨(some 10), none, (.prim .load [(.tmp 2), (.tmp 9)])⟩,
    ⟨(some 11), none, (.prim .len [(.tmp 10)])⟩,
    ⟨(some 12), none, (.prim (.bin .gtr) [(.tmp 11), (.const (.int .i64 300))])⟩,
    ⟨(some 13), none, (.prim .mov [(.tmp 12)])⟩,
    ⟨(some 14), (some (13, false)), (.prim .mov [(.tmp 1)])⟩,
    ⟨(some 15), (some (13, false)), (.prim .len [(.tmp 14)])⟩,
    ⟨(some 16), (some (13, false)), (.prim (.bin .gtr) [(.tmp 15), (.const (.int .i64 300))])⟩,
    ⟨(some 17), none, (.pick (.tmp 13) (.const (.bool true)) (.tmp 16))⟩] [9, 10, 11, 12, 13, 14, 15, 16])
  (.cond (.tmp 17)
  (.seq (.region [⟨(some 18), none, (.call 51 1 [] [])⟩,
    ⟨(some 4), none, (.prim .mov [(.tmp 18)])⟩] [1, 2, 17, 18])
  .ret)
  .skip))
  (.seq (.region [⟨(some 20), none, (.prim .load [(.tmp 2), (.const (.ptr []))])⟩,
    ⟨(some 21), none, (.call 53 1 [(.tmp 20)] [])⟩,
    ⟨(some 22), none, (.call 52 2 [(.tmp 21)] [])⟩,
    ⟨(some 19), none, (.prim .mov [(.tmp 22)])⟩,
    ⟨(some 23), none, (.prim (.ext 0) [(.tmp 19)])⟩,
    ⟨(some 24), none, (.prim (.ext 1) [(.tmp 19)])⟩,
    ⟨(some 5), none, (.prim .mov [(.const (.agg [(.int .i64 0), (.str []), (.int .i64 0), (.int .i64 0), (.agg [(.int .i64 0), (.int .i64 0), (.int .i64 0), (.int .i64 0)]), (.agg [(.int .i64 0), (.int .i64 0), (.bool false)])]))])⟩,
    ⟨none, none, (.store 5 none (.tmp 23))⟩,
    ⟨(some 6), none, (.prim .mov [(.tmp 24)])⟩] [17, 19, 20, 21, 22, 23, 24])
  (.seq (.region [⟨(some 26), none, (.prim .mov [(.tmp 1)])⟩,
    ⟨(some 27), none, (.call 52 2 [(.tmp 26)] [])⟩,
    ⟨(some 25), none, (.prim .mov [(.tmp 27)])⟩,
    ⟨(some 28), none, (.prim (.ext 0) [(.tmp 25)])⟩,
    ⟨(some 29), none, (.prim (.ext 1) [(.tmp 25)])⟩,
    ⟨(some 7), none, (.prim .mov [(.const (.agg [(.int .i64 0), (.str []), (.int .i64 0), (.int .i64 0), (.agg [(.int .i64 0), (.int .i64 0), (.int .i64 0), (.int .i64 0)]), (.agg [(.int .i64 0), (.int .i64 0), (.bool false)])]))])⟩,
    ⟨none, none, (.store 7 none (.tmp 28))⟩,
    ⟨(some 8), none, (.prim .mov [(.tmp 29)])⟩] [25, 26, 27, 28, 29])
  (.seq (.region [⟨(some 30), none, (.prim .mov [(.tmp 6)])⟩,
    ⟨(some 31), none, (.prim .mov [(.tmp 30)])⟩,
    ⟨(some 32), (some (31, true)), (.prim .load [(.tmp 5), (.const (.ptr []))])⟩,
    ⟨(some 33), (some (31, true)), (.prim .load [(.tmp 2), (.const (.ptr []))])⟩,
    ⟨(some 34), (some (31, true)), (.prim (.eqv false (.agg [(.int .i64 0), (.str []), (.int .i64 0), (.int .i64 0), (.agg [(.int .i64 0), (.int .i64 0), (.int .i64 0), (.int .i64 0)]), (.agg [(.int .i64 0), (.int .i64 0), (.bool false)])])) [(.tmp 32), (.tmp 33)])⟩,
    ⟨(some 35), none, (.pick (.tmp 31) (.tmp 34) (.const (.bool false)))⟩,
    ⟨(some 36), none, (.prim .mov [(.tmp 35)])⟩,
    ⟨(some 37), (some (36, true)), (.prim .mov [(.tmp 8)])⟩,
    ⟨(some 38), (some (36, true)), (.prim (.un .not) [(.tmp 37)])⟩,
    ⟨(some 39), (some (36, true)), (.prim .mov [(.tmp 38)])⟩,
    ⟨(some 40), (some (39, false)), (.prim .load [(.tmp 7), (.const (.ptr []))])⟩,
    ⟨(some 41), (some (39, false)), (.call 53 1 [(.tmp 40)] [])⟩,
    ⟨(some 42), (some (39, false)), (.prim .mov [(.tmp 1)])⟩,
    ⟨(some 43), (some (39, false)), (.prim (.bin .eql) [(.tmp 41), (.tmp 42)])⟩,
    ⟨(some 44), (some (36, true)), (.pick (.tmp 39) (.const (.bool true)) (.tmp 43))⟩,
    ⟨(some 45), none, (.pick (.tmp 36) (.tmp 44) (.const (.bool false)))⟩,
    ⟨(some 46), none, (.prim .mov [(.tmp 45)])⟩,
    ⟨(some 47), (some (46, true)), (.prim .mov [(.tmp 8)])⟩,
    ⟨(some 48), (some (46, true)), (.prim .mov [(.tmp 47)])⟩,
    ⟨(some 49), (some (48, false)), (.prim .load [(.tmp 7), (.const (.ptr []))])⟩,
    ⟨(some 50), (some (48, false)), (.prim (.build [(.int .i64 0), (.str []), (.int .i64 0), (.int .i64 0), (.agg [(.int .i64 0), (.int .i64 0), (.int .i64 0), (.int .i64 0)]), (.agg [(.int .i64 0), (.int .i64 0), (.bool false)])] []) [])⟩,
    ⟨(some 51), (some (48, false)), (.prim (.eqv false (.agg [(.int .i64 0), (.str []), (.int .i64 0), (.int .i64 0), (.agg [(.int .i64 0), (.int .i64 0), (.int .i64 0), (.int .i64 0)]), (.agg [(.int .i64 0), (.int .i64 0), (.bool false)])])) [(.tmp 49), (.tmp 50)])⟩,
    ⟨(some 52), (some (46, true)), (.pick (.tmp 48) (.const (.bool true)) (.tmp 51))⟩,
    ⟨(some 53), none, (.pick (.tmp 46) (.tmp 52) (.const (.bool false)))⟩,
    ⟨(some 54), none, (.prim .mov [(.tmp 53)])⟩,
    ⟨(some 55), (some (54, true)), (.call 51 1 [] [])⟩,
    ⟨(some 56), none, (.pick (.tmp 54) (.tmp 55) (.const (.bool false)))⟩,
    ⟨(some 4), none, (.prim .mov [(.tmp 56)])⟩] [1, 2, 5, 6, 7, 8, 30, 31, 32, 33, 34, 35, 36, 37, 38, 39, 40, 41, 42, 43, 44, 45, 46, 47, 48, 49, 50, 51, 52, 53, 54, 55, 56])
  .ret))))), [4], []⟩
theorem c13 : compile Try.prog sg 13 = some F13 := by kernel_rfl


/-- vmfleet/eventlog.Seal -/
def F47 : VFunc := ⟨15,
  (.seq (.region [⟨(some 4), none, (.prim .mov [(.const (.str []))])⟩] [4])
  (.seq (.region [⟨(some 6), none, (.prim .mov [(.tmp 0)])⟩,
    ⟨(some 7), none, (.call 66 1 [(.tmp 6)] [])⟩,
    ⟨(some 8), none, (.prim .mov [(.tmp 1)])⟩,
    ⟨(some 9), none, (.call 71 1 [(.tmp 8)] [])⟩,
    ⟨(some 10), none, (.prim (.bin .add) [(.tmp 7), (.tmp 9)])⟩,
    ⟨(some 5), none, (.prim .mov [(.tmp 10)])⟩] [0, 1, 6, 7, 8, 9, 10])
  (.seq (.region [⟨(some 11), none, (.prim .mov [(.tmp 5)])⟩,
    ⟨(some 12), none, (.prim .mov [(.tmp 5)])⟩,
    ⟨(some 13), none, (.call 72 1 [(.tmp 12)] [])⟩,
    ⟨(some 14), none, (.prim (.bin .add) [(.tmp 11), (.tmp 13)])⟩,
    ⟨(some 4), none, (.prim .mov [(.tmp 14)])⟩] [5, 11, 12, 13, 14])
  .ret))), [4], []⟩
theorem c47 : compile Try.prog sg 47 = some F47 := by kernel_rfl


/-- vmfleet/eventlog.Open -/
def F48 : VFunc := ⟨41,
  (.seq (.region [⟨(some 2), none, (.prim .mov [(.const (.int .u64 0))])⟩,
    ⟨(some 3), none, (.prim .mov [(.const (.str []))])⟩,
    ⟨(some 4), none, (.prim .mov [(.const (.int .i64 0))])⟩] [2, 3, 4])
  (.seq (.region [⟨(some 8), none, (.prim .mov [(.tmp 0)])⟩,
    ⟨(some 9), none, (.prim (.build [(.str []), (.bool false)] [0, 1]) [(.tmp 8), (.const (.bool true))])⟩,
    ⟨(some 10), none, (.prim .mov [(.tmp 9)])⟩,
    ⟨(some 5), none, (.prim .mov [(.const (.ptr []))])⟩] [8, 9])
  (.seq (.region [⟨(some 11), none, (.prim .mov [(.tmp 5)])⟩,
    ⟨(some 12), none, (.call 73 1 [(.deref 10 (some 11))] [(10, (some 11))])⟩,
    ⟨(some 13), none, (.prim .mov [(.tmp 5)])⟩,
    ⟨(some 14), none, (.call 74 1 [(.deref 10 (some 13))] [(10, (some 13))])⟩,
    ⟨(some 6), none, (.prim .mov [(.tmp 12)])⟩,
    ⟨(some 7), none, (.prim .mov [(.tmp 14)])⟩] [11, 12, 13, 14])
  (.seq (.seq (.region [⟨(some 15), none, (.prim .mov [(.tmp 5)])⟩,
    ⟨(some 16), none, (.prim .mov [(.tmp 15)])⟩,
    ⟨(some 17), none, (.prim (.fptr 1) [(.tmp 16)])⟩,
    ⟨(some 18), none, (.prim .load [(.tmp 10), (.tmp 17)])⟩,
    ⟨(some 19), none, (.prim (.un .not) [(.tmp 18)])⟩,
    ⟨(some 20), none, (.prim .mov [(.tmp 19)])⟩,
    ⟨(some 21), (some (20, false)), (.prim .mov [(.tmp 5)])⟩,
    ⟨(some 22), (some (20, false)), (.prim .mov [(.tmp 21)])⟩,
    ⟨(some 23), (some (20, false)), (.prim (.fptr 0) [(.tmp 22)])⟩,
    ⟨(some 24), (some (20, false)), (.prim .load [(.tmp 10), (.tmp 23)])⟩,
    ⟨(some 25), (some (20, false)), (.prim .len [(.tmp 24)])⟩,
    ⟨(some 26), (some (20, false)), (.prim (.bin .neq) [(.tmp 25), (.const (.int .i64 8))])⟩,
    ⟨(some 27), none, (.pick (.tmp 20) (.const (.bool true)) (.tmp 26))⟩] [15, 16, 17, 18, 19, 20, 21, 22, 23, 24, 25, 26])
  (.cond (.tmp 27)
  (.seq (.region [⟨(some 2), none, (.prim .mov [(.const (.int .u64 0))])⟩,
    ⟨(some 3), none, (.prim .mov [(.const (.str []))])⟩,
    ⟨(some 4), none, (.prim .mov [(.const (.int .i64 1900))])⟩] [0, 5, 6, 7, 10, 27])
  .ret)
  .skip))
  (.seq (.seq (.region [⟨(some 28), none, (.prim .mov [(.tmp 5)])⟩,
    ⟨(some 29), none, (.prim .mov [(.tmp 28)])⟩,
    ⟨(some 30), none, (.prim (.fptr 0) [(.tmp 29)])⟩,
    ⟨(some 31), none, (.prim .load [(.tmp 10), (.tmp 30)])⟩,
    ⟨(some 32), none, (.prim .mov [(.tmp 0)])⟩,
    ⟨(some 33), none, (.prim .mov [(.tmp 0)])⟩,
    ⟨(some 34), none, (.prim .len [(.tmp 33)])⟩,
    ⟨(some 35), none, (.prim (.bin .sub) [(.tmp 34), (.const (.int .i64 8))])⟩,
    ⟨(some 36), none, (.prim (.sl false true) [(.tmp 32), (.tmp 35)])⟩,
    ⟨(some 37), none, (.call 72 1 [(.tmp 36)] [])⟩,
    ⟨(some 38), none, (.prim (.bin .neq) [(.tmp 31), (.tmp 37)])⟩] [0, 5, 10, 27, 28, 29, 30, 31, 32, 33, 34, 35, 36, 37])
  (.cond (.tmp 38)
  (.seq (.region [⟨(some 2), none, (.prim .mov [(.const (.int .u64 0))])⟩,
    ⟨(some 3), none, (.prim .mov [(.const (.str []))])⟩,
    ⟨(some 4), none, (.prim .mov [(.const (.int .i64 1903))])⟩] [6, 7, 38])
  .ret)
  .skip))
  (.seq (.region [⟨(some 39), none, (.prim .mov [(.tmp 6)])⟩,
    ⟨(some 40), none, (.prim .mov [(.tmp 7)])⟩,
    ⟨(some 2), none, (.prim .mov [(.tmp 39)])⟩,
    ⟨(some 3), none, (.prim .mov [(.tmp 40)])⟩,
    ⟨(some 4), none, (.prim .mov [(.const (.int .i64 0))])⟩] [6, 7, 38, 39, 40])
  .ret)))))), [2, 3, 4], []⟩
theorem c48 : compile Try.prog sg 48 = some F48 := by kernel_rfl


/-- vmfleet/vmfleetlaw42.awake -/
def F51 : VFunc := ⟨103,
  (.seq (.region [⟨(some 0), none, (.prim .mov [(.const (.bool false))])⟩] [0])
  (.seq (.region [⟨(some 13), none, (.prim (.build [(.int .i64 0), (.int .i64 0), (.bool false)] [0, 1, 2]) [(.const (.int .i64 10)), (.const (.int .i64 10)), (.const (.bool true))])⟩,
    ⟨(some 1), none, (.prim .mov [(.const (.agg [(.int .i64 0), (.int .i64 0), (.bool false)]))])⟩,
    ⟨none, none, (.store 1 none (.tmp 13))⟩] [13])
  (.seq (.region [⟨(some 14), none, (.prim .load [(.tmp 1), (.const (.ptr []))])⟩,
    ⟨(some 15), none, (.prim (.build [(.int .i64 0), (.str []), (.int .i64 0), (.int .i64 0), (.agg [(.int .i64 0), (.int .i64 0), (.int .i64 0), (.int .i64 0)]), (.agg [(.int .i64 0), (.int .i64 0), (.bool false)])] [0, 5]) [(.const (.int .i64 4)), (.tmp 14)])⟩,
    ⟨(some 2), none, (.prim .mov [(.const (.agg [(.int .i64 0), (.str []), (.int .i64 0), (.int .i64 0), (.agg [(.int .i64 0), (.int .i64 0), (.int .i64 0), (.int .i64 0)]), (.agg [(.int .i64 0), (.int .i64 0), (.bool false)])]))])⟩,
    ⟨none, none, (.store 2 none (.tmp 15))⟩] [14, 15])
  (.seq (.region [⟨(some 17), none, (.prim .load [(.tmp 2), (.const (.ptr []))])⟩,
    ⟨(some 18), none, (.call 54 2 [(.const (.str [])), (.tmp 17)] [])⟩,
    ⟨(some 16), none, (.prim .mov [(.tmp 18)])⟩,
    ⟨(some 19), none, (.prim (.ext 0) [(.tmp 16)])⟩,
    ⟨(some 20), none, (.prim (.ext 1) [(.tmp 16)])⟩,
    ⟨(some 3), none, (.prim .mov [(.tmp 19)])⟩,
    ⟨(some 4), none, (.prim .mov [(.tmp 20)])⟩] [16, 17, 18, 19, 20])
  (.seq (.region [⟨(some 22), none, (.prim .mov [(.tmp 3)])⟩,
    ⟨(some 23), none, (.call 79 2 [(.tmp 22)] [])⟩,
    ⟨(some 21), none, (.prim .mov [(.tmp 23)])⟩,
    ⟨(some 24), none, (.prim (.ext 0) [(.tmp 21)])⟩,
    ⟨(some 25), none, (.prim (.ext 1) [(.tmp 21)])⟩,
    ⟨(some 5), none, (.prim .mov [(.tmp 24)])⟩,
    ⟨(some 6), none, (.prim .mov [(.tmp 25)])⟩] [21, 22, 23, 25])
  (.seq (.region [⟨(some 27), none, (.prim .mov [(.tmp 3)])⟩,
    ⟨(some 28), none, (.call 57 2 [(.tmp 27)] [])⟩,
    ⟨(some 26), none, (.prim .mov [(.tmp 28)])⟩,
    ⟨(some 29), none, (.prim (.ext 0) [(.tmp 26)])⟩,
    ⟨(some 30), none, (.prim (.ext 1) [(.tmp 26)])⟩,
    ⟨(some 7), none, (.prim .mov [(.const (.agg [(.slice true []), (.slice true [])]))])⟩,
    ⟨none, none, (.store 7 none (.tmp 29))⟩,
    ⟨(some 8), none, (.prim .mov [(.tmp 30)])⟩] [26, 27, 28, 30])
  (.seq (.region [⟨(some 32), none, (.prim .load [(.tmp 2), (.const (.ptr []))])⟩,
    ⟨(some 33), none, (.call 53 1 [(.tmp 32)] [])⟩,
    ⟨(some 34), none, (.call 52 2 [(.tmp 33)] [])⟩,
    ⟨(some 31), none, (.prim .mov [(.tmp 34)])⟩,
    ⟨(some 35), none, (.prim (.ext 0) [(.tmp 31)])⟩,
    ⟨(some 36), none, (.prim (.ext 1) [(.tmp 31)])⟩,
    ⟨(some 9), none, (.prim .mov [(.const (.agg [(.int .i64 0), (.str []), (.int .i64 0), (.int .i64 0), (.agg [(.int .i64 0), (.int .i64 0), (.int .i64 0), (.int .i64 0)]), (.agg [(.int .i64 0), (.int .i64 0), (.bool false)])]))])⟩,
    ⟨none, none, (.store 9 none (.tmp 35))⟩,
    ⟨(some 10), none, (.prim .mov [(.tmp 36)])⟩] [31, 32, 33, 34, 35, 36])
  (.seq (.seq (.region [⟨(some 37), none, (.prim .mov [(.tmp 4)])⟩,
    ⟨(some 38), none, (.prim (.un .not) [(.tmp 37)])⟩,
    ⟨(some 39), none, (.prim .mov [(.tmp 38)])⟩,
    ⟨(some 40), (some (39, false)), (.prim .mov [(.tmp 3)])⟩,
    ⟨(some 41), (some (39, false)), (.prim .len [(.tmp 40)])⟩,
    ⟨(some 42), (some (39, false)), (.prim (.bin .eql) [(.tmp 41), (.const (.int .i64 0))])⟩,
    ⟨(some 43), none, (.pick (.tmp 39) (.const (.bool true)) (.tmp 42))⟩,
    ⟨(some 44), none, (.prim .mov [(.tmp 43)])⟩,
    ⟨(some 45), (some (44, false)), (.prim .mov [(.tmp 5)])⟩,
    ⟨(some 46), (some (44, false)), (.prim .len [(.tmp 45)])⟩,
    ⟨(some 47), (some (44, false)), (.prim (.bin .neq) [(.tmp 46), (.const (.int .i64 1))])⟩,
    ⟨(some 48), none, (.pick (.tmp 44) (.const (.bool true)) (.tmp 47))⟩,
    ⟨(some 49), none, (.prim .mov [(.tmp 48)])⟩,
    ⟨(some 50), (some (49, false)), (.prim .mov [(.tmp 6)])⟩,
    ⟨(some 51), (some (49, false)), (.prim .mov [(.tmp 3)])⟩,
    ⟨(some 52), (some (49, false)), (.prim .len [(.tmp 51)])⟩,
    ⟨(some 53), (some (49, false)), (.prim (.bin .neq) [(.tmp 50), (.tmp 52)])⟩,
    ⟨(some 54), none, (.pick (.tmp 49) (.const (.bool true)) (.tmp 53))⟩,
    ⟨(some 55), none, (.prim .mov [(.tmp 54)])⟩,
    ⟨(some 56), (some (55, false)), (.prim .mov [(.tmp 8)])⟩,
    ⟨(some 57), (some (55, false)), (.prim .mov [(.tmp 3)])⟩,
    ⟨(some 58), (some (55, false)), (.prim (.bin .neq) [(.tmp 56), (.tmp 57)])⟩,
    ⟨(some 59), none, (.pick (.tmp 55) (.const (.bool true)) (.tmp 58))⟩,
    ⟨(some 60), none, (.prim .mov [(.tmp 59)])⟩,
    ⟨(some 61), (some (60, false)), (.prim (.fptr 0) [(.const (.ptr []))])⟩,
    ⟨(some 62), (some (60, false)), (.prim .load [(.tmp 7), (.tmp 61)])⟩,
    ⟨(some 63), (some (60, false)), (.prim .len [(.tmp 62)])⟩,
    ⟨(some 64), (some (60, false)), (.prim (.bin .neq) [(.tmp 63), (.const (.int .i64 1))])⟩,
    ⟨(some 65), none, (.pick (.tmp 60) (.const (.bool true)) (.tmp 64))⟩,
    ⟨(some 66), none, (.prim .mov [(.tmp 65)])⟩,
    ⟨(some 67), (some (66, false)), (.prim .mov [(.tmp 10)])⟩,
    ⟨(some 68), (some (66, false)), (.prim (.un .not) [(.tmp 67)])⟩,
    ⟨(some 69), none, (.pick (.tmp 66) (.const (.bool true)) (.tmp 68))⟩,
    ⟨(some 70), none, (.prim .mov [(.tmp 69)])⟩,
    ⟨(some 71), (some (70, false)), (.prim .load [(.tmp 9), (.const (.ptr []))])⟩,
    ⟨(some 72), (some (70, false)), (.prim .load [(.tmp 2), (.const (.ptr []))])⟩,
    ⟨(some 73), (some (70, false)), (.prim (.eqv true (.agg [(.int .i64 0), (.str []), (.int .i64 0), (.int .i64 0), (.agg [(.int .i64 0), (.int .i64 0), (.int .i64 0), (.int .i64 0)]), (.agg [(.int .i64 0), (.int .i64 0), (.bool false)])])) [(.tmp 71), (.tmp 72)])⟩,
    ⟨(some 74), none, (.pick (.tmp 70) (.const (.bool true)) (.tmp 73))⟩] [2, 4, 5, 6, 8, 9, 10, 37, 38, 39, 40, 41, 42, 43, 44, 45, 46, 47, 48, 49, 50, 51, 52, 53, 54, 55, 56, 57, 58, 59, 60, 61, 62, 63, 64, 65, 66, 67, 68, 69, 70, 71, 72, 73])
  (.cond (.tmp 74)
  (.seq (.region [⟨(some 0), none, (.prim .mov [(.const (.bool false))])⟩] [1, 3, 7, 74])
  .ret)
  .skip))
  (.seq (.region [⟨(some 76), none, (.prim .mov [(.tmp 3)])⟩,
    ⟨(some 77), none, (.prim .mov [(.tmp 3)])⟩,
    ⟨(some 78), none, (.prim .len [(.tmp 77)])⟩,
    ⟨(some 79), none, (.prim (.bin .sub) [(.tmp 78), (.const (.int .i64 1))])⟩,
    ⟨(some 80), none, (.prim (.sl false true) [(.tmp 76), (.tmp 79)])⟩,
    ⟨(some 81), none, (.call 79 2 [(.tmp 80)] [])⟩,
    ⟨(some 75), none, (.prim .mov [(.tmp 81)])⟩,
    ⟨(some 82), none, (.prim (.ext 0) [(.tmp 75)])⟩,
    ⟨(some 83), none, (.prim (.ext 1) [(.tmp 75)])⟩,
    ⟨(some 11), none, (.prim .mov [(.tmp 82)])⟩,
    ⟨(some 12), none, (.prim .mov [(.tmp 83)])⟩] [3, 74, 75, 76, 77, 78, 79, 80, 81, 83])
  (.seq (.region [⟨(some 84), none, (.prim .mov [(.tmp 11)])⟩,
    ⟨(some 85), none, (.prim .len [(.tmp 84)])⟩,
    ⟨(some 86), none, (.prim (.bin .eql) [(.tmp 85), (.const (.int .i64 0))])⟩,
    ⟨(some 87), none, (.prim .mov [(.tmp 86)])⟩,
    ⟨(some 88), (some (87, true)), (.prim .mov [(.tmp 12)])⟩,
    ⟨(some 89), (some (87, true)), (.prim (.bin .eql) [(.tmp 88), (.const (.int .i64 0))])⟩,
    ⟨(some 90), none, (.pick (.tmp 87) (.tmp 89) (.const (.bool false)))⟩,
    ⟨(some 91), none, (.prim .mov [(.tmp 90)])⟩,
    ⟨(some 92), (some (91, true)), (.prim .load [(.tmp 7), (.const (.ptr []))])⟩,
    ⟨(some 93), (some (91, true)), (.call 80 1 [(.tmp 92)] [])⟩,
    ⟨(some 94), none, (.pick (.tmp 91) (.tmp 93) (.const (.bool false)))⟩,
    ⟨(some 95), none, (.prim .mov [(.tmp 94)])⟩,
    ⟨(some 96), (some (95, true)), (.prim (.fptr 0) [(.const (.ptr []))])⟩,
    ⟨(some 97), (some (95, true)), (.prim .load [(.tmp 7), (.tmp 96)])⟩,
    ⟨(some 98), (some (95, true)), (.prim (.iptr [0]) [(.tmp 97), (.const (.int .i64 0))])⟩,
    ⟨(some 99), (some (95, true)), (.prim .load [(.tmp 7), (.tmp 98)])⟩,
    ⟨(some 100), (some (95, true)), (.prim .load [(.tmp 1), (.const (.ptr []))])⟩,
    ⟨(some 101), (some (95, true)), (.prim (.eqv false (.agg [(.int .i64 0), (.int .i64 0), (.bool false)])) [(.tmp 99), (.tmp 100)])⟩,
    ⟨(some 102), none, (.pick (.tmp 95) (.tmp 101) (.const (.bool false)))⟩,
    ⟨(some 0), none, (.prim .mov [(.tmp 102)])⟩] [1, 7, 11, 12, 84, 85, 86, 87, 88, 89, 90, 91, 92, 93, 94, 95, 96, 97, 98, 99, 100, 101, 102])
  .ret)))))))))), [0], []⟩
theorem c51 : compile Try.prog sg 51 = some F51 := by kernel_rfl

def A52x1 : VCode := (.region [⟨(some 12), none, (.prim .mov [(.tmp 4)])⟩,
    ⟨(some 13), none, (.call 81 1 [(.deref 11 (some 12))] [(11, (some 12))])⟩,
    ⟨(some 14), none, (.prim (.fptr 0) [(.const (.ptr []))])⟩,
    ⟨none, none, (.store 5 (some 14) (.tmp 13))⟩] [12, 13, 14])
def A52x3 : VCode := (.region [⟨(some 15), none, (.prim .mov [(.tmp 4)])⟩,
    ⟨(some 16), none, (.call 82 1 [(.deref 11 (some 15))] [(11, (some 15))])⟩,
    ⟨(some 17), none, (.prim (.fptr 1) [(.const (.ptr []))])⟩,
    ⟨none, none, (.store 5 (some 17) (.tmp 16))⟩] [15, 16, 17])
def A52x6 : VCode := (.region [⟨(some 18), none, (.prim (.fptr 2) [(.const (.ptr []))])⟩,
    ⟨(some 19), none, (.prim (.fptr 3) [(.const (.ptr []))])⟩,
    ⟨(some 20), none, (.prim (.fptr 4) [(.const (.ptr []))])⟩,
    ⟨(some 21), none, (.prim (.fptr 0) [(.tmp 20)])⟩,
    ⟨(some 22), none, (.prim (.fptr 4) [(.const (.ptr []))])⟩,
    ⟨(some 23), none, (.prim (.fptr 1) [(.tmp 22)])⟩,
    ⟨(some 24), none, (.prim (.fptr 4) [(.const (.ptr []))])⟩,
    ⟨(some 25), none, (.prim (.fptr 2) [(.tmp 24)])⟩,
    ⟨(some 26), none, (.prim (.fptr 4) [(.const (.ptr []))])⟩,
    ⟨(some 27), none, (.prim (.fptr 3) [(.tmp 26)])⟩,
    ⟨(some 28), none, (.prim (.fptr 5) [(.const (.ptr []))])⟩,
    ⟨(some 29), none, (.prim (.fptr 0) [(.tmp 28)])⟩,
    ⟨(some 30), none, (.prim (.fptr 5) [(.const (.ptr []))])⟩,
    ⟨(some 31), none, (.prim (.fptr 1) [(.tmp 30)])⟩,
    ⟨(some 32), none, (.prim (.idx 9) [(.tmp 18), (.tmp 19), (.tmp 21), (.tmp 23), (.tmp 25), (.tmp 27), (.tmp 29), (.tmp 31), (.tmp 6)])⟩,
    ⟨(some 33), none, (.prim .len [(.tmp 32)])⟩,
    ⟨(some 34), none, (.prim .mov [(.const (.int .i64 0))])⟩] [18, 19, 20, 21, 22, 23, 24, 25, 26, 27, 28, 29, 30, 31])
def kL52x7 : List Nat := [0, 1, 3, 7, 8, 9, 10, 12, 13, 14, 15, 16, 17, 18, 19, 20, 21, 22, 23, 24, 25, 26, 27, 28, 29, 30, 31, 35, 36, 37, 38, 39, 40, 41, 42, 43, 44, 45, 46, 47, 48, 49, 50, 51, 52, 53, 54, 55, 56, 57, 58, 59, 60, 61, 62, 63, 64, 65, 66, 67, 68]
def L52x7 : VCode := (.seq (.region [⟨(some 35), none, (.prim (.bin .lss) [(.tmp 34), (.tmp 33)])⟩] [])
  (.seq (.cond (.tmp 35)
  .skip
  (.seq (.region [] [0, 1, 3, 7, 8, 9, 10, 12, 13, 14, 15, 16, 17, 18, 19, 20, 21, 22, 23, 24, 25, 26, 27, 28, 29, 30, 31, 32, 33, 34, 35, 36, 37, 38, 39, 40, 41, 42, 43, 44, 45, 46, 47, 48, 49, 50, 51, 52, 53, 54, 55, 56, 57, 58, 59, 60, 61, 62, 63, 64, 65, 66, 67, 68])
  (.exit 0)))
  (.seq (.block 1 (.seq (.region [⟨(some 36), none, (.prim .index [(.tmp 32), (.tmp 34)])⟩,
    ⟨(some 37), none, (.prim .mov [(.tmp 36)])⟩,
    ⟨(some 8), none, (.prim .mov [(.tmp 37)])⟩] [35, 36, 37])
  (.region [⟨(some 38), none, (.prim .mov [(.tmp 8)])⟩,
    ⟨(some 39), none, (.prim .mov [(.tmp 4)])⟩,
    ⟨(some 40), none, (.call 81 1 [(.deref 11 (some 39))] [(11, (some 39))])⟩,
    ⟨(some 41), none, (.prim .mov [(.tmp 38)])⟩,
    ⟨none, none, (.storeM [(5, [(some [2]), (some [3]), (some [4, 0]), (some [4, 1]), (some [4, 2]), (some [4, 3]), (some [5, 0]), (some [5, 1]), none]), (6, [none, none, none, none, none, none, none, none, (some [])])] (.tmp 41) (.tmp 40))⟩] [8, 38, 39, 40, 41])))
  (.region [⟨(some 42), none, (.prim (.bin .add) [(.tmp 34), (.const (.int .i64 1))])⟩,
    ⟨(some 34), none, (.prim .mov [(.tmp 42)])⟩] [42]))))
def B52x6 : VCode := (.block 0 (.loop kL52x7 L52x7))
def A52x5 : VCode := (.seq A52x6
  B52x6)
def A52x9 : VCode := (.region [⟨(some 43), none, (.prim .load [(.tmp 6), (.const (.ptr []))])⟩,
    ⟨(some 44), none, (.prim (.bin .eql) [(.tmp 43), (.const (.int .i64 1))])⟩,
    ⟨(some 45), none, (.prim (.fptr 5) [(.const (.ptr []))])⟩,
    ⟨(some 46), none, (.prim (.fptr 2) [(.tmp 45)])⟩,
    ⟨none, none, (.store 5 (some 46) (.tmp 44))⟩] [43, 44, 45, 46])
def B52x9 : VCode := (.seq (.seq (.region [⟨(some 47), none, (.prim .mov [(.tmp 4)])⟩,
    ⟨(some 48), none, (.prim .mov [(.tmp 47)])⟩,
    ⟨(some 49), none, (.prim (.fptr 1) [(.tmp 48)])⟩,
    ⟨(some 50), none, (.prim .load [(.tmp 11), (.tmp 49)])⟩,
    ⟨(some 51), none, (.prim (.un .not) [(.tmp 50)])⟩,
    ⟨(some 52), none, (.prim .mov [(.tmp 51)])⟩,
    ⟨(some 53), (some (52, false)), (.prim .mov [(.tmp 4)])⟩,
    ⟨(some 54), (some (52, false)), (.prim .mov [(.tmp 53)])⟩,
    ⟨(some 55), (some (52, false)), (.prim (.fptr 0) [(.tmp 54)])⟩,
    ⟨(some 56), (some (52, false)), (.prim .load [(.tmp 11), (.tmp 55)])⟩,
    ⟨(some 57), (some (52, false)), (.prim (.bin .neq) [(.tmp 56), (.const (.str []))])⟩,
    ⟨(some 58), none, (.pick (.tmp 52) (.const (.bool true)) (.tmp 57))⟩,
    ⟨(some 59), none, (.prim .mov [(.tmp 58)])⟩,
    ⟨(some 60), (some (59, false)), (.prim .load [(.tmp 6), (.const (.ptr []))])⟩,
    ⟨(some 61), (some (59, false)), (.prim (.bin .lss) [(.tmp 60), (.const (.int .i64 0))])⟩,
    ⟨(some 62), none, (.pick (.tmp 59) (.const (.bool true)) (.tmp 61))⟩,
    ⟨(some 63), none, (.prim .mov [(.tmp 62)])⟩,
    ⟨(some 64), (some (63, false)), (.prim .load [(.tmp 6), (.const (.ptr []))])⟩,
    ⟨(some 65), (some (63, false)), (.prim (.bin .gtr) [(.tmp 64), (.const (.int .i64 1))])⟩,
    ⟨(some 66), none, (.pick (.tmp 63) (.const (.bool true)) (.tmp 65))⟩] [4, 6, 11, 47, 48, 49, 50, 51, 52, 53, 54, 55, 56, 57, 58, 59, 60, 61, 62, 63, 64, 65])
  (.cond (.tmp 66)
  (.seq (.region [⟨(some 67), none, (.prim (.build [(.int .i64 0), (.str []), (.int .i64 0), (.int .i64 0), (.agg [(.int .i64 0), (.int .i64 0), (.int .i64 0), (.int .i64 0)]), (.agg [(.int .i64 0), (.int .i64 0), (.bool false)])] []) [])⟩,
    ⟨none, none, (.store 2 none (.tmp 67))⟩,
    ⟨(some 3), none, (.prim .mov [(.const (.bool false))])⟩] [5, 66, 67])
  .ret)
  .skip))
  (.seq (.region [⟨(some 68), none, (.prim .load [(.tmp 5), (.const (.ptr []))])⟩,
    ⟨none, none, (.store 2 none (.tmp 68))⟩,
    ⟨(some 3), none, (.prim .mov [(.const (.bool true))])⟩] [5, 66, 68])
  .ret))
def B52x5 : VCode := (.seq A52x9
  B52x9)
def B52x3 : VCode := (.seq (.region [⟨(some 6), none, (.prim .mov [(.const (.int .i64 0))])⟩,
    ⟨none, none, (.store 6 none (.const (.int .i64 0)))⟩] [])
  (.seq A52x5
  B52x5))
def B52x1 : VCode := (.seq A52x3
  B52x3)

/-- vmfleet/journal.Decode -/
def F52 : VFunc := ⟨69,
  (.seq (.region [⟨(some 2), none, (.prim .mov [(.const (.agg [(.int .i64 0), (.str []), (.int .i64 0), (.int .i64 0), (.agg [(.int .i64 0), (.int .i64 0), (.int .i64 0), (.int .i64 0)]), (.agg [(.int .i64 0), (.int .i64 0), (.bool false)])]))])⟩,
    ⟨(some 3), none, (.prim .mov [(.const (.bool false))])⟩] [3])
  (.seq (.region [⟨(some 9), none, (.prim .mov [(.tmp 0)])⟩,
    ⟨(some 10), none, (.prim (.build [(.str []), (.bool false)] [0, 1]) [(.tmp 9), (.const (.bool true))])⟩,
    ⟨(some 11), none, (.prim .mov [(.tmp 10)])⟩,
    ⟨(some 4), none, (.prim .mov [(.const (.ptr []))])⟩] [0, 9, 10])
  (.seq (.region [⟨(some 5), none, (.prim .mov [(.const (.agg [(.int .i64 0), (.str []), (.int .i64 0), (.int .i64 0), (.agg [(.int .i64 0), (.int .i64 0), (.int .i64 0), (.int .i64 0)]), (.agg [(.int .i64 0), (.int .i64 0), (.bool false)])]))])⟩] [])
  (.seq A52x1
  B52x1)))), [2, 3], []⟩
theorem c52 : compile Try.prog sg 52 = some F52 := by kernel_rfl

def A53x1 : VCode := (.region [⟨(some 9), none, (.prim .mov [(.tmp 4)])⟩,
    ⟨(some 10), none, (.prim (.fptr 0) [(.const (.ptr []))])⟩,
    ⟨(some 11), none, (.prim .load [(.tmp 1), (.tmp 10)])⟩,
    ⟨(some 12), none, (.call 83 0 [(.tmp 11), (.deref 3 (some 9))] [(3, none)])⟩] [9, 10, 11, 12])
def A53x3 : VCode := (.region [⟨(some 13), none, (.prim .mov [(.tmp 4)])⟩,
    ⟨(some 14), none, (.prim (.fptr 1) [(.const (.ptr []))])⟩,
    ⟨(some 15), none, (.prim .load [(.tmp 1), (.tmp 14)])⟩,
    ⟨(some 16), none, (.prim .len [(.tmp 15)])⟩,
    ⟨(some 17), none, (.call 83 0 [(.tmp 16), (.deref 3 (some 13))] [(3, none)])⟩] [13, 14, 15, 16, 17])
def A53x5 : VCode := (.region [⟨(some 18), none, (.prim .load [(.tmp 3), (.const (.ptr []))])⟩,
    ⟨(some 19), none, (.prim (.fptr 1) [(.const (.ptr []))])⟩,
    ⟨(some 20), none, (.prim .load [(.tmp 1), (.tmp 19)])⟩,
    ⟨(some 21), none, (.prim (.app 1) [(.tmp 18), (.tmp 20)])⟩,
    ⟨none, none, (.store 3 none (.tmp 21))⟩] [19, 20, 21])
def A53x6 : VCode := (.seq (.region [⟨(some 22), none, (.prim (.fptr 5) [(.const (.ptr []))])⟩,
    ⟨(some 23), none, (.prim (.fptr 2) [(.tmp 22)])⟩,
    ⟨(some 24), none, (.prim .load [(.tmp 1), (.tmp 23)])⟩] [22, 23])
  (.cond (.tmp 24)
  (.region [⟨(some 5), none, (.prim .mov [(.const (.int .i64 1))])⟩] [24])
  .skip))
def A53x8 : VCode := (.region [⟨(some 25), none, (.prim (.fptr 2) [(.const (.ptr []))])⟩,
    ⟨(some 26), none, (.prim .load [(.tmp 1), (.tmp 25)])⟩,
    ⟨(some 27), none, (.prim (.fptr 3) [(.const (.ptr []))])⟩,
    ⟨(some 28), none, (.prim .load [(.tmp 1), (.tmp 27)])⟩,
    ⟨(some 29), none, (.prim (.fptr 4) [(.const (.ptr []))])⟩,
    ⟨(some 30), none, (.prim (.fptr 0) [(.tmp 29)])⟩,
    ⟨(some 31), none, (.prim .load [(.tmp 1), (.tmp 30)])⟩,
    ⟨(some 32), none, (.prim (.fptr 4) [(.const (.ptr []))])⟩,
    ⟨(some 33), none, (.prim (.fptr 1) [(.tmp 32)])⟩,
    ⟨(some 34), none, (.prim .load [(.tmp 1), (.tmp 33)])⟩,
    ⟨(some 35), none, (.prim (.fptr 4) [(.const (.ptr []))])⟩,
    ⟨(some 36), none, (.prim (.fptr 2) [(.tmp 35)])⟩,
    ⟨(some 37), none, (.prim .load [(.tmp 1), (.tmp 36)])⟩,
    ⟨(some 38), none, (.prim (.fptr 4) [(.const (.ptr []))])⟩,
    ⟨(some 39), none, (.prim (.fptr 3) [(.tmp 38)])⟩,
    ⟨(some 40), none, (.prim .load [(.tmp 1), (.tmp 39)])⟩,
    ⟨(some 41), none, (.prim (.fptr 5) [(.const (.ptr []))])⟩,
    ⟨(some 42), none, (.prim (.fptr 0) [(.tmp 41)])⟩,
    ⟨(some 43), none, (.prim .load [(.tmp 1), (.tmp 42)])⟩,
    ⟨(some 44), none, (.prim (.fptr 5) [(.const (.ptr []))])⟩,
    ⟨(some 45), none, (.prim (.fptr 1) [(.tmp 44)])⟩,
    ⟨(some 46), none, (.prim .load [(.tmp 1), (.tmp 45)])⟩,
    ⟨(some 47), none, (.prim .mov [(.tmp 5)])⟩,
    ⟨(some 48), none, (.prim (.buildSl (.int .i64 0) 9 [0, 1, 2, 3, 4, 5, 6, 7, 8]) [(.tmp 26), (.tmp 28), (.tmp 31), (.tmp 34), (.tmp 37), (.tmp 40), (.tmp 43), (.tmp 46), (.tmp 47)])⟩,
    ⟨(some 49), none, (.prim .len [(.tmp 48)])⟩,
    ⟨(some 50), none, (.prim .mov [(.const (.int .i64 0))])⟩] [1, 5, 25, 26, 27, 28, 29, 30, 31, 32, 33, 34, 35, 36, 37, 38, 39, 40, 41, 42, 43, 44, 45, 46, 47])
def kL53x9 : List Nat := [0, 1, 2, 5, 6, 7, 8, 9, 10, 11, 12, 13, 14, 15, 16, 17, 18, 19, 20, 21, 22, 23, 24, 25, 26, 27, 28, 29, 30, 31, 32, 33, 34, 35, 36, 37, 38, 39, 40, 41, 42, 43, 44, 45, 46, 47, 51, 52, 53, 54, 55, 56, 57, 58, 59]
def L53x9 : VCode := (.seq (.region [⟨(some 51), none, (.prim (.bin .lss) [(.tmp 50), (.tmp 49)])⟩] [])
  (.seq (.cond (.tmp 51)
  .skip
  (.seq (.region [] [0, 1, 2, 4, 5, 6, 7, 8, 9, 10, 11, 12, 13, 14, 15, 16, 17, 18, 19, 20, 21, 22, 23, 24, 25, 26, 27, 28, 29, 30, 31, 32, 33, 34, 35, 36, 37, 38, 39, 40, 41, 42, 43, 44, 45, 46, 47, 48, 49, 50, 51, 52, 53, 54, 55, 56, 57, 58, 59])
  (.exit 0)))
  (.seq (.block 1 (.seq (.region [⟨(some 52), none, (.prim (.iptr []) [(.tmp 48), (.tmp 50)])⟩,
    ⟨(some 53), none, (.prim .load [(.tmp 48), (.tmp 52)])⟩,
    ⟨(some 7), none, (.prim .mov [(.tmp 53)])⟩] [51, 52, 53])
  (.region [⟨(some 54), none, (.prim .mov [(.tmp 4)])⟩,
    ⟨(some 55), none, (.prim .mov [(.tmp 7)])⟩,
    ⟨(some 56), none, (.call 83 0 [(.tmp 55), (.deref 3 (some 54))] [(3, none)])⟩] [7, 54, 55, 56])))
  (.region [⟨(some 57), none, (.prim (.bin .add) [(.tmp 50), (.const (.int .i64 1))])⟩,
    ⟨(some 50), none, (.prim .mov [(.tmp 57)])⟩] [57]))))
def B53x8 : VCode := (.block 0 (.loop kL53x9 L53x9))
def A53x7 : VCode := (.seq A53x8
  B53x8)
def B53x7 : VCode := (.seq (.region [⟨(some 58), none, (.prim .load [(.tmp 3), (.const (.ptr []))])⟩,
    ⟨(some 59), none, (.prim .toStr [(.tmp 58)])⟩,
    ⟨(some 2), none, (.prim .mov [(.tmp 59)])⟩] [3, 58, 59])
  .ret)
def B53x6 : VCode := (.seq A53x7
  B53x7)
def B53x5 : VCode := (.seq (.region [⟨(some 5), none, (.prim .mov [(.const (.int .i64 0))])⟩] [])
  (.seq A53x6
  B53x6))
def B53x3 : VCode := (.seq A53x5
  B53x5)
def B53x1 : VCode := (.seq A53x3
  B53x3)

/-- vmfleet/journal.Encode -/
def F53 : VFunc := ⟨60,
  (.seq (.region [⟨(some 1), none, (.prim .mov [(.tmp 0)])⟩,
    ⟨(some 2), none, (.prim .mov [(.const (.str []))])⟩] [0, 2])
  (.seq (.region [⟨(some 3), none, (.prim .mov [(.const (.slice true []))])⟩] [])
  (.seq (.region [⟨(some 8), none, (.prim .mov [(.const (.ptr []))])⟩,
    ⟨(some 4), none, (.prim .mov [(.tmp 8)])⟩] [8])
  (.seq A53x1
  B53x1)))), [2], []⟩
theorem c53 : compile Try.prog sg 53 = some F53 := by kernel_rfl


/-- vmfleet/journal.Append -/
def F54 : VFunc := ⟨34,
  (.seq (.region [⟨(some 3), none, (.prim .mov [(.tmp 1)])⟩,
    ⟨(some 4), none, (.prim .mov [(.const (.str []))])⟩,
    ⟨(some 5), none, (.prim .mov [(.const (.bool false))])⟩] [1, 4, 5])
  (.seq (.region [⟨(some 11), none, (.prim .mov [(.tmp 0)])⟩,
    ⟨(some 12), none, (.call 79 2 [(.tmp 11)] [])⟩,
    ⟨(some 10), none, (.prim .mov [(.tmp 12)])⟩,
    ⟨(some 13), none, (.prim (.ext 0) [(.tmp 10)])⟩,
    ⟨(some 14), none, (.prim (.ext 1) [(.tmp 10)])⟩,
    ⟨(some 6), none, (.prim .mov [(.tmp 13)])⟩,
    ⟨(some 7), none, (.prim .mov [(.tmp 14)])⟩] [7, 10, 11, 12, 14])
  (.seq (.region [⟨(some 15), none, (.prim .mov [(.tmp 6)])⟩,
    ⟨(some 16), none, (.prim .len [(.tmp 15)])⟩,
    ⟨(some 17), none, (.prim (.toInt .u64) [(.tmp 16)])⟩,
    ⟨(some 18), none, (.prim .load [(.tmp 3), (.const (.ptr []))])⟩,
    ⟨(some 19), none, (.call 53 1 [(.tmp 18)] [])⟩,
    ⟨(some 20), none, (.call 47 1 [(.tmp 17), (.tmp 19)] [])⟩,
    ⟨(some 8), none, (.prim .mov [(.tmp 20)])⟩] [3, 6, 15, 16, 17, 18, 19, 20])
  (.seq (.region [⟨(some 21), none, (.prim .mov [(.tmp 0)])⟩,
    ⟨(some 22), none, (.prim .mov [(.tmp 8)])⟩,
    ⟨(some 23), none, (.prim .len [(.tmp 22)])⟩,
    ⟨(some 24), none, (.prim (.toInt .u64) [(.tmp 23)])⟩,
    ⟨(some 25), none, (.call 66 1 [(.tmp 24)] [])⟩,
    ⟨(some 26), none, (.prim (.bin .add) [(.tmp 21), (.tmp 25)])⟩,
    ⟨(some 27), none, (.prim .mov [(.tmp 8)])⟩,
    ⟨(some 28), none, (.prim (.bin .add) [(.tmp 26), (.tmp 27)])⟩,
    ⟨(some 9), none, (.prim .mov [(.tmp 28)])⟩] [8, 21, 22, 23, 24, 25, 26, 27, 28])
  (.seq (.seq (.region [⟨(some 29), none, (.prim .mov [(.tmp 9)])⟩,
    ⟨(some 30), none, (.prim .len [(.tmp 29)])⟩,
    ⟨(some 31), none, (.prim (.bin .gtr) [(.tmp 30), (.const (.int .i64 8192))])⟩] [29, 30])
  (.cond (.tmp 31)
  (.seq (.region [⟨(some 32), none, (.prim .mov [(.tmp 0)])⟩,
    ⟨(some 4), none, (.prim .mov [(.tmp 32)])⟩,
    ⟨(some 5), none, (.prim .mov [(.const (.bool false))])⟩] [0, 9, 31, 32])
  .ret)
  .skip))
  (.seq (.region [⟨(some 33), none, (.prim .mov [(.tmp 9)])⟩,
    ⟨(some 4), none, (.prim .mov [(.tmp 33)])⟩,
    ⟨(some 5), none, (.prim .mov [(.const (.bool true))])⟩] [0, 9, 31, 33])
  .ret)))))), [4, 5], []⟩
theorem c54 : compile Try.prog sg 54 = some F54 := by kernel_rfl

def A56x1 : VCode := (.region [⟨(some 2), none, (.prim .mov [(.tmp 0)])⟩,
    ⟨(some 3), none, (.prim .mov [(.tmp 1)])⟩,
    ⟨(some 4), none, (.prim .mov [(.const (.agg [(.slice true []), (.slice true [])]))])⟩,
    ⟨(some 5), none, (.prim .mov [(.const (.int .i64 0))])⟩] [0, 1, 5])
def A56x2 : VCode := (.region [⟨(some 11), none, (.prim .load [(.tmp 2), (.const (.ptr []))])⟩,
    ⟨(some 12), none, (.call 84 1 [(.tmp 11)] [])⟩,
    ⟨(some 6), none, (.prim .mov [(.const (.agg [(.slice true []), (.slice true [])]))])⟩,
    ⟨none, none, (.store 6 none (.tmp 12))⟩] [11, 12])
def A56x3 : VCode := (.seq (.region [⟨(some 13), none, (.prim .load [(.tmp 2), (.const (.ptr []))])⟩,
    ⟨(some 14), none, (.call 80 1 [(.tmp 13)] [])⟩,
    ⟨(some 15), none, (.prim (.un .not) [(.tmp 14)])⟩] [13, 14])
  (.cond (.tmp 15)
  (.seq (.region [⟨(some 16), none, (.prim .load [(.tmp 6), (.const (.ptr []))])⟩,
    ⟨none, none, (.store 4 none (.tmp 16))⟩,
    ⟨(some 5), none, (.prim .mov [(.const (.int .i64 4200))])⟩] [2, 3, 6, 15])
  .ret)
  .skip))
def A56x4 : VCode := (.region [⟨(some 17), none, (.prim .load [(.tmp 2), (.const (.ptr []))])⟩,
    ⟨(some 18), none, (.call 84 1 [(.tmp 17)] [])⟩,
    ⟨(some 7), none, (.prim .mov [(.const (.agg [(.slice true []), (.slice true [])]))])⟩,
    ⟨none, none, (.store 7 none (.tmp 18))⟩] [2, 15, 17, 18])
def A56x8 : VCode := (.region [⟨(some 32), none, (.prim .load [(.tmp 7), (.const (.ptr []))])⟩,
    ⟨(some 33), none, (.prim (.fptr 1) [(.const (.ptr []))])⟩,
    ⟨(some 34), none, (.prim .load [(.tmp 3), (.tmp 33)])⟩,
    ⟨(some 35), none, (.call 87 2 [(.tmp 32), (.tmp 34)] [])⟩,
    ⟨(some 31), none, (.prim .mov [(.tmp 35)])⟩,
    ⟨(some 36), none, (.prim (.ext 0) [(.tmp 31)])⟩,
    ⟨(some 37), none, (.prim (.ext 1) [(.tmp 31)])⟩,
    ⟨(some 9), none, (.prim .mov [(.tmp 36)])⟩,
    ⟨(some 10), none, (.prim .mov [(.tmp 37)])⟩] [3, 20, 29, 31, 32, 33, 34, 35, 36, 37])
def B56x8 : VCode := (.seq (.seq (.region [⟨(some 38), none, (.prim .mov [(.tmp 10)])⟩,
    ⟨(some 39), none, (.prim (.un .not) [(.tmp 38)])⟩] [10, 38])
  (.cond (.tmp 39)
  (.seq (.region [⟨(some 40), none, (.prim .load [(.tmp 6), (.const (.ptr []))])⟩,
    ⟨none, none, (.store 4 none (.tmp 40))⟩,
    ⟨(some 5), none, (.prim .mov [(.const (.int .i64 4202))])⟩] [6, 7, 8, 9, 39])
  .ret)
  .skip))
  (.region [⟨(some 41), none, (.prim (.fptr 1) [(.const (.ptr []))])⟩,
    ⟨(some 42), none, (.prim .load [(.tmp 7), (.tmp 41)])⟩,
    ⟨(some 43), none, (.prim .mov [(.tmp 9)])⟩,
    ⟨(some 44), none, (.prim .mov [(.tmp 9)])⟩,
    ⟨(some 45), none, (.prim (.bin .add) [(.tmp 44), (.const (.int .i64 1))])⟩,
    ⟨(some 46), none, (.call 88 1 [(.tmp 42), (.tmp 43), (.tmp 45)] [])⟩,
    ⟨(some 47), none, (.prim (.fptr 1) [(.const (.ptr []))])⟩,
    ⟨none, none, (.store 7 (some 47) (.tmp 46))⟩] [9, 39, 41, 43, 44, 45, 46, 47]))
def A56x5 : VCode := (.seq (.region [⟨(some 19), none, (.prim (.fptr 0) [(.const (.ptr []))])⟩,
    ⟨(some 20), none, (.prim .load [(.tmp 3), (.tmp 19)])⟩] [19])
  (.block 0 (.seq (.region [⟨(some 22), none, (.prim (.bin .eql) [(.tmp 20), (.const (.int .i64 4))])⟩,
    ⟨(some 21), none, (.prim .mov [(.tmp 22)])⟩] [22])
  (.cond (.tmp 21)
  (.region [⟨(some 23), none, (.prim .load [(.tmp 3), (.const (.ptr []))])⟩,
    ⟨(some 24), none, (.call 85 1 [(.deref 7 none), (.tmp 23)] [(7, none)])⟩,
    ⟨(some 8), none, (.prim .mov [(.tmp 24)])⟩] [3, 20, 21, 23, 24])
  (.seq (.region [⟨(some 26), none, (.prim (.bin .eql) [(.tmp 20), (.const (.int .i64 1))])⟩,
    ⟨(some 25), none, (.prim .mov [(.tmp 26)])⟩] [21, 26])
  (.cond (.tmp 25)
  (.region [⟨(some 27), none, (.prim .load [(.tmp 3), (.const (.ptr []))])⟩,
    ⟨(some 28), none, (.call 86 1 [(.deref 7 none), (.tmp 27)] [(7, none)])⟩,
    ⟨(some 8), none, (.prim .mov [(.tmp 28)])⟩] [3, 20, 25, 27, 28])
  (.seq (.region [⟨(some 30), none, (.prim (.bin .eql) [(.tmp 20), (.const (.int .i64 2))])⟩,
    ⟨(some 29), none, (.prim .mov [(.tmp 30)])⟩] [25, 30])
  (.cond (.tmp 29)
  (.seq A56x8
  B56x8)
  (.seq (.region [⟨(some 49), none, (.prim (.bin .eql) [(.tmp 20), (.const (.int .i64 3))])⟩,
    ⟨(some 48), none, (.prim .mov [(.tmp 49)])⟩] [8, 20, 29, 49])
  (.cond (.tmp 48)
  (.region [⟨none, none, (.prim .mov [])⟩] [])
  (.region [⟨(some 8), none, (.prim .mov [(.const (.int .i64 4200))])⟩] [3, 48])))))))))))
def B56x5 : VCode := (.seq (.seq (.region [⟨(some 52), none, (.prim .mov [(.tmp 8)])⟩,
    ⟨(some 53), none, (.prim (.bin .neq) [(.tmp 52), (.const (.int .i64 0))])⟩] [52])
  (.cond (.tmp 53)
  (.seq (.region [⟨(some 54), none, (.prim .load [(.tmp 6), (.const (.ptr []))])⟩,
    ⟨(some 55), none, (.prim .mov [(.tmp 8)])⟩,
    ⟨none, none, (.store 4 none (.tmp 54))⟩,
    ⟨(some 5), none, (.prim .mov [(.tmp 55)])⟩] [6, 7, 8, 53, 55])
  .ret)
  .skip))
  (.seq (.region [⟨(some 56), none, (.prim .load [(.tmp 7), (.const (.ptr []))])⟩,
    ⟨none, none, (.store 4 none (.tmp 56))⟩,
    ⟨(some 5), none, (.prim .mov [(.const (.int .i64 0))])⟩] [6, 7, 8, 53])
  .ret))
def B56x4 : VCode := (.seq (.region [⟨(some 8), none, (.prim .mov [(.const (.int .i64 0))])⟩] [])
  (.seq A56x5
  B56x5))
def B56x3 : VCode := (.seq A56x4
  B56x4)
def B56x2 : VCode := (.seq A56x3
  B56x3)
def B56x1 : VCode := (.seq A56x2
  B56x2)

/-- vmfleet/journal.Apply -/
def F56 : VFunc := ⟨57,
  (.seq A56x1
  B56x1), [4, 5], []⟩
theorem c56 : compile Try.prog sg 56 = some F56 := by kernel_rfl

def kL57x2 : List Nat := [1, 3, 7, 8, 9, 10, 11, 12, 13, 17, 18, 19, 20, 21, 22, 23, 24, 25, 26, 27, 28, 29, 30]
def L57x2 : VCode := (.seq (.region [⟨(some 17), none, (.prim (.bin .lss) [(.tmp 16), (.tmp 15)])⟩] [])
  (.seq (.cond (.tmp 17)
  .skip
  (.seq (.region [] [1, 3, 4, 7, 8, 9, 10, 11, 12, 13, 14, 15, 16, 17, 18, 19, 20, 21, 22, 23, 24, 25, 26, 27, 28, 29, 30])
  (.exit 0)))
  (.seq (.block 1 (.seq (.region [⟨(some 18), none, (.prim (.iptr []) [(.tmp 14), (.tmp 16)])⟩,
    ⟨(some 19), none, (.prim .load [(.tmp 4), (.tmp 18)])⟩,
    ⟨(some 8), none, (.prim .mov [(.const (.agg [(.int .i64 0), (.str []), (.int .i64 0), (.int .i64 0), (.agg [(.int .i64 0), (.int .i64 0), (.int .i64 0), (.int .i64 0)]), (.agg [(.int .i64 0), (.int .i64 0), (.bool false)])]))])⟩,
    ⟨none, none, (.store 8 none (.tmp 19))⟩] [17, 18, 19])
  (.region [⟨(some 21), none, (.prim .load [(.tmp 6), (.const (.ptr []))])⟩,
    ⟨(some 22), none, (.prim .load [(.tmp 8), (.const (.ptr []))])⟩,
    ⟨(some 23), none, (.call 56 2 [(.tmp 21), (.tmp 22)] [])⟩,
    ⟨(some 20), none, (.prim .mov [(.tmp 23)])⟩,
    ⟨(some 24), none, (.prim (.ext 0) [(.tmp 20)])⟩,
    ⟨(some 25), none, (.prim (.ext 1) [(.tmp 20)])⟩,
    ⟨none, none, (.store 6 none (.tmp 24))⟩] [8, 20, 22, 23, 25])))
  (.region [⟨(some 26), none, (.prim (.bin .add) [(.tmp 16), (.const (.int .i64 1))])⟩,
    ⟨(some 16), none, (.prim .mov [(.tmp 26)])⟩] [26]))))
def A57x1 : VCode := (.seq (.region [⟨(some 14), none, (.prim .mov [(.tmp 4)])⟩,
    ⟨(some 15), none, (.prim .len [(.tmp 14)])⟩,
    ⟨(some 16), none, (.prim .mov [(.const (.int .i64 0))])⟩] [])
  (.block 0 (.loop kL57x2 L57x2)))
def B57x1 : VCode := (.seq (.region [⟨(some 27), none, (.prim .load [(.tmp 6), (.const (.ptr []))])⟩,
    ⟨(some 28), none, (.prim .mov [(.tmp 0)])⟩,
    ⟨(some 29), none, (.prim .mov [(.tmp 5)])⟩,
    ⟨(some 30), none, (.prim (.sl false true) [(.tmp 28), (.tmp 29)])⟩,
    ⟨none, none, (.store 2 none (.tmp 27))⟩,
    ⟨(some 3), none, (.prim .mov [(.tmp 30)])⟩] [0, 5, 6, 28, 29, 30])
  .ret)

/-- vmfleet/journal.Recover -/
def F57 : VFunc := ⟨31,
  (.seq (.region [⟨(some 2), none, (.prim .mov [(.const (.agg [(.slice true []), (.slice true [])]))])⟩,
    ⟨(some 3), none, (.prim .mov [(.const (.str []))])⟩] [3])
  (.seq (.region [⟨(some 10), none, (.prim .mov [(.tmp 0)])⟩,
    ⟨(some 11), none, (.call 79 2 [(.tmp 10)] [])⟩,
    ⟨(some 9), none, (.prim .mov [(.tmp 11)])⟩,
    ⟨(some 12), none, (.prim (.ext 0) [(.tmp 9)])⟩,
    ⟨(some 13), none, (.prim (.ext 1) [(.tmp 9)])⟩,
    ⟨(some 4), none, (.prim .mov [(.tmp 12)])⟩,
    ⟨(some 5), none, (.prim .mov [(.tmp 13)])⟩] [9, 10, 11, 13])
  (.seq (.region [⟨(some 6), none, (.prim .mov [(.const (.agg [(.slice true []), (.slice true [])]))])⟩] [])
  (.seq A57x1
  B57x1)))), [2, 3], []⟩
theorem c57 : compile Try.prog sg 57 = some F57 := by kernel_rfl

def kL63x2 : List Nat := [1, 2, 3, 4, 6, 7, 8, 9, 12, 13, 14, 15, 16, 17, 18, 19, 20, 21, 22, 23, 24, 25, 26, 27, 28, 29, 30, 31, 32, 33, 34, 35, 36, 37, 38, 39, 40, 41, 42]
def L63x2 : VCode := (.seq (.region [⟨(some 12), none, (.prim (.bin .lss) [(.tmp 11), (.tmp 10)])⟩] [])
  (.seq (.cond (.tmp 12)
  .skip
  (.seq (.region [] [0, 1, 2, 3, 4, 5, 6, 7, 8, 9, 10, 11, 12, 13, 14, 15, 16, 17, 18, 19, 20, 21, 22, 23, 24, 25, 26, 27, 28, 29, 30, 31, 32, 33, 34, 35, 36, 37, 38, 39, 40, 41, 42])
  (.exit 0)))
  (.seq (.block 1 (.seq (.region [⟨(some 13), none, (.prim .mov [(.tmp 11)])⟩,
    ⟨(some 6), none, (.prim .mov [(.tmp 13)])⟩] [12, 13])
  (.seq (.region [⟨(some 14), none, (.prim .mov [(.tmp 0)])⟩,
    ⟨(some 15), none, (.prim .mov [(.tmp 6)])⟩,
    ⟨(some 16), none, (.prim .index [(.tmp 14), (.tmp 15)])⟩,
    ⟨(some 7), none, (.prim .mov [(.tmp 16)])⟩] [14, 15, 16])
  (.seq (.seq (.region [⟨(some 17), none, (.prim .mov [(.tmp 6)])⟩,
    ⟨(some 18), none, (.prim (.bin .eql) [(.tmp 17), (.const (.int .i64 9))])⟩,
    ⟨(some 19), none, (.prim .mov [(.tmp 18)])⟩,
    ⟨(some 20), (some (19, true)), (.prim .mov [(.tmp 7)])⟩,
    ⟨(some 21), (some (19, true)), (.prim (.bin .gtr) [(.tmp 20), (.const (.int .u8 1))])⟩,
    ⟨(some 22), none, (.pick (.tmp 19) (.tmp 21) (.const (.bool false)))⟩] [17, 18, 19])
  (.cond (.tmp 22)
  (.seq (.region [⟨(some 2), none, (.prim .mov [(.const (.int .u64 0))])⟩,
    ⟨(some 3), none, (.prim .mov [(.const (.int .i64 0))])⟩,
    ⟨(some 4), none, (.prim .mov [(.const (.bool false))])⟩] [0, 5, 6, 7, 10, 11, 20, 21, 22])
  .ret)
  .skip))
  (.seq (.region [⟨(some 23), none, (.prim .mov [(.tmp 5)])⟩,
    ⟨(some 24), none, (.prim .mov [(.tmp 7)])⟩,
    ⟨(some 25), none, (.prim (.bin .and) [(.tmp 24), (.const (.int .u8 127))])⟩,
    ⟨(some 26), none, (.prim (.toInt .u64) [(.tmp 25)])⟩,
    ⟨(some 27), none, (.prim .mov [(.tmp 6)])⟩,
    ⟨(some 28), none, (.prim (.bin .mul) [(.const (.int .i64 7)), (.tmp 27)])⟩,
    ⟨(some 29), none, (.prim (.bin .shl) [(.tmp 26), (.tmp 28)])⟩,
    ⟨(some 30), none, (.prim (.bin .or) [(.tmp 23), (.tmp 29)])⟩,
    ⟨(some 5), none, (.prim .mov [(.tmp 30)])⟩] [22, 23, 24, 25, 26, 27, 28, 29, 30])
  (.seq (.region [⟨(some 31), none, (.prim .mov [(.tmp 7)])⟩,
    ⟨(some 32), none, (.prim (.bin .lss) [(.tmp 31), (.const (.int .u8 128))])⟩] [31])
  (.cond (.tmp 32)
  (.seq (.seq (.region [⟨(some 33), none, (.prim .mov [(.tmp 7)])⟩,
    ⟨(some 34), none, (.prim (.bin .eql) [(.tmp 33), (.const (.int .u8 0))])⟩,
    ⟨(some 35), none, (.prim .mov [(.tmp 34)])⟩,
    ⟨(some 36), (some (35, true)), (.prim .mov [(.tmp 6)])⟩,
    ⟨(some 37), (some (35, true)), (.prim (.bin .gtr) [(.tmp 36), (.const (.int .i64 0))])⟩,
    ⟨(some 38), none, (.pick (.tmp 35) (.tmp 37) (.const (.bool false)))⟩] [0, 7, 10, 11, 20, 21, 32, 33, 34, 35, 36, 37])
  (.cond (.tmp 38)
  (.seq (.region [⟨(some 2), none, (.prim .mov [(.const (.int .u64 0))])⟩,
    ⟨(some 3), none, (.prim .mov [(.const (.int .i64 0))])⟩,
    ⟨(some 4), none, (.prim .mov [(.const (.bool false))])⟩] [5, 6, 38])
  .ret)
  .skip))
  (.seq (.region [⟨(some 39), none, (.prim .mov [(.tmp 5)])⟩,
    ⟨(some 40), none, (.prim .mov [(.tmp 6)])⟩,
    ⟨(some 41), none, (.prim (.bin .add) [(.tmp 40), (.const (.int .i64 1))])⟩,
    ⟨(some 2), none, (.prim .mov [(.tmp 39)])⟩,
    ⟨(some 3), none, (.prim .mov [(.tmp 41)])⟩,
    ⟨(some 4), none, (.prim .mov [(.const (.bool true))])⟩] [5, 6, 38, 39, 40, 41])
  .ret))
  .skip)))))))
  (.region [⟨(some 42), none, (.prim (.bin .add) [(.tmp 11), (.const (.int .i64 1))])⟩,
    ⟨(some 11), none, (.prim .mov [(.tmp 42)])⟩] [6, 7, 32, 42]))))
def A63x1 : VCode := (.seq (.region [⟨(some 8), none, (.prim .mov [(.tmp 0)])⟩,
    ⟨(some 9), none, (.prim .len [(.tmp 8)])⟩,
    ⟨(some 10), none, (.prim .minI [(.tmp 9), (.const (.int .i64 10))])⟩,
    ⟨(some 11), none, (.prim .mov [(.const (.int .i64 0))])⟩] [8, 9])
  (.block 0 (.loop kL63x2 L63x2)))
def B63x1 : VCode := (.seq (.region [⟨(some 2), none, (.prim .mov [(.const (.int .u64 0))])⟩,
    ⟨(some 3), none, (.prim .mov [(.const (.int .i64 0))])⟩,
    ⟨(some 4), none, (.prim .mov [(.const (.bool false))])⟩] [])
  .ret)

/-- vmfleet/bits.Uvarint -/
def F63 : VFunc := ⟨43,
  (.seq (.region [⟨(some 2), none, (.prim .mov [(.const (.int .u64 0))])⟩,
    ⟨(some 3), none, (.prim .mov [(.const (.int .i64 0))])⟩,
    ⟨(some 4), none, (.prim .mov [(.const (.bool false))])⟩] [2, 3, 4])
  (.seq (.region [⟨(some 5), none, (.prim .mov [(.const (.int .u64 0))])⟩] [])
  (.seq A63x1
  B63x1))), [2, 3, 4], []⟩
theorem c63 : compile Try.prog sg 63 = some F63 := by kernel_rfl

def kL66x2 : List Nat := [1, 2, 4, 5, 6, 7, 8, 9, 10, 11, 12, 13, 14, 15, 16, 17, 18, 19]
def L66x2 : VCode := (.seq (.seq (.region [⟨(some 4), none, (.prim .mov [(.tmp 0)])⟩,
    ⟨(some 5), none, (.prim (.bin .geq) [(.tmp 4), (.const (.int .u64 128))])⟩] [4])
  (.cond (.tmp 5)
  .skip
  (.seq (.region [] [1, 2, 4, 5, 6, 7, 8, 9, 10, 11, 12, 13, 14, 15, 16, 17, 18, 19])
  (.exit 0))))
  (.block 1 (.seq (.region [⟨(some 6), none, (.prim .mov [(.tmp 3)])⟩,
    ⟨(some 7), none, (.prim .mov [(.tmp 0)])⟩,
    ⟨(some 8), none, (.prim (.toInt .u8) [(.tmp 7)])⟩,
    ⟨(some 9), none, (.prim (.bin .or) [(.tmp 8), (.const (.int .u8 128))])⟩,
    ⟨(some 10), none, (.prim (.buildSl (.int .u8 0) 1 [0]) [(.tmp 9)])⟩,
    ⟨(some 11), none, (.prim (.app 1) [(.tmp 6), (.tmp 10)])⟩,
    ⟨(some 3), none, (.prim .mov [(.tmp 11)])⟩] [5, 7, 8, 9, 10, 11])
  (.region [⟨(some 12), none, (.prim .mov [(.tmp 0)])⟩,
    ⟨(some 13), none, (.prim (.bin .shr) [(.tmp 12), (.const (.int .u64 7))])⟩,
    ⟨(some 0), none, (.prim .mov [(.tmp 13)])⟩] [12, 13]))))
def A66x1 : VCode := (.block 0 (.loop kL66x2 L66x2))
def B66x1 : VCode := (.seq (.region [⟨(some 14), none, (.prim .mov [(.tmp 3)])⟩,
    ⟨(some 15), none, (.prim .mov [(.tmp 0)])⟩,
    ⟨(some 16), none, (.prim (.toInt .u8) [(.tmp 15)])⟩,
    ⟨(some 17), none, (.prim (.buildSl (.int .u8 0) 1 [0]) [(.tmp 16)])⟩,
    ⟨(some 18), none, (.prim (.app 1) [(.tmp 14), (.tmp 17)])⟩,
    ⟨(some 19), none, (.prim .toStr [(.tmp 18)])⟩,
    ⟨(some 2), none, (.prim .mov [(.tmp 19)])⟩] [0, 3, 15, 16, 17, 18, 19])
  .ret)

/-- vmfleet/bits.PutUvarint -/
def F66 : VFunc := ⟨20,
  (.seq (.region [⟨(some 2), none, (.prim .mov [(.const (.str []))])⟩] [2])
  (.seq (.region [⟨(some 3), none, (.prim .mov [(.const (.slice true []))])⟩] [])
  (.seq A66x1
  B66x1))), [2], []⟩
theorem c66 : compile Try.prog sg 66 = some F66 := by kernel_rfl


/-- vmfleet/eventlog.text -/
def F71 : VFunc := ⟨9,
  (.seq (.region [⟨(some 2), none, (.prim .mov [(.const (.str []))])⟩] [2])
  (.seq (.region [⟨(some 3), none, (.prim .mov [(.tmp 0)])⟩,
    ⟨(some 4), none, (.prim .len [(.tmp 3)])⟩,
    ⟨(some 5), none, (.prim (.toInt .u64) [(.tmp 4)])⟩,
    ⟨(some 6), none, (.call 66 1 [(.tmp 5)] [])⟩,
    ⟨(some 7), none, (.prim .mov [(.tmp 0)])⟩,
    ⟨(some 8), none, (.prim (.bin .add) [(.tmp 6), (.tmp 7)])⟩,
    ⟨(some 2), none, (.prim .mov [(.tmp 8)])⟩] [0, 3, 4, 5, 6, 7, 8])
  .ret)), [2], []⟩
theorem c71 : compile Try.prog sg 71 = some F71 := by kernel_rfl

def kL72x2 : List Nat := [0, 1, 2, 5, 6, 7, 8, 9, 12, 13, 14, 15, 16, 17, 18, 19, 20, 21, 22, 23, 24, 25]
def L72x2 : VCode := (.seq (.region [⟨(some 12), none, (.prim (.bin .lss) [(.tmp 11), (.tmp 10)])⟩] [])
  (.seq (.cond (.tmp 12)
  .skip
  (.seq (.region [] [0, 1, 2, 3, 5, 6, 7, 8, 9, 10, 11, 12, 13, 14, 15, 16, 17, 18, 19, 20, 21, 22, 23, 24, 25])
  (.exit 0)))
  (.seq (.block 1 (.seq (.region [⟨(some 13), none, (.prim .mov [(.tmp 11)])⟩,
    ⟨(some 5), none, (.prim .mov [(.tmp 13)])⟩] [12, 13])
  (.region [⟨(some 14), none, (.prim .mov [(.tmp 4)])⟩,
    ⟨(some 15), none, (.prim .mov [(.tmp 5)])⟩,
    ⟨(some 16), none, (.prim .mov [(.tmp 3)])⟩,
    ⟨(some 17), none, (.prim .mov [(.tmp 5)])⟩,
    ⟨(some 18), none, (.prim (.bin .mul) [(.const (.int .i64 8)), (.tmp 17)])⟩,
    ⟨(some 19), none, (.prim (.bin .sub) [(.const (.int .i64 56)), (.tmp 18)])⟩,
    ⟨(some 20), none, (.prim (.bin .shr) [(.tmp 16), (.tmp 19)])⟩,
    ⟨(some 21), none, (.prim (.toInt .u8) [(.tmp 20)])⟩,
    ⟨(some 22), none, (.prim (.iptr []) [(.tmp 14), (.tmp 15)])⟩,
    ⟨none, none, (.store 4 (some 22) (.tmp 21))⟩] [5, 15, 16, 17, 18, 19, 20, 21, 22])))
  (.region [⟨(some 23), none, (.prim (.bin .add) [(.tmp 11), (.const (.int .i64 1))])⟩,
    ⟨(some 11), none, (.prim .mov [(.tmp 23)])⟩] [23]))))
def A72x1 : VCode := (.seq (.region [⟨(some 9), none, (.prim .mov [(.tmp 4)])⟩,
    ⟨(some 10), none, (.prim .len [(.tmp 9)])⟩,
    ⟨(some 11), none, (.prim .mov [(.const (.int .i64 0))])⟩] [9])
  (.block 0 (.loop kL72x2 L72x2)))
def B72x1 : VCode := (.seq (.region [⟨(some 24), none, (.prim .mov [(.tmp 4)])⟩,
    ⟨(some 25), none, (.prim .toStr [(.tmp 24)])⟩,
    ⟨(some 2), none, (.prim .mov [(.tmp 25)])⟩] [4, 24, 25])
  .ret)

/-- vmfleet/eventlog.sum -/
def F72 : VFunc := ⟨26,
  (.seq (.region [⟨(some 2), none, (.prim .mov [(.const (.str []))])⟩] [2])
  (.seq (.region [⟨(some 6), none, (.prim .mov [(.tmp 0)])⟩,
    ⟨(some 7), none, (.call 94 1 [(.const (.int .u64 14695981039346656037)), (.tmp 6)] [])⟩,
    ⟨(some 3), none, (.prim .mov [(.tmp 7)])⟩] [0, 6, 7])
  (.seq (.region [⟨(some 8), none, (.prim (.mkSl (.int .u8 0) 1) [(.const (.int .i64 8)), (.const (.int .i64 8))])⟩,
    ⟨(some 4), none, (.prim .mov [(.tmp 8)])⟩] [8])
  (.seq A72x1
  B72x1)))), [2], []⟩
theorem c72 : compile Try.prog sg 72 = some F72 := by kernel_rfl


/-- (*vmfleet/eventlog.reader).number -/
def F73 : VFunc := ⟨35,
  (.seq (.region [⟨(some 2), none, (.prim .mov [(.const (.int .u64 0))])⟩] [2])
  (.seq (.region [⟨(some 7), none, (.prim .mov [(.const (.ptr []))])⟩,
    ⟨(some 8), none, (.prim .mov [(.tmp 7)])⟩,
    ⟨(some 9), none, (.prim (.fptr 0) [(.tmp 8)])⟩,
    ⟨(some 10), none, (.prim .load [(.tmp 0), (.tmp 9)])⟩,
    ⟨(some 11), none, (.call 63 3 [(.tmp 10)] [])⟩,
    ⟨(some 6), none, (.prim .mov [(.tmp 11)])⟩,
    ⟨(some 12), none, (.prim (.ext 0) [(.tmp 6)])⟩,
    ⟨(some 13), none, (.prim (.ext 1) [(.tmp 6)])⟩,
    ⟨(some 14), none, (.prim (.ext 2) [(.tmp 6)])⟩,
    ⟨(some 3), none, (.prim .mov [(.tmp 12)])⟩,
    ⟨(some 4), none, (.prim .mov [(.tmp 13)])⟩,
    ⟨(some 5), none, (.prim .mov [(.tmp 14)])⟩] [6, 7, 8, 9, 10, 11, 12, 13, 14])
  (.seq (.region [⟨(some 15), none, (.prim .mov [(.const (.ptr []))])⟩,
    ⟨(some 16), none, (.prim .mov [(.const (.ptr []))])⟩,
    ⟨(some 17), none, (.prim .mov [(.tmp 16)])⟩,
    ⟨(some 18), none, (.prim (.fptr 1) [(.tmp 17)])⟩,
    ⟨(some 19), none, (.prim .load [(.tmp 0), (.tmp 18)])⟩,
    ⟨(some 20), none, (.prim .mov [(.tmp 19)])⟩,
    ⟨(some 21), (some (20, true)), (.prim .mov [(.tmp 5)])⟩,
    ⟨(some 22), none, (.pick (.tmp 20) (.tmp 21) (.const (.bool false)))⟩,
    ⟨(some 23), none, (.prim .mov [(.tmp 15)])⟩,
    ⟨(some 24), none, (.prim (.fptr 1) [(.tmp 23)])⟩,
    ⟨none, none, (.store 0 (some 24) (.tmp 22))⟩] [5, 15, 16, 17, 18, 19, 20, 21, 22, 23, 24])
  (.seq (.region [⟨(some 25), none, (.prim .mov [(.const (.ptr []))])⟩,
    ⟨(some 26), none, (.prim .mov [(.const (.ptr []))])⟩,
    ⟨(some 27), none, (.prim .mov [(.tmp 26)])⟩,
    ⟨(some 28), none, (.prim (.fptr 0) [(.tmp 27)])⟩,
    ⟨(some 29), none, (.prim .load [(.tmp 0), (.tmp 28)])⟩,
    ⟨(some 30), none, (.prim .mov [(.tmp 4)])⟩,
    ⟨(some 31), none, (.prim (.sl true false) [(.tmp 29), (.tmp 30)])⟩,
    ⟨(some 32), none, (.prim .mov [(.tmp 25)])⟩,
    ⟨(some 33), none, (.prim (.fptr 0) [(.tmp 32)])⟩,
    ⟨none, none, (.store 0 (some 33) (.tmp 31))⟩] [4, 25, 26, 27, 28, 29, 30, 31, 32, 33])
  (.seq (.region [⟨(some 34), none, (.prim .mov [(.tmp 3)])⟩,
    ⟨(some 2), none, (.prim .mov [(.tmp 34)])⟩] [3, 34])
  .ret))))), [2], [0]⟩
theorem c73 : compile Try.prog sg 73 = some F73 := by kernel_rfl


/-- (*vmfleet/eventlog.reader).text -/
def F74 : VFunc := ⟨34,
  (.seq (.region [⟨(some 2), none, (.prim .mov [(.const (.str []))])⟩] [2])
  (.seq (.region [⟨(some 5), none, (.prim .mov [(.const (.ptr []))])⟩,
    ⟨(some 6), none, (.call 73 1 [(.deref 0 (some 5))] [(0, (some 5))])⟩,
    ⟨(some 3), none, (.prim .mov [(.tmp 6)])⟩] [5, 6])
  (.seq (.seq (.region [⟨(some 7), none, (.prim .mov [(.tmp 3)])⟩,
    ⟨(some 8), none, (.prim .mov [(.const (.ptr []))])⟩,
    ⟨(some 9), none, (.prim .mov [(.tmp 8)])⟩,
    ⟨(some 10), none, (.prim (.fptr 0) [(.tmp 9)])⟩,
    ⟨(some 11), none, (.prim .load [(.tmp 0), (.tmp 10)])⟩,
    ⟨(some 12), none, (.prim .len [(.tmp 11)])⟩,
    ⟨(some 13), none, (.prim (.toInt .u64) [(.tmp 12)])⟩,
    ⟨(some 14), none, (.prim (.bin .gtr) [(.tmp 7), (.tmp 13)])⟩] [7, 8, 9, 10, 11, 12, 13])
  (.cond (.tmp 14)
  (.seq (.region [⟨(some 15), none, (.prim .mov [(.const (.ptr []))])⟩,
    ⟨(some 16), none, (.prim .mov [(.tmp 15)])⟩,
    ⟨(some 17), none, (.prim (.fptr 1) [(.tmp 16)])⟩,
    ⟨none, none, (.store 0 (some 17) (.const (.bool false)))⟩] [3, 14, 15, 16, 17])
  (.seq (.region [⟨(some 2), none, (.prim .mov [(.const (.str []))])⟩] [])
  .ret))
  .skip))
  (.seq (.region [⟨(some 18), none, (.prim .mov [(.const (.ptr []))])⟩,
    ⟨(some 19), none, (.prim .mov [(.tmp 18)])⟩,
    ⟨(some 20), none, (.prim (.fptr 0) [(.tmp 19)])⟩,
    ⟨(some 21), none, (.prim .load [(.tmp 0), (.tmp 20)])⟩,
    ⟨(some 22), none, (.prim .mov [(.tmp 3)])⟩,
    ⟨(some 23), none, (.prim (.sl false true) [(.tmp 21), (.tmp 22)])⟩,
    ⟨(some 4), none, (.prim .mov [(.tmp 23)])⟩] [14, 18, 19, 20, 21, 22, 23])
  (.seq (.region [⟨(some 24), none, (.prim .mov [(.const (.ptr []))])⟩,
    ⟨(some 25), none, (.prim .mov [(.const (.ptr []))])⟩,
    ⟨(some 26), none, (.prim .mov [(.tmp 25)])⟩,
    ⟨(some 27), none, (.prim (.fptr 0) [(.tmp 26)])⟩,
    ⟨(some 28), none, (.prim .load [(.tmp 0), (.tmp 27)])⟩,
    ⟨(some 29), none, (.prim .mov [(.tmp 3)])⟩,
    ⟨(some 30), none, (.prim (.sl true false) [(.tmp 28), (.tmp 29)])⟩,
    ⟨(some 31), none, (.prim .mov [(.tmp 24)])⟩,
    ⟨(some 32), none, (.prim (.fptr 0) [(.tmp 31)])⟩,
    ⟨none, none, (.store 0 (some 32) (.tmp 30))⟩] [3, 24, 25, 26, 27, 28, 29, 30, 31, 32])
  (.seq (.region [⟨(some 33), none, (.prim .mov [(.tmp 4)])⟩,
    ⟨(some 2), none, (.prim .mov [(.tmp 33)])⟩] [4, 33])
  .ret)))))), [2], [0]⟩
theorem c74 : compile Try.prog sg 74 = some F74 := by kernel_rfl

def kL79x1 : List Nat := [1, 2, 3, 6, 7, 8, 9, 10, 11, 12, 13, 14, 15, 16, 17, 18, 19, 20, 21, 22, 23, 24, 25, 26, 27, 28, 29, 30, 31, 32, 33, 34, 35, 36, 37, 38, 39, 40, 41, 42, 43, 44, 45, 46, 47, 48, 49, 50, 51, 52, 53, 54, 55, 56, 57, 58, 59, 60, 61, 62, 63, 64, 65, 66, 67, 68, 69, 70, 71, 72, 73, 74, 75, 76, 77, 78, 79]
def L79x1 : VCode := (.block 1 (.seq (.region [⟨(some 16), none, (.prim .mov [(.tmp 0)])⟩,
    ⟨(some 17), none, (.prim .mov [(.tmp 5)])⟩,
    ⟨(some 18), none, (.prim (.sl true false) [(.tmp 16), (.tmp 17)])⟩,
    ⟨(some 19), none, (.call 63 3 [(.tmp 18)] [])⟩,
    ⟨(some 15), none, (.prim .mov [(.tmp 19)])⟩,
    ⟨(some 20), none, (.prim (.ext 0) [(.tmp 15)])⟩,
    ⟨(some 21), none, (.prim (.ext 1) [(.tmp 15)])⟩,
    ⟨(some 22), none, (.prim (.ext 2) [(.tmp 15)])⟩,
    ⟨(some 6), none, (.prim .mov [(.tmp 20)])⟩,
    ⟨(some 7), none, (.prim .mov [(.tmp 21)])⟩,
    ⟨(some 8), none, (.prim .mov [(.tmp 22)])⟩] [15, 16, 17, 18, 19, 20, 21, 22])
  (.seq (.seq (.region [⟨(some 23), none, (.prim .mov [(.tmp 8)])⟩,
    ⟨(some 24), none, (.prim (.un .not) [(.tmp 23)])⟩,
    ⟨(some 25), none, (.prim .mov [(.tmp 24)])⟩,
    ⟨(some 26), (some (25, false)), (.prim .mov [(.tmp 6)])⟩,
    ⟨(some 27), (some (25, false)), (.prim .mov [(.tmp 0)])⟩,
    ⟨(some 28), (some (25, false)), (.prim .len [(.tmp 27)])⟩,
    ⟨(some 29), (some (25, false)), (.prim .mov [(.tmp 5)])⟩,
    ⟨(some 30), (some (25, false)), (.prim (.bin .sub) [(.tmp 28), (.tmp 29)])⟩,
    ⟨(some 31), (some (25, false)), (.prim .mov [(.tmp 7)])⟩,
    ⟨(some 32), (some (25, false)), (.prim (.bin .sub) [(.tmp 30), (.tmp 31)])⟩,
    ⟨(some 33), (some (25, false)), (.prim (.toInt .u64) [(.tmp 32)])⟩,
    ⟨(some 34), (some (25, false)), (.prim (.bin .gtr) [(.tmp 26), (.tmp 33)])⟩,
    ⟨(some 35), none, (.pick (.tmp 25) (.const (.bool true)) (.tmp 34))⟩] [8, 23, 24, 25])
  (.cond (.tmp 35)
  (.seq (.region [⟨(some 36), none, (.prim .mov [(.tmp 4)])⟩,
    ⟨(some 37), none, (.prim .mov [(.tmp 5)])⟩,
    ⟨(some 2), none, (.prim .mov [(.tmp 36)])⟩,
    ⟨(some 3), none, (.prim .mov [(.tmp 37)])⟩] [0, 4, 5, 6, 7, 26, 27, 28, 29, 30, 31, 32, 33, 34, 35, 37])
  .ret)
  .skip))
  (.seq (.region [⟨(some 38), none, (.prim .mov [(.tmp 5)])⟩,
    ⟨(some 39), none, (.prim .mov [(.tmp 7)])⟩,
    ⟨(some 40), none, (.prim (.bin .add) [(.tmp 38), (.tmp 39)])⟩,
    ⟨(some 41), none, (.prim .mov [(.tmp 6)])⟩,
    ⟨(some 42), none, (.prim (.toInt .i64) [(.tmp 41)])⟩,
    ⟨(some 43), none, (.prim (.bin .add) [(.tmp 40), (.tmp 42)])⟩,
    ⟨(some 9), none, (.prim .mov [(.tmp 43)])⟩] [6, 35, 38, 39, 40, 41, 42, 43])
  (.seq (.region [⟨(some 45), none, (.prim .mov [(.tmp 0)])⟩,
    ⟨(some 46), none, (.prim .mov [(.tmp 5)])⟩,
    ⟨(some 47), none, (.prim .mov [(.tmp 7)])⟩,
    ⟨(some 48), none, (.prim (.bin .add) [(.tmp 46), (.tmp 47)])⟩,
    ⟨(some 49), none, (.prim .mov [(.tmp 9)])⟩,
    ⟨(some 50), none, (.prim (.sl true true) [(.tmp 45), (.tmp 48), (.tmp 49)])⟩,
    ⟨(some 51), none, (.call 48 3 [(.tmp 50)] [])⟩,
    ⟨(some 44), none, (.prim .mov [(.tmp 51)])⟩,
    ⟨(some 52), none, (.prim (.ext 0) [(.tmp 44)])⟩,
    ⟨(some 53), none, (.prim (.ext 1) [(.tmp 44)])⟩,
    ⟨(some 54), none, (.prim (.ext 2) [(.tmp 44)])⟩,
    ⟨(some 10), none, (.prim .mov [(.tmp 52)])⟩,
    ⟨(some 11), none, (.prim .mov [(.tmp 53)])⟩,
    ⟨(some 12), none, (.prim .mov [(.tmp 54)])⟩] [7, 44, 45, 46, 47, 48, 49, 50, 51, 52, 53, 54])
  (.seq (.seq (.region [⟨(some 55), none, (.prim .mov [(.tmp 12)])⟩,
    ⟨(some 56), none, (.prim (.bin .neq) [(.tmp 55), (.const (.int .i64 0))])⟩,
    ⟨(some 57), none, (.prim .mov [(.tmp 56)])⟩,
    ⟨(some 58), (some (57, false)), (.prim .mov [(.tmp 10)])⟩,
    ⟨(some 59), (some (57, false)), (.prim .mov [(.tmp 4)])⟩,
    ⟨(some 60), (some (57, false)), (.prim .len [(.tmp 59)])⟩,
    ⟨(some 61), (some (57, false)), (.prim (.toInt .u64) [(.tmp 60)])⟩,
    ⟨(some 62), (some (57, false)), (.prim (.bin .neq) [(.tmp 58), (.tmp 61)])⟩,
    ⟨(some 63), none, (.pick (.tmp 57) (.const (.bool true)) (.tmp 62))⟩] [10, 12, 55, 56, 57])
  (.cond (.tmp 63)
  (.seq (.region [⟨(some 64), none, (.prim .mov [(.tmp 4)])⟩,
    ⟨(some 65), none, (.prim .mov [(.tmp 5)])⟩,
    ⟨(some 2), none, (.prim .mov [(.tmp 64)])⟩,
    ⟨(some 3), none, (.prim .mov [(.tmp 65)])⟩] [0, 4, 5, 9, 11, 26, 27, 28, 29, 30, 31, 32, 33, 34, 58, 60, 61, 62, 63, 65])
  .ret)
  .skip))
  (.seq (.region [⟨(some 67), none, (.prim .mov [(.tmp 11)])⟩,
    ⟨(some 68), none, (.call 52 2 [(.tmp 67)] [])⟩,
    ⟨(some 66), none, (.prim .mov [(.tmp 68)])⟩,
    ⟨(some 69), none, (.prim (.ext 0) [(.tmp 66)])⟩,
    ⟨(some 70), none, (.prim (.ext 1) [(.tmp 66)])⟩,
    ⟨(some 13), none, (.prim .mov [(.const (.agg [(.int .i64 0), (.str []), (.int .i64 0), (.int .i64 0), (.agg [(.int .i64 0), (.int .i64 0), (.int .i64 0), (.int .i64 0)]), (.agg [(.int .i64 0), (.int .i64 0), (.bool false)])]))])⟩,
    ⟨none, none, (.store 13 none (.tmp 69))⟩,
    ⟨(some 14), none, (.prim .mov [(.tmp 70)])⟩] [11, 63, 66, 67, 68, 69, 70])
  (.seq (.seq (.region [⟨(some 71), none, (.prim .mov [(.tmp 14)])⟩,
    ⟨(some 72), none, (.prim (.un .not) [(.tmp 71)])⟩] [14, 71])
  (.cond (.tmp 72)
  (.seq (.region [⟨(some 73), none, (.prim .mov [(.tmp 4)])⟩,
    ⟨(some 74), none, (.prim .mov [(.tmp 5)])⟩,
    ⟨(some 2), none, (.prim .mov [(.tmp 73)])⟩,
    ⟨(some 3), none, (.prim .mov [(.tmp 74)])⟩] [0, 4, 5, 9, 13, 26, 27, 28, 29, 30, 31, 32, 33, 34, 58, 60, 61, 62, 72, 74])
  .ret)
  .skip))
  (.seq (.region [⟨(some 75), none, (.prim .mov [(.tmp 4)])⟩,
    ⟨(some 76), none, (.prim .load [(.tmp 13), (.const (.ptr []))])⟩,
    ⟨(some 77), none, (.prim (.buildSl (.agg [(.int .i64 0), (.str []), (.int .i64 0), (.int .i64 0), (.agg [(.int .i64 0), (.int .i64 0), (.int .i64 0), (.int .i64 0)]), (.agg [(.int .i64 0), (.int .i64 0), (.bool false)])]) 1 [0]) [(.tmp 76)])⟩,
    ⟨(some 78), none, (.prim (.app 96) [(.tmp 75), (.tmp 77)])⟩,
    ⟨(some 4), none, (.prim .mov [(.tmp 78)])⟩] [5, 13, 72, 76, 77, 78])
  (.region [⟨(some 79), none, (.prim .mov [(.tmp 9)])⟩,
    ⟨(some 5), none, (.prim .mov [(.tmp 79)])⟩] [9, 79]))))))))))

/-- vmfleet/journal.Parse -/
def F79 : VFunc := ⟨80,
  (.seq (.region [⟨(some 2), none, (.prim .mov [(.const (.slice true []))])⟩,
    ⟨(some 3), none, (.prim .mov [(.const (.int .i64 0))])⟩] [2, 3])
  (.seq (.region [⟨(some 4), none, (.prim .mov [(.const (.slice true []))])⟩] [])
  (.seq (.region [⟨(some 5), none, (.prim .mov [(.const (.int .i64 0))])⟩] [])
  (.block 0 (.loop kL79x1 L79x1))))), [2, 3], []⟩
theorem c79 : compile Try.prog sg 79 = some F79 := by kernel_rfl

def kL80x2 : List Nat := [0, 2, 3, 4, 5, 6, 7, 8, 9, 10, 11, 12, 13, 14, 15, 16, 17, 21, 22, 23, 24, 25, 26, 27, 28, 29, 30, 31, 32, 33, 34, 35, 36, 37, 38, 39, 40, 41, 42, 43, 44, 45, 46, 47, 48, 49, 50, 51, 52, 53, 54, 55, 56, 57, 58, 59, 60, 61, 62, 63, 64, 65, 66, 67, 68, 69, 70, 71, 72, 73, 74, 75, 76, 77, 78, 79, 80, 81, 82, 83, 84, 85, 86, 87, 88, 89, 90, 91, 92, 93, 94, 95, 96, 97, 98, 99, 100, 101]
def L80x2 : VCode := (.seq (.region [⟨(some 21), none, (.prim (.bin .lss) [(.tmp 20), (.tmp 19)])⟩] [])
  (.seq (.cond (.tmp 21)
  .skip
  (.seq (.region [] [0, 2, 3, 4, 5, 6, 7, 8, 9, 10, 11, 12, 13, 14, 15, 16, 17, 18, 19, 20, 21, 22, 23, 24, 25, 26, 27, 28, 29, 30, 31, 32, 33, 34, 35, 36, 37, 38, 39, 40, 41, 42, 43, 44, 45, 46, 47, 48, 49, 50, 51, 52, 53, 54, 55, 56, 57, 58, 59, 60, 61, 62, 63, 64, 65, 66, 67, 68, 69, 70, 71, 72, 73, 74, 75, 76, 77, 78, 79, 80, 81, 82, 83, 84, 85, 86, 87, 88, 89, 90, 91, 92, 93, 94, 95, 96, 97, 98, 99, 100, 101])
  (.exit 0)))
  (.seq (.block 1 (.seq (.region [⟨(some 22), none, (.prim .mov [(.tmp 20)])⟩,
    ⟨(some 23), none, (.prim (.iptr []) [(.tmp 18), (.tmp 20)])⟩,
    ⟨(some 24), none, (.prim .load [(.tmp 18), (.tmp 23)])⟩,
    ⟨(some 4), none, (.prim .mov [(.const (.agg [(.str []), (.agg [(.int .i64 0), (.int .i64 0), (.int .i64 0), (.int .i64 0)]), (.agg [(.int .i64 0), (.int .i64 0)])]))])⟩,
    ⟨(some 3), none, (.prim .mov [(.tmp 22)])⟩,
    ⟨none, none, (.store 4 none (.tmp 24))⟩] [21, 22, 23, 24])
  (.seq (.region [⟨(some 25), none, (.prim (.fptr 0) [(.const (.ptr []))])⟩,
    ⟨(some 26), none, (.prim .load [(.tmp 4), (.tmp 25)])⟩,
    ⟨(some 27), none, (.call 95 1 [(.tmp 26)] [])⟩,
    ⟨(some 28), none, (.prim (.un .not) [(.tmp 27)])⟩,
    ⟨(some 29), none, (.prim .mov [(.tmp 28)])⟩,
    ⟨(some 30), (some (29, false)), (.prim .mov [(.tmp 3)])⟩,
    ⟨(some 31), (some (29, false)), (.prim (.bin .gtr) [(.tmp 30), (.const (.int .i64 0))])⟩,
    ⟨(some 32), (some (29, false)), (.prim .mov [(.tmp 31)])⟩,
    ⟨(some 33), (some (32, true)), (.prim (.fptr 1) [(.const (.ptr []))])⟩,
    ⟨(some 34), (some (32, true)), (.prim .load [(.tmp 1), (.tmp 33)])⟩,
    ⟨(some 35), (some (32, true)), (.prim .mov [(.tmp 3)])⟩,
    ⟨(some 36), (some (32, true)), (.prim (.bin .sub) [(.tmp 35), (.const (.int .i64 1))])⟩,
    ⟨(some 37), (some (32, true)), (.prim (.iptr []) [(.tmp 34), (.tmp 36)])⟩,
    ⟨(some 38), (some (32, true)), (.prim (.fptr 0) [(.tmp 37)])⟩,
    ⟨(some 39), (some (32, true)), (.prim .load [(.tmp 34), (.tmp 38)])⟩,
    ⟨(some 40), (some (32, true)), (.prim (.fptr 0) [(.const (.ptr []))])⟩,
    ⟨(some 41), (some (32, true)), (.prim .load [(.tmp 4), (.tmp 40)])⟩,
    ⟨(some 42), (some (32, true)), (.prim (.bin .geq) [(.tmp 39), (.tmp 41)])⟩,
    ⟨(some 43), (some (29, false)), (.pick (.tmp 32) (.tmp 42) (.const (.bool false)))⟩,
    ⟨(some 44), none, (.pick (.tmp 29) (.const (.bool true)) (.tmp 43))⟩,
    ⟨(some 45), none, (.prim .mov [(.tmp 44)])⟩,
    ⟨(some 46), (some (45, false)), (.prim (.fptr 1) [(.const (.ptr []))])⟩,
    ⟨(some 47), (some (45, false)), (.prim .load [(.tmp 4), (.tmp 46)])⟩,
    ⟨(some 48), (some (45, false)), (.call 96 1 [(.tmp 47)] [])⟩,
    ⟨(some 49), (some (45, false)), (.prim (.un .not) [(.tmp 48)])⟩,
    ⟨(some 50), none, (.pick (.tmp 45) (.const (.bool true)) (.tmp 49))⟩,
    ⟨(some 51), none, (.prim .mov [(.tmp 50)])⟩,
    ⟨(some 52), (some (51, false)), (.prim .load [(.tmp 1), (.const (.ptr []))])⟩,
    ⟨(some 53), (some (51, false)), (.prim (.fptr 2) [(.const (.ptr []))])⟩,
    ⟨(some 54), (some (51, false)), (.prim (.aptr 2) [(.tmp 53), (.const (.int .i64 0))])⟩,
    ⟨(some 55), (some (51, false)), (.prim .load [(.tmp 4), (.tmp 54)])⟩,
    ⟨(some 56), (some (51, false)), (.call 97 1 [(.tmp 52), (.tmp 55)] [])⟩,
    ⟨(some 57), (some (51, false)), (.prim (.un .not) [(.tmp 56)])⟩,
    ⟨(some 58), none, (.pick (.tmp 51) (.const (.bool true)) (.tmp 57))⟩,
    ⟨(some 59), none, (.prim .mov [(.tmp 58)])⟩,
    ⟨(some 60), (some (59, false)), (.prim .load [(.tmp 1), (.const (.ptr []))])⟩,
    ⟨(some 61), (some (59, false)), (.prim (.fptr 2) [(.const (.ptr []))])⟩,
    ⟨(some 62), (some (59, false)), (.prim (.aptr 2) [(.tmp 61), (.const (.int .i64 1))])⟩,
    ⟨(some 63), (some (59, false)), (.prim .load [(.tmp 4), (.tmp 62)])⟩,
    ⟨(some 64), (some (59, false)), (.call 97 1 [(.tmp 60), (.tmp 63)] [])⟩,
    ⟨(some 65), (some (59, false)), (.prim (.un .not) [(.tmp 64)])⟩,
    ⟨(some 66), none, (.pick (.tmp 59) (.const (.bool true)) (.tmp 65))⟩,
    ⟨(some 67), none, (.prim .mov [(.tmp 66)])⟩,
    ⟨(some 68), (some (67, false)), (.prim (.fptr 2) [(.const (.ptr []))])⟩,
    ⟨(some 69), (some (67, false)), (.prim (.aptr 2) [(.tmp 68), (.const (.int .i64 0))])⟩,
    ⟨(some 70), (some (67, false)), (.prim .load [(.tmp 4), (.tmp 69)])⟩,
    ⟨(some 71), (some (67, false)), (.prim (.fptr 2) [(.const (.ptr []))])⟩,
    ⟨(some 72), (some (67, false)), (.prim (.aptr 2) [(.tmp 71), (.const (.int .i64 1))])⟩,
    ⟨(some 73), (some (67, false)), (.prim .load [(.tmp 4), (.tmp 72)])⟩,
    ⟨(some 74), (some (67, false)), (.prim (.bin .eql) [(.tmp 70), (.tmp 73)])⟩,
    ⟨(some 75), none, (.pick (.tmp 67) (.const (.bool true)) (.tmp 74))⟩] [3, 25, 26, 27, 28, 29, 44, 45, 50, 51, 58, 59, 66, 67])
  (.cond (.tmp 75)
  (.seq (.region [⟨(some 2), none, (.prim .mov [(.const (.bool false))])⟩] [1, 4, 18, 19, 20, 30, 31, 32, 33, 34, 35, 36, 37, 38, 39, 40, 41, 42, 43, 46, 47, 48, 49, 52, 53, 54, 55, 56, 57, 60, 61, 62, 63, 64, 65, 68, 69, 70, 71, 72, 73, 74, 75])
  .ret)
  .skip))))
  (.region [⟨(some 76), none, (.prim (.bin .add) [(.tmp 20), (.const (.int .i64 1))])⟩,
    ⟨(some 20), none, (.prim .mov [(.tmp 76)])⟩] [75, 76]))))
def A80x1 : VCode := (.seq (.region [⟨(some 17), none, (.prim (.fptr 1) [(.const (.ptr []))])⟩,
    ⟨(some 18), none, (.prim .load [(.tmp 1), (.tmp 17)])⟩,
    ⟨(some 19), none, (.prim .len [(.tmp 18)])⟩,
    ⟨(some 20), none, (.prim .mov [(.const (.int .i64 0))])⟩] [16, 17])
  (.block 0 (.loop kL80x2 L80x2)))
def kL80x4 : List Nat := [0, 2, 3, 4, 5, 6, 7, 8, 9, 10, 11, 12, 13, 14, 15, 16, 17, 18, 19, 20, 21, 22, 23, 24, 25, 26, 27, 28, 29, 30, 31, 32, 33, 34, 35, 36, 37, 38, 39, 40, 41, 42, 43, 44, 45, 46, 47, 48, 49, 50, 51, 52, 53, 54, 55, 56, 57, 58, 59, 60, 61, 62, 63, 64, 65, 66, 67, 68, 69, 70, 71, 72, 73, 74, 75, 76, 77, 81, 82, 83, 84, 85, 86, 87, 88, 89, 90, 91, 92, 93, 94, 95, 96, 97, 98, 99, 100, 101]
def L80x4 : VCode := (.seq (.region [⟨(some 81), none, (.prim (.bin .lss) [(.tmp 80), (.tmp 79)])⟩] [])
  (.seq (.cond (.tmp 81)
  .skip
  (.seq (.region [] [0, 1, 2, 3, 4, 5, 6, 7, 8, 9, 10, 11, 12, 13, 14, 15, 16, 17, 18, 19, 20, 21, 22, 23, 24, 25, 26, 27, 28, 29, 30, 31, 32, 33, 34, 35, 36, 37, 38, 39, 40, 41, 42, 43, 44, 45, 46, 47, 48, 49, 50, 51, 52, 53, 54, 55, 56, 57, 58, 59, 60, 61, 62, 63, 64, 65, 66, 67, 68, 69, 70, 71, 72, 73, 74, 75, 76, 77, 78, 79, 80, 81, 82, 83, 84, 85, 86, 87, 88, 89, 90, 91, 92, 93, 94, 95, 96, 97, 98, 99, 100, 101])
  (.exit 2)))
  (.seq (.block 3 (.seq (.region [⟨(some 82), none, (.prim .mov [(.tmp 80)])⟩,
    ⟨(some 83), none, (.prim (.iptr []) [(.tmp 78), (.tmp 80)])⟩,
    ⟨(some 84), none, (.prim .load [(.tmp 78), (.tmp 83)])⟩,
    ⟨(some 6), none, (.prim .mov [(.const (.agg [(.int .i64 0), (.int .i64 0), (.bool false)]))])⟩,
    ⟨(some 5), none, (.prim .mov [(.tmp 82)])⟩,
    ⟨none, none, (.store 6 none (.tmp 84))⟩] [81, 82, 83, 84])
  (.seq (.region [⟨(some 85), none, (.prim .load [(.tmp 6), (.const (.ptr []))])⟩,
    ⟨(some 86), none, (.call 98 1 [(.tmp 85)] [])⟩,
    ⟨(some 87), none, (.prim (.un .not) [(.tmp 86)])⟩,
    ⟨(some 88), none, (.prim .mov [(.tmp 87)])⟩,
    ⟨(some 89), (some (88, false)), (.prim (.fptr 2) [(.const (.ptr []))])⟩,
    ⟨(some 90), (some (88, false)), (.prim .load [(.tmp 6), (.tmp 89)])⟩,
    ⟨(some 91), (some (88, false)), (.prim .mov [(.tmp 90)])⟩,
    ⟨(some 92), (some (91, true)), (.prim .load [(.tmp 6), (.const (.ptr []))])⟩,
    ⟨(some 93), (some (91, true)), (.prim (.fptr 1) [(.const (.ptr []))])⟩,
    ⟨(some 94), (some (91, true)), (.prim .load [(.tmp 1), (.tmp 93)])⟩,
    ⟨(some 95), (some (91, true)), (.prim .mov [(.tmp 5)])⟩,
    ⟨(some 96), (some (91, true)), (.call 100 1 [(.tmp 94), (.tmp 95)] [])⟩,
    ⟨(some 97), (some (91, true)), (.call 99 1 [(.tmp 92), (.tmp 96)] [])⟩,
    ⟨(some 98), (some (91, true)), (.prim (.un .not) [(.tmp 97)])⟩,
    ⟨(some 99), (some (88, false)), (.pick (.tmp 91) (.tmp 98) (.const (.bool false)))⟩,
    ⟨(some 100), none, (.pick (.tmp 88) (.const (.bool true)) (.tmp 99))⟩] [5, 85, 86, 87, 88])
  (.cond (.tmp 100)
  (.seq (.region [⟨(some 2), none, (.prim .mov [(.const (.bool false))])⟩] [1, 6, 78, 79, 80, 89, 90, 91, 92, 93, 94, 95, 96, 97, 98, 99, 100])
  .ret)
  .skip))))
  (.region [⟨(some 101), none, (.prim (.bin .add) [(.tmp 80), (.const (.int .i64 1))])⟩,
    ⟨(some 80), none, (.prim .mov [(.tmp 101)])⟩] [100, 101]))))
def A80x3 : VCode := (.seq (.region [⟨(some 77), none, (.prim (.fptr 0) [(.const (.ptr []))])⟩,
    ⟨(some 78), none, (.prim .load [(.tmp 1), (.tmp 77)])⟩,
    ⟨(some 79), none, (.prim .len [(.tmp 78)])⟩,
    ⟨(some 80), none, (.prim .mov [(.const (.int .i64 0))])⟩] [77])
  (.block 2 (.loop kL80x4 L80x4)))
def B80x3 : VCode := (.seq (.region [⟨(some 2), none, (.prim .mov [(.const (.bool true))])⟩] [])
  .ret)
def B80x1 : VCode := (.seq A80x3
  B80x3)

/-- vmfleet/journal.Valid -/
def F80 : VFunc := ⟨102,
  (.seq (.region [⟨(some 1), none, (.prim .mov [(.tmp 0)])⟩,
    ⟨(some 2), none, (.prim .mov [(.const (.bool false))])⟩] [0, 2])
  (.seq (.seq (.region [⟨(some 7), none, (.prim (.fptr 0) [(.const (.ptr []))])⟩,
    ⟨(some 8), none, (.prim .load [(.tmp 1), (.tmp 7)])⟩,
    ⟨(some 9), none, (.prim .len [(.tmp 8)])⟩,
    ⟨(some 10), none, (.prim (.bin .gtr) [(.tmp 9), (.const (.int .i64 6))])⟩,
    ⟨(some 11), none, (.prim .mov [(.tmp 10)])⟩,
    ⟨(some 12), (some (11, false)), (.prim (.fptr 1) [(.const (.ptr []))])⟩,
    ⟨(some 13), (some (11, false)), (.prim .load [(.tmp 1), (.tmp 12)])⟩,
    ⟨(some 14), (some (11, false)), (.prim .len [(.tmp 13)])⟩,
    ⟨(some 15), (some (11, false)), (.prim (.bin .gtr) [(.tmp 14), (.const (.int .i64 8))])⟩,
    ⟨(some 16), none, (.pick (.tmp 11) (.const (.bool true)) (.tmp 15))⟩] [7, 8, 9, 10, 11, 12, 13, 14, 15])
  (.cond (.tmp 16)
  (.seq (.region [⟨(some 2), none, (.prim .mov [(.const (.bool false))])⟩] [1, 16])
  .ret)
  .skip))
  (.seq A80x1
  B80x1))), [2], []⟩
theorem c80 : compile Try.prog sg 80 = some F80 := by kernel_rfl


/-- (*vmfleet/journal.reader).number -/
def F81 : VFunc := ⟨31,
  (.seq (.region [⟨(some 2), none, (.prim .mov [(.const (.int .i64 0))])⟩] [2])
  (.seq (.region [⟨(some 7), none, (.prim .mov [(.const (.ptr []))])⟩,
    ⟨(some 8), none, (.prim .mov [(.tmp 7)])⟩,
    ⟨(some 9), none, (.prim (.fptr 0) [(.tmp 8)])⟩,
    ⟨(some 10), none, (.prim .load [(.tmp 0), (.tmp 9)])⟩,
    ⟨(some 11), none, (.call 63 3 [(.tmp 10)] [])⟩,
    ⟨(some 6), none, (.prim .mov [(.tmp 11)])⟩,
    ⟨(some 12), none, (.prim (.ext 0) [(.tmp 6)])⟩,
    ⟨(some 13), none, (.prim (.ext 1) [(.tmp 6)])⟩,
    ⟨(some 14), none, (.prim (.ext 2) [(.tmp 6)])⟩,
    ⟨(some 3), none, (.prim .mov [(.tmp 12)])⟩,
    ⟨(some 4), none, (.prim .mov [(.tmp 13)])⟩,
    ⟨(some 5), none, (.prim .mov [(.tmp 14)])⟩] [6, 7, 8, 9, 10, 11, 12, 13, 14])
  (.seq (.seq (.region [⟨(some 15), none, (.prim .mov [(.tmp 5)])⟩,
    ⟨(some 16), none, (.prim (.un .not) [(.tmp 15)])⟩] [5, 15])
  (.cond (.tmp 16)
  (.seq (.region [⟨(some 17), none, (.prim .mov [(.const (.ptr []))])⟩,
    ⟨(some 18), none, (.prim .mov [(.tmp 17)])⟩,
    ⟨(some 19), none, (.prim (.fptr 1) [(.tmp 18)])⟩,
    ⟨none, none, (.store 0 (some 19) (.const (.bool false)))⟩] [3, 4, 16, 17, 18, 19])
  (.seq (.region [⟨(some 2), none, (.prim .mov [(.const (.int .i64 0))])⟩] [])
  .ret))
  .skip))
  (.seq (.region [⟨(some 20), none, (.prim .mov [(.const (.ptr []))])⟩,
    ⟨(some 21), none, (.prim .mov [(.const (.ptr []))])⟩,
    ⟨(some 22), none, (.prim .mov [(.tmp 21)])⟩,
    ⟨(some 23), none, (.prim (.fptr 0) [(.tmp 22)])⟩,
    ⟨(some 24), none, (.prim .load [(.tmp 0), (.tmp 23)])⟩,
    ⟨(some 25), none, (.prim .mov [(.tmp 4)])⟩,
    ⟨(some 26), none, (.prim (.sl true false) [(.tmp 24), (.tmp 25)])⟩,
    ⟨(some 27), none, (.prim .mov [(.tmp 20)])⟩,
    ⟨(some 28), none, (.prim (.fptr 0) [(.tmp 27)])⟩,
    ⟨none, none, (.store 0 (some 28) (.tmp 26))⟩] [4, 16, 20, 21, 22, 23, 24, 25, 26, 27, 28])
  (.seq (.region [⟨(some 29), none, (.prim .mov [(.tmp 3)])⟩,
    ⟨(some 30), none, (.prim (.toInt .i64) [(.tmp 29)])⟩,
    ⟨(some 2), none, (.prim .mov [(.tmp 30)])⟩] [3, 29, 30])
  .ret))))), [2], [0]⟩
theorem c81 : compile Try.prog sg 81 = some F81 := by kernel_rfl


/-- (*vmfleet/journal.reader).text -/
def F82 : VFunc := ⟨44,
  (.seq (.region [⟨(some 2), none, (.prim .mov [(.const (.str []))])⟩] [2])
  (.seq (.region [⟨(some 5), none, (.prim .mov [(.const (.ptr []))])⟩,
    ⟨(some 6), none, (.call 81 1 [(.deref 0 (some 5))] [(0, (some 5))])⟩,
    ⟨(some 3), none, (.prim .mov [(.tmp 6)])⟩] [5, 6])
  (.seq (.seq (.region [⟨(some 7), none, (.prim .mov [(.const (.ptr []))])⟩,
    ⟨(some 8), none, (.prim .mov [(.tmp 7)])⟩,
    ⟨(some 9), none, (.prim (.fptr 1) [(.tmp 8)])⟩,
    ⟨(some 10), none, (.prim .load [(.tmp 0), (.tmp 9)])⟩,
    ⟨(some 11), none, (.prim (.un .not) [(.tmp 10)])⟩,
    ⟨(some 12), none, (.prim .mov [(.tmp 11)])⟩,
    ⟨(some 13), (some (12, false)), (.prim .mov [(.tmp 3)])⟩,
    ⟨(some 14), (some (12, false)), (.prim (.bin .lss) [(.tmp 13), (.const (.int .i64 0))])⟩,
    ⟨(some 15), none, (.pick (.tmp 12) (.const (.bool true)) (.tmp 14))⟩,
    ⟨(some 16), none, (.prim .mov [(.tmp 15)])⟩,
    ⟨(some 17), (some (16, false)), (.prim .mov [(.tmp 3)])⟩,
    ⟨(some 18), (some (16, false)), (.prim .mov [(.const (.ptr []))])⟩,
    ⟨(some 19), (some (16, false)), (.prim .mov [(.tmp 18)])⟩,
    ⟨(some 20), (some (16, false)), (.prim (.fptr 0) [(.tmp 19)])⟩,
    ⟨(some 21), (some (16, false)), (.prim .load [(.tmp 0), (.tmp 20)])⟩,
    ⟨(some 22), (some (16, false)), (.prim .len [(.tmp 21)])⟩,
    ⟨(some 23), (some (16, false)), (.prim (.bin .gtr) [(.tmp 17), (.tmp 22)])⟩,
    ⟨(some 24), none, (.pick (.tmp 16) (.const (.bool true)) (.tmp 23))⟩] [7, 8, 9, 10, 11, 12, 13, 14, 15, 16, 17, 18, 19, 20, 21, 22, 23])
  (.cond (.tmp 24)
  (.seq (.region [⟨(some 25), none, (.prim .mov [(.const (.ptr []))])⟩,
    ⟨(some 26), none, (.prim .mov [(.tmp 25)])⟩,
    ⟨(some 27), none, (.prim (.fptr 1) [(.tmp 26)])⟩,
    ⟨none, none, (.store 0 (some 27) (.const (.bool false)))⟩] [3, 24, 25, 26, 27])
  (.seq (.region [⟨(some 2), none, (.prim .mov [(.const (.str []))])⟩] [])
  .ret))
  .skip))
  (.seq (.region [⟨(some 28), none, (.prim .mov [(.const (.ptr []))])⟩,
    ⟨(some 29), none, (.prim .mov [(.tmp 28)])⟩,
    ⟨(some 30), none, (.prim (.fptr 0) [(.tmp 29)])⟩,
    ⟨(some 31), none, (.prim .load [(.tmp 0), (.tmp 30)])⟩,
    ⟨(some 32), none, (.prim .mov [(.tmp 3)])⟩,
    ⟨(some 33), none, (.prim (.sl false true) [(.tmp 31), (.tmp 32)])⟩,
    ⟨(some 4), none, (.prim .mov [(.tmp 33)])⟩] [24, 28, 29, 30, 31, 32, 33])
  (.seq (.region [⟨(some 34), none, (.prim .mov [(.const (.ptr []))])⟩,
    ⟨(some 35), none, (.prim .mov [(.const (.ptr []))])⟩,
    ⟨(some 36), none, (.prim .mov [(.tmp 35)])⟩,
    ⟨(some 37), none, (.prim (.fptr 0) [(.tmp 36)])⟩,
    ⟨(some 38), none, (.prim .load [(.tmp 0), (.tmp 37)])⟩,
    ⟨(some 39), none, (.prim .mov [(.tmp 3)])⟩,
    ⟨(some 40), none, (.prim (.sl true false) [(.tmp 38), (.tmp 39)])⟩,
    ⟨(some 41), none, (.prim .mov [(.tmp 34)])⟩,
    ⟨(some 42), none, (.prim (.fptr 0) [(.tmp 41)])⟩,
    ⟨none, none, (.store 0 (some 42) (.tmp 40))⟩] [3, 34, 35, 36, 37, 38, 39, 40, 41, 42])
  (.seq (.region [⟨(some 43), none, (.prim .mov [(.tmp 4)])⟩,
    ⟨(some 2), none, (.prim .mov [(.tmp 43)])⟩] [4, 43])
  .ret)))))), [2], [0]⟩
theorem c82 : compile Try.prog sg 82 = some F82 := by kernel_rfl


/-- vmfleet/journal.Encode$1 -/
def F83 : VFunc := ⟨8,
  (.region [⟨(some 3), none, (.prim .load [(.tmp 1), (.const (.ptr []))])⟩,
    ⟨(some 4), none, (.prim .mov [(.tmp 0)])⟩,
    ⟨(some 5), none, (.prim (.toInt .u64) [(.tmp 4)])⟩,
    ⟨(some 6), none, (.call 66 1 [(.tmp 5)] [])⟩,
    ⟨(some 7), none, (.prim (.app 1) [(.tmp 3), (.tmp 6)])⟩,
    ⟨none, none, (.store 1 none (.tmp 7))⟩] [0, 4, 5, 6, 7]), [], [1]⟩
theorem c83 : compile Try.prog sg 83 = some F83 := by kernel_rfl


/-- vmfleet/journal.copied -/
def F84 : VFunc := ⟨12,
  (.seq (.region [⟨(some 1), none, (.prim .mov [(.tmp 0)])⟩,
    ⟨(some 2), none, (.prim .mov [(.const (.agg [(.slice true []), (.slice true [])]))])⟩] [0])
  (.seq (.region [⟨(some 3), none, (.prim (.fptr 0) [(.const (.ptr []))])⟩,
    ⟨(some 4), none, (.prim .load [(.tmp 1), (.tmp 3)])⟩,
    ⟨(some 5), none, (.call 101 1 [(.tmp 4)] [])⟩,
    ⟨(some 6), none, (.prim (.fptr 0) [(.const (.ptr []))])⟩,
    ⟨none, none, (.store 1 (some 6) (.tmp 5))⟩] [3, 4, 5, 6])
  (.seq (.region [⟨(some 7), none, (.prim (.fptr 1) [(.const (.ptr []))])⟩,
    ⟨(some 8), none, (.prim .load [(.tmp 1), (.tmp 7)])⟩,
    ⟨(some 9), none, (.call 102 1 [(.tmp 8)] [])⟩,
    ⟨(some 10), none, (.prim (.fptr 1) [(.const (.ptr []))])⟩,
    ⟨none, none, (.store 1 (some 10) (.tmp 9))⟩] [7, 8, 9, 10])
  (.seq (.region [⟨(some 11), none, (.prim .load [(.tmp 1), (.const (.ptr []))])⟩,
    ⟨none, none, (.store 2 none (.tmp 11))⟩] [1])
  .ret)))), [2], []⟩
theorem c84 : compile Try.prog sg 84 = some F84 := by kernel_rfl

def A85x1 : VCode := (.seq (.region [⟨(some 27), none, (.prim (.fptr 2) [(.const (.ptr []))])⟩,
    ⟨(some 28), none, (.prim .load [(.tmp 3), (.tmp 27)])⟩,
    ⟨(some 29), none, (.prim .mov [(.const (.ptr []))])⟩,
    ⟨(some 30), none, (.prim .mov [(.tmp 29)])⟩,
    ⟨(some 31), none, (.prim (.fptr 0) [(.tmp 30)])⟩,
    ⟨(some 32), none, (.prim .load [(.tmp 0), (.tmp 31)])⟩,
    ⟨(some 33), none, (.prim .len [(.tmp 32)])⟩,
    ⟨(some 34), none, (.prim (.bin .eql) [(.tmp 28), (.tmp 33)])⟩] [26, 27, 28, 29, 30, 31, 32, 33])
  (.cond (.tmp 34)
  (.region [⟨(some 35), none, (.prim .mov [(.const (.ptr []))])⟩,
    ⟨(some 36), none, (.prim .mov [(.const (.ptr []))])⟩,
    ⟨(some 37), none, (.prim .mov [(.tmp 36)])⟩,
    ⟨(some 38), none, (.prim (.fptr 0) [(.tmp 37)])⟩,
    ⟨(some 39), none, (.prim .load [(.tmp 0), (.tmp 38)])⟩,
    ⟨(some 40), none, (.prim (.fptr 5) [(.const (.ptr []))])⟩,
    ⟨(some 41), none, (.prim .load [(.tmp 3), (.tmp 40)])⟩,
    ⟨(some 42), none, (.prim (.buildSl (.agg [(.int .i64 0), (.int .i64 0), (.bool false)]) 1 [0]) [(.tmp 41)])⟩,
    ⟨(some 43), none, (.prim (.app 24) [(.tmp 39), (.tmp 42)])⟩,
    ⟨(some 44), none, (.prim .mov [(.tmp 35)])⟩,
    ⟨(some 45), none, (.prim (.fptr 0) [(.tmp 44)])⟩,
    ⟨none, none, (.store 0 (some 45) (.tmp 43))⟩] [3, 34, 35, 36, 37, 38, 40, 41, 42, 43, 44, 45])
  (.region [⟨(some 46), none, (.prim .mov [(.const (.ptr []))])⟩,
    ⟨(some 47), none, (.prim .mov [(.tmp 46)])⟩,
    ⟨(some 48), none, (.prim (.fptr 0) [(.tmp 47)])⟩,
    ⟨(some 49), none, (.prim .load [(.tmp 0), (.tmp 48)])⟩,
    ⟨(some 50), none, (.prim (.fptr 2) [(.const (.ptr []))])⟩,
    ⟨(some 51), none, (.prim .load [(.tmp 3), (.tmp 50)])⟩,
    ⟨(some 52), none, (.prim (.fptr 5) [(.const (.ptr []))])⟩,
    ⟨(some 53), none, (.prim .load [(.tmp 3), (.tmp 52)])⟩,
    ⟨(some 54), none, (.prim (.iptr [0]) [(.tmp 49), (.tmp 51)])⟩,
    ⟨none, none, (.store 0 (some 54) (.tmp 53))⟩] [3, 34, 46, 47, 48, 50, 51, 52, 53, 54])))
def B85x1 : VCode := (.seq (.seq (.region [⟨(some 55), none, (.prim .mov [(.const (.ptr []))])⟩,
    ⟨(some 56), none, (.prim .mov [(.tmp 55)])⟩,
    ⟨(some 57), none, (.prim .load [(.tmp 0), (.tmp 56)])⟩,
    ⟨(some 58), none, (.call 80 1 [(.tmp 57)] [])⟩,
    ⟨(some 59), none, (.prim (.un .not) [(.tmp 58)])⟩] [55, 56, 57, 58])
  (.cond (.tmp 59)
  (.seq (.region [⟨(some 4), none, (.prim .mov [(.const (.int .i64 4200))])⟩] [59])
  .ret)
  .skip))
  (.seq (.region [⟨(some 4), none, (.prim .mov [(.const (.int .i64 0))])⟩] [59])
  .ret))

/-- vmfleet/journal.setHost -/
def F85 : VFunc := ⟨60,
  (.seq (.region [⟨(some 3), none, (.prim .mov [(.tmp 1)])⟩,
    ⟨(some 4), none, (.prim .mov [(.const (.int .i64 0))])⟩] [1, 4])
  (.seq (.seq (.region [⟨(some 5), none, (.prim (.fptr 2) [(.const (.ptr []))])⟩,
    ⟨(some 6), none, (.prim .load [(.tmp 3), (.tmp 5)])⟩,
    ⟨(some 7), none, (.prim (.bin .lss) [(.tmp 6), (.const (.int .i64 0))])⟩,
    ⟨(some 8), none, (.prim .mov [(.tmp 7)])⟩,
    ⟨(some 9), (some (8, false)), (.prim (.fptr 2) [(.const (.ptr []))])⟩,
    ⟨(some 10), (some (8, false)), (.prim .load [(.tmp 3), (.tmp 9)])⟩,
    ⟨(some 11), (some (8, false)), (.prim .mov [(.const (.ptr []))])⟩,
    ⟨(some 12), (some (8, false)), (.prim .mov [(.tmp 11)])⟩,
    ⟨(some 13), (some (8, false)), (.prim (.fptr 0) [(.tmp 12)])⟩,
    ⟨(some 14), (some (8, false)), (.prim .load [(.tmp 0), (.tmp 13)])⟩,
    ⟨(some 15), (some (8, false)), (.prim .len [(.tmp 14)])⟩,
    ⟨(some 16), (some (8, false)), (.prim (.bin .gtr) [(.tmp 10), (.tmp 15)])⟩,
    ⟨(some 17), none, (.pick (.tmp 8) (.const (.bool true)) (.tmp 16))⟩,
    ⟨(some 18), none, (.prim .mov [(.tmp 17)])⟩,
    ⟨(some 19), (some (18, false)), (.prim (.fptr 5) [(.const (.ptr []))])⟩,
    ⟨(some 20), (some (18, false)), (.prim .load [(.tmp 3), (.tmp 19)])⟩,
    ⟨(some 21), (some (18, false)), (.call 98 1 [(.tmp 20)] [])⟩,
    ⟨(some 22), (some (18, false)), (.prim (.un .not) [(.tmp 21)])⟩,
    ⟨(some 23), none, (.pick (.tmp 18) (.const (.bool true)) (.tmp 22))⟩] [5, 6, 7, 8, 9, 10, 11, 12, 13, 14, 15, 16, 17, 18, 19, 20, 21, 22])
  (.cond (.tmp 23)
  (.seq (.region [⟨(some 4), none, (.prim .mov [(.const (.int .i64 4200))])⟩] [3, 23])
  .ret)
  .skip))
  (.seq (.seq (.region [⟨(some 24), none, (.prim (.fptr 2) [(.const (.ptr []))])⟩,
    ⟨(some 25), none, (.prim .load [(.tmp 3), (.tmp 24)])⟩,
    ⟨(some 26), none, (.prim (.bin .eql) [(.tmp 25), (.const (.int .i64 6))])⟩] [23, 24, 25])
  (.cond (.tmp 26)
  (.seq (.region [⟨(some 4), none, (.prim .mov [(.const (.int .i64 4203))])⟩] [3, 26])
  .ret)
  .skip))
  (.seq A85x1
  B85x1)))), [4], [0]⟩
theorem c85 : compile Try.prog sg 85 = some F85 := by kernel_rfl

def kL86x2 : List Nat := [1, 2, 4, 6, 7, 8, 9, 10, 11, 12, 13, 14, 15, 16, 17, 18, 19, 20, 21, 22, 23, 24, 25, 26, 27, 28, 29, 30, 31, 32, 33, 34, 35, 36, 37, 38, 39, 40, 41, 42, 43, 44, 45, 46, 47, 48, 49, 50, 51, 52, 53, 54, 55, 56, 57, 58, 59, 60, 61, 62, 63, 64, 68, 69, 70, 71, 72, 73, 74, 75, 76, 77, 78, 79, 80, 81, 82, 83, 84, 85, 86, 87, 88, 89, 90, 91, 92, 93, 94, 95, 96, 97, 98, 99, 100, 101, 102, 103, 104, 105, 106, 107, 108, 109, 110]
def L86x2 : VCode := (.seq (.region [⟨(some 68), none, (.prim (.bin .lss) [(.tmp 67), (.tmp 66)])⟩] [])
  (.seq (.cond (.tmp 68)
  .skip
  (.seq (.region [] [1, 2, 4, 6, 7, 8, 9, 10, 11, 12, 13, 14, 15, 16, 17, 18, 19, 20, 21, 22, 23, 24, 25, 26, 27, 28, 29, 30, 31, 32, 33, 34, 35, 36, 37, 38, 39, 40, 41, 42, 43, 44, 45, 46, 47, 48, 49, 50, 51, 52, 53, 54, 55, 56, 57, 58, 59, 60, 61, 62, 63, 64, 65, 66, 67, 68, 69, 70, 71, 72, 73, 74, 75, 76, 77, 78, 79, 80, 81, 82, 83, 84, 85, 86, 87, 88, 89, 90, 91, 92, 93, 94, 95, 96, 97, 98, 99, 100, 101, 102, 103, 104, 105, 106, 107, 108, 109, 110])
  (.exit 0)))
  (.seq (.block 1 (.seq (.region [⟨(some 69), none, (.prim (.iptr []) [(.tmp 65), (.tmp 67)])⟩,
    ⟨(some 70), none, (.prim .load [(.tmp 65), (.tmp 69)])⟩,
    ⟨(some 8), none, (.prim .mov [(.tmp 70)])⟩] [68, 69, 70])
  (.seq (.region [⟨(some 71), none, (.prim .mov [(.const (.ptr []))])⟩,
    ⟨(some 72), none, (.prim .mov [(.tmp 71)])⟩,
    ⟨(some 73), none, (.prim (.fptr 0) [(.tmp 72)])⟩,
    ⟨(some 74), none, (.prim .load [(.tmp 0), (.tmp 73)])⟩,
    ⟨(some 75), none, (.prim .mov [(.tmp 8)])⟩,
    ⟨(some 76), none, (.prim (.iptr [0]) [(.tmp 74), (.tmp 75)])⟩,
    ⟨(some 77), none, (.prim .load [(.tmp 0), (.tmp 76)])⟩,
    ⟨(some 78), none, (.prim .mov [(.const (.ptr []))])⟩,
    ⟨(some 79), none, (.prim .mov [(.tmp 78)])⟩,
    ⟨(some 80), none, (.prim (.fptr 1) [(.tmp 79)])⟩,
    ⟨(some 81), none, (.prim .load [(.tmp 0), (.tmp 80)])⟩,
    ⟨(some 82), none, (.prim .mov [(.tmp 8)])⟩,
    ⟨(some 83), none, (.call 100 1 [(.tmp 81), (.tmp 82)] [])⟩,
    ⟨(some 84), none, (.prim (.fptr 4) [(.const (.ptr []))])⟩,
    ⟨(some 85), none, (.prim .load [(.tmp 3), (.tmp 84)])⟩,
    ⟨(some 86), none, (.call 103 1 [(.tmp 77), (.tmp 83), (.tmp 85)] [])⟩,
    ⟨(some 9), none, (.prim .mov [(.tmp 86)])⟩] [8, 71, 72, 73, 74, 75, 76, 77, 78, 79, 80, 81, 82, 83, 84, 85, 86])
  (.seq (.region [⟨(some 87), none, (.prim .mov [(.tmp 9)])⟩,
    ⟨(some 88), none, (.prim (.bin .neq) [(.tmp 87), (.const (.int .i64 0))])⟩] [87])
  (.cond (.tmp 88)
  (.seq (.region [⟨(some 89), none, (.prim .mov [(.tmp 9)])⟩,
    ⟨(some 4), none, (.prim .mov [(.tmp 89)])⟩] [3, 5, 9, 65, 66, 67, 88, 89])
  .ret)
  .skip)))))
  (.region [⟨(some 90), none, (.prim (.bin .add) [(.tmp 67), (.const (.int .i64 1))])⟩,
    ⟨(some 67), none, (.prim .mov [(.tmp 90)])⟩] [9, 88, 90]))))
def A86x1 : VCode := (.seq (.region [⟨(some 61), none, (.prim (.fptr 2) [(.const (.ptr []))])⟩,
    ⟨(some 62), none, (.prim .load [(.tmp 3), (.tmp 61)])⟩,
    ⟨(some 63), none, (.prim (.fptr 3) [(.const (.ptr []))])⟩,
    ⟨(some 64), none, (.prim .load [(.tmp 3), (.tmp 63)])⟩,
    ⟨(some 65), none, (.prim (.buildSl (.int .i64 0) 2 [0, 1]) [(.tmp 62), (.tmp 64)])⟩,
    ⟨(some 66), none, (.prim .len [(.tmp 65)])⟩,
    ⟨(some 67), none, (.prim .mov [(.const (.int .i64 0))])⟩] [60, 61, 62, 63, 64])
  (.block 0 (.loop kL86x2 L86x2)))
def B86x1 : VCode := (.seq (.region [⟨(some 91), none, (.prim .mov [(.const (.ptr []))])⟩,
    ⟨(some 92), none, (.prim .mov [(.const (.ptr []))])⟩,
    ⟨(some 93), none, (.prim .mov [(.tmp 92)])⟩,
    ⟨(some 94), none, (.prim (.fptr 1) [(.tmp 93)])⟩,
    ⟨(some 95), none, (.prim .load [(.tmp 0), (.tmp 94)])⟩,
    ⟨(some 96), none, (.prim .mov [(.tmp 5)])⟩,
    ⟨(some 97), none, (.prim (.fptr 1) [(.const (.ptr []))])⟩,
    ⟨(some 98), none, (.prim .load [(.tmp 3), (.tmp 97)])⟩,
    ⟨(some 99), none, (.prim (.fptr 4) [(.const (.ptr []))])⟩,
    ⟨(some 100), none, (.prim .load [(.tmp 3), (.tmp 99)])⟩,
    ⟨(some 101), none, (.prim (.fptr 2) [(.const (.ptr []))])⟩,
    ⟨(some 102), none, (.prim .load [(.tmp 3), (.tmp 101)])⟩,
    ⟨(some 103), none, (.prim (.fptr 3) [(.const (.ptr []))])⟩,
    ⟨(some 104), none, (.prim .load [(.tmp 3), (.tmp 103)])⟩,
    ⟨(some 105), none, (.prim (.build [(.int .i64 0), (.int .i64 0)] [0, 1]) [(.tmp 102), (.tmp 104)])⟩,
    ⟨(some 106), none, (.prim (.build [(.str []), (.agg [(.int .i64 0), (.int .i64 0), (.int .i64 0), (.int .i64 0)]), (.agg [(.int .i64 0), (.int .i64 0)])] [0, 1, 2]) [(.tmp 98), (.tmp 100), (.tmp 105)])⟩,
    ⟨(some 107), none, (.prim (.buildSl (.agg [(.str []), (.agg [(.int .i64 0), (.int .i64 0), (.int .i64 0), (.int .i64 0)]), (.agg [(.int .i64 0), (.int .i64 0)])]) 1 [0]) [(.tmp 106)])⟩,
    ⟨(some 108), none, (.call 104 1 [(.tmp 95), (.tmp 96), (.tmp 107)] [])⟩,
    ⟨(some 109), none, (.prim .mov [(.tmp 91)])⟩,
    ⟨(some 110), none, (.prim (.fptr 1) [(.tmp 109)])⟩,
    ⟨none, none, (.store 0 (some 110) (.tmp 108))⟩] [3, 5, 91, 92, 93, 94, 96, 97, 98, 99, 100, 101, 102, 103, 104, 105, 106, 107, 108, 109, 110])
  (.seq (.region [⟨(some 4), none, (.prim .mov [(.const (.int .i64 0))])⟩] [])
  .ret))

/-- vmfleet/journal.add -/
def F86 : VFunc := ⟨111,
  (.seq (.region [⟨(some 3), none, (.prim .mov [(.tmp 1)])⟩,
    ⟨(some 4), none, (.prim .mov [(.const (.int .i64 0))])⟩] [1, 4])
  (.seq (.seq (.region [⟨(some 10), none, (.prim (.fptr 1) [(.const (.ptr []))])⟩,
    ⟨(some 11), none, (.prim .load [(.tmp 3), (.tmp 10)])⟩,
    ⟨(some 12), none, (.call 95 1 [(.tmp 11)] [])⟩,
    ⟨(some 13), none, (.prim (.un .not) [(.tmp 12)])⟩,
    ⟨(some 14), none, (.prim .mov [(.tmp 13)])⟩,
    ⟨(some 15), (some (14, false)), (.prim (.fptr 4) [(.const (.ptr []))])⟩,
    ⟨(some 16), (some (14, false)), (.prim .load [(.tmp 3), (.tmp 15)])⟩,
    ⟨(some 17), (some (14, false)), (.call 96 1 [(.tmp 16)] [])⟩,
    ⟨(some 18), (some (14, false)), (.prim (.un .not) [(.tmp 17)])⟩,
    ⟨(some 19), none, (.pick (.tmp 14) (.const (.bool true)) (.tmp 18))⟩,
    ⟨(some 20), none, (.prim .mov [(.tmp 19)])⟩,
    ⟨(some 21), (some (20, false)), (.prim .mov [(.const (.ptr []))])⟩,
    ⟨(some 22), (some (20, false)), (.prim .mov [(.tmp 21)])⟩,
    ⟨(some 23), (some (20, false)), (.prim .load [(.tmp 0), (.tmp 22)])⟩,
    ⟨(some 24), (some (20, false)), (.prim (.fptr 2) [(.const (.ptr []))])⟩,
    ⟨(some 25), (some (20, false)), (.prim .load [(.tmp 3), (.tmp 24)])⟩,
    ⟨(some 26), (some (20, false)), (.call 97 1 [(.tmp 23), (.tmp 25)] [])⟩,
    ⟨(some 27), (some (20, false)), (.prim (.un .not) [(.tmp 26)])⟩,
    ⟨(some 28), none, (.pick (.tmp 20) (.const (.bool true)) (.tmp 27))⟩,
    ⟨(some 29), none, (.prim .mov [(.tmp 28)])⟩,
    ⟨(some 30), (some (29, false)), (.prim .mov [(.const (.ptr []))])⟩,
    ⟨(some 31), (some (29, false)), (.prim .mov [(.tmp 30)])⟩,
    ⟨(some 32), (some (29, false)), (.prim .load [(.tmp 0), (.tmp 31)])⟩,
    ⟨(some 33), (some (29, false)), (.prim (.fptr 3) [(.const (.ptr []))])⟩,
    ⟨(some 34), (some (29, false)), (.prim .load [(.tmp 3), (.tmp 33)])⟩,
    ⟨(some 35), (some (29, false)), (.call 97 1 [(.tmp 32), (.tmp 34)] [])⟩,
    ⟨(some 36), (some (29, false)), (.prim (.un .not) [(.tmp 35)])⟩,
    ⟨(some 37), none, (.pick (.tmp 29) (.const (.bool true)) (.tmp 36))⟩,
    ⟨(some 38), none, (.prim .mov [(.tmp 37)])⟩,
    ⟨(some 39), (some (38, false)), (.prim (.fptr 2) [(.const (.ptr []))])⟩,
    ⟨(some 40), (some (38, false)), (.prim .load [(.tmp 3), (.tmp 39)])⟩,
    ⟨(some 41), (some (38, false)), (.prim (.fptr 3) [(.const (.ptr []))])⟩,
    ⟨(some 42), (some (38, false)), (.prim .load [(.tmp 3), (.tmp 41)])⟩,
    ⟨(some 43), (some (38, false)), (.prim (.bin .eql) [(.tmp 40), (.tmp 42)])⟩,
    ⟨(some 44), none, (.pick (.tmp 38) (.const (.bool true)) (.tmp 43))⟩] [10, 11, 12, 13, 14, 15, 16, 17, 18, 19, 20, 21, 22, 23, 24, 25, 26, 27, 28, 29, 30, 31, 32, 33, 34, 35, 36, 37, 38, 39, 40, 41, 42, 43])
  (.cond (.tmp 44)
  (.seq (.region [⟨(some 4), none, (.prim .mov [(.const (.int .i64 4200))])⟩] [3, 44])
  .ret)
  .skip))
  (.seq (.region [⟨(some 46), none, (.prim .mov [(.const (.ptr []))])⟩,
    ⟨(some 47), none, (.prim .mov [(.tmp 46)])⟩,
    ⟨(some 48), none, (.prim .load [(.tmp 0), (.tmp 47)])⟩,
    ⟨(some 49), none, (.prim (.fptr 1) [(.const (.ptr []))])⟩,
    ⟨(some 50), none, (.prim .load [(.tmp 3), (.tmp 49)])⟩,
    ⟨(some 51), none, (.call 87 2 [(.tmp 48), (.tmp 50)] [])⟩,
    ⟨(some 45), none, (.prim .mov [(.tmp 51)])⟩,
    ⟨(some 52), none, (.prim (.ext 0) [(.tmp 45)])⟩,
    ⟨(some 53), none, (.prim (.ext 1) [(.tmp 45)])⟩,
    ⟨(some 5), none, (.prim .mov [(.tmp 52)])⟩,
    ⟨(some 6), none, (.prim .mov [(.tmp 53)])⟩] [44, 45, 46, 47, 48, 49, 50, 51, 52, 53])
  (.seq (.seq (.region [⟨(some 54), none, (.prim .mov [(.tmp 6)])⟩] [6])
  (.cond (.tmp 54)
  (.seq (.region [⟨(some 4), none, (.prim .mov [(.const (.int .i64 4201))])⟩] [3, 5, 54])
  .ret)
  .skip))
  (.seq (.seq (.region [⟨(some 55), none, (.prim .mov [(.const (.ptr []))])⟩,
    ⟨(some 56), none, (.prim .mov [(.tmp 55)])⟩,
    ⟨(some 57), none, (.prim (.fptr 1) [(.tmp 56)])⟩,
    ⟨(some 58), none, (.prim .load [(.tmp 0), (.tmp 57)])⟩,
    ⟨(some 59), none, (.prim .len [(.tmp 58)])⟩,
    ⟨(some 60), none, (.prim (.bin .eql) [(.tmp 59), (.const (.int .i64 8))])⟩] [54, 55, 56, 57, 58, 59])
  (.cond (.tmp 60)
  (.seq (.region [⟨(some 4), none, (.prim .mov [(.const (.int .i64 4203))])⟩] [3, 5, 60])
  .ret)
  .skip))
  (.seq A86x1
  B86x1)))))), [4], [0]⟩
theorem c86 : compile Try.prog sg 86 = some F86 := by kernel_rfl


/-- vmfleet/journal.find -/
def F87 : VFunc := ⟨12,
  (.seq (.region [⟨(some 2), none, (.prim .mov [(.tmp 0)])⟩,
    ⟨(some 4), none, (.prim .mov [(.const (.int .i64 0))])⟩,
    ⟨(some 5), none, (.prim .mov [(.const (.bool false))])⟩] [0, 4, 5])
  (.seq (.region [⟨none, none, (.prim .mov [])⟩] [])
  .skip)), [4, 5], []⟩
theorem c87 : compile Try.prog sg 87 = some F87 := by kernel_rfl


/-- slices.Delete[[]vmfleet/api.Placed,vmfleet/api.Placed] -/
def F88 : VFunc := ⟨33,
  (.seq (.region [⟨(some 6), none, (.prim .mov [(.const (.slice true []))])⟩] [6])
  (.seq (.region [⟨(some 8), none, (.prim .mov [(.tmp 0)])⟩,
    ⟨(some 9), none, (.prim .mov [(.tmp 1)])⟩,
    ⟨(some 10), none, (.prim .mov [(.tmp 2)])⟩,
    ⟨(some 11), none, (.prim .mov [(.tmp 0)])⟩,
    ⟨(some 12), none, (.prim .len [(.tmp 11)])⟩,
    ⟨(some 13), none, (.prim (.sl3 true) [(.tmp 8), (.tmp 9), (.tmp 10), (.tmp 12)])⟩] [8, 9, 10, 11, 12, 13])
  (.seq (.seq (.region [⟨(some 14), none, (.prim .mov [(.tmp 1)])⟩,
    ⟨(some 15), none, (.prim .mov [(.tmp 2)])⟩,
    ⟨(some 16), none, (.prim (.bin .eql) [(.tmp 14), (.tmp 15)])⟩] [14, 15])
  (.cond (.tmp 16)
  (.seq (.region [⟨(some 17), none, (.prim .mov [(.tmp 0)])⟩,
    ⟨(some 6), none, (.prim .mov [(.tmp 17)])⟩] [0, 1, 2, 16, 17])
  .ret)
  .skip))
  (.seq (.region [⟨(some 18), none, (.prim .mov [(.tmp 0)])⟩,
    ⟨(some 19), none, (.prim .len [(.tmp 18)])⟩,
    ⟨(some 7), none, (.prim .mov [(.tmp 19)])⟩] [16, 18, 19])
  (.seq (.region [⟨none, none, (.prim .mov [])⟩] [])
  .skip))))), [6], []⟩
theorem c88 : compile Try.prog sg 88 = some F88 := by kernel_rfl

def kL94x2 : List Nat := [2, 3, 4, 5, 6, 9, 10, 11, 12, 13, 14, 15, 16, 17, 18, 19]
def L94x2 : VCode := (.seq (.region [⟨(some 9), none, (.prim (.bin .lss) [(.tmp 8), (.tmp 7)])⟩] [])
  (.seq (.cond (.tmp 9)
  .skip
  (.seq (.region [] [1, 2, 3, 4, 5, 6, 7, 8, 9, 10, 11, 12, 13, 14, 15, 16, 17, 18, 19])
  (.exit 0)))
  (.seq (.block 1 (.seq (.region [⟨(some 10), none, (.prim .mov [(.tmp 8)])⟩,
    ⟨(some 5), none, (.prim .mov [(.tmp 10)])⟩] [9, 10])
  (.region [⟨(some 11), none, (.prim .mov [(.tmp 0)])⟩,
    ⟨(some 12), none, (.prim .mov [(.tmp 1)])⟩,
    ⟨(some 13), none, (.prim .mov [(.tmp 5)])⟩,
    ⟨(some 14), none, (.prim .index [(.tmp 12), (.tmp 13)])⟩,
    ⟨(some 15), none, (.prim (.toInt .u64) [(.tmp 14)])⟩,
    ⟨(some 16), none, (.prim (.bin .xor) [(.tmp 11), (.tmp 15)])⟩,
    ⟨(some 17), none, (.prim (.bin .mul) [(.tmp 16), (.const (.int .u64 1099511628211))])⟩,
    ⟨(some 0), none, (.prim .mov [(.tmp 17)])⟩] [5, 11, 12, 13, 14, 15, 16, 17])))
  (.region [⟨(some 18), none, (.prim (.bin .add) [(.tmp 8), (.const (.int .i64 1))])⟩,
    ⟨(some 8), none, (.prim .mov [(.tmp 18)])⟩] [18]))))
def A94x1 : VCode := (.seq (.region [⟨(some 6), none, (.prim .mov [(.tmp 1)])⟩,
    ⟨(some 7), none, (.prim .len [(.tmp 6)])⟩,
    ⟨(some 8), none, (.prim .mov [(.const (.int .i64 0))])⟩] [6])
  (.block 0 (.loop kL94x2 L94x2)))
def B94x1 : VCode := (.seq (.region [⟨(some 19), none, (.prim .mov [(.tmp 0)])⟩,
    ⟨(some 4), none, (.prim .mov [(.tmp 19)])⟩] [0, 19])
  .ret)

/-- vmfleet/bits.Hash -/
def F94 : VFunc := ⟨20,
  (.seq (.region [⟨(some 4), none, (.prim .mov [(.const (.int .u64 0))])⟩] [4])
  (.seq A94x1
  B94x1)), [4], []⟩
theorem c94 : compile Try.prog sg 94 = some F94 := by kernel_rfl


/-- vmfleet/journal.named -/
def F95 : VFunc := ⟨11,
  (.seq (.region [⟨(some 2), none, (.prim .mov [(.const (.bool false))])⟩] [2])
  (.seq (.region [⟨(some 3), none, (.prim .mov [(.tmp 0)])⟩,
    ⟨(some 4), none, (.prim .len [(.tmp 3)])⟩,
    ⟨(some 5), none, (.prim (.bin .geq) [(.tmp 4), (.const (.int .i64 1))])⟩,
    ⟨(some 6), none, (.prim .mov [(.tmp 5)])⟩,
    ⟨(some 7), (some (6, true)), (.prim .mov [(.tmp 0)])⟩,
    ⟨(some 8), (some (6, true)), (.prim .len [(.tmp 7)])⟩,
    ⟨(some 9), (some (6, true)), (.prim (.bin .leq) [(.tmp 8), (.const (.int .i64 12))])⟩,
    ⟨(some 10), none, (.pick (.tmp 6) (.tmp 9) (.const (.bool false)))⟩,
    ⟨(some 2), none, (.prim .mov [(.tmp 10)])⟩] [0, 3, 4, 5, 6, 7, 8, 9, 10])
  .ret)), [2], []⟩
theorem c95 : compile Try.prog sg 95 = some F95 := by kernel_rfl


/-- vmfleet/admission.ValidDemand -/
def F96 : VFunc := ⟨28,
  (.seq (.region [⟨(some 1), none, (.prim .mov [(.tmp 0)])⟩,
    ⟨(some 2), none, (.prim .mov [(.const (.bool false))])⟩] [0, 2])
  (.seq (.region [⟨(some 3), none, (.prim (.fptr 0) [(.const (.ptr []))])⟩,
    ⟨(some 4), none, (.prim .load [(.tmp 1), (.tmp 3)])⟩,
    ⟨(some 5), none, (.prim (.bin .geq) [(.tmp 4), (.const (.int .i64 0))])⟩,
    ⟨(some 6), none, (.prim .mov [(.tmp 5)])⟩,
    ⟨(some 7), (some (6, true)), (.prim (.fptr 0) [(.const (.ptr []))])⟩,
    ⟨(some 8), (some (6, true)), (.prim .load [(.tmp 1), (.tmp 7)])⟩,
    ⟨(some 9), (some (6, true)), (.prim (.fptr 1) [(.const (.ptr []))])⟩,
    ⟨(some 10), (some (6, true)), (.prim .load [(.tmp 1), (.tmp 9)])⟩,
    ⟨(some 11), (some (6, true)), (.prim (.bin .leq) [(.tmp 8), (.tmp 10)])⟩,
    ⟨(some 12), none, (.pick (.tmp 6) (.tmp 11) (.const (.bool false)))⟩,
    ⟨(some 13), none, (.prim .mov [(.tmp 12)])⟩,
    ⟨(some 14), (some (13, true)), (.prim (.fptr 1) [(.const (.ptr []))])⟩,
    ⟨(some 15), (some (13, true)), (.prim .load [(.tmp 1), (.tmp 14)])⟩,
    ⟨(some 16), (some (13, true)), (.call 110 1 [(.tmp 15)] [])⟩,
    ⟨(some 17), none, (.pick (.tmp 13) (.tmp 16) (.const (.bool false)))⟩,
    ⟨(some 18), none, (.prim .mov [(.tmp 17)])⟩,
    ⟨(some 19), (some (18, true)), (.prim (.fptr 2) [(.const (.ptr []))])⟩,
    ⟨(some 20), (some (18, true)), (.prim .load [(.tmp 1), (.tmp 19)])⟩,
    ⟨(some 21), (some (18, true)), (.call 110 1 [(.tmp 20)] [])⟩,
    ⟨(some 22), none, (.pick (.tmp 18) (.tmp 21) (.const (.bool false)))⟩,
    ⟨(some 23), none, (.prim .mov [(.tmp 22)])⟩,
    ⟨(some 24), (some (23, true)), (.prim (.fptr 3) [(.const (.ptr []))])⟩,
    ⟨(some 25), (some (23, true)), (.prim .load [(.tmp 1), (.tmp 24)])⟩,
    ⟨(some 26), (some (23, true)), (.prim (.bin .geq) [(.tmp 25), (.const (.int .i64 0))])⟩,
    ⟨(some 27), none, (.pick (.tmp 23) (.tmp 26) (.const (.bool false)))⟩,
    ⟨(some 2), none, (.prim .mov [(.tmp 27)])⟩] [1, 3, 4, 5, 6, 7, 8, 9, 10, 11, 12, 13, 14, 15, 16, 17, 18, 19, 20, 21, 22, 23, 24, 25, 26, 27])
  .ret)), [2], []⟩
theorem c96 : compile Try.prog sg 96 = some F96 := by kernel_rfl


/-- vmfleet/journal.host -/
def F97 : VFunc := ⟨14,
  (.seq (.region [⟨(some 2), none, (.prim .mov [(.tmp 0)])⟩,
    ⟨(some 4), none, (.prim .mov [(.const (.bool false))])⟩] [0, 4])
  (.seq (.region [⟨(some 5), none, (.prim .mov [(.tmp 1)])⟩,
    ⟨(some 6), none, (.prim (.bin .geq) [(.tmp 5), (.const (.int .i64 0))])⟩,
    ⟨(some 7), none, (.prim .mov [(.tmp 6)])⟩,
    ⟨(some 8), (some (7, true)), (.prim .mov [(.tmp 1)])⟩,
    ⟨(some 9), (some (7, true)), (.prim (.fptr 0) [(.const (.ptr []))])⟩,
    ⟨(some 10), (some (7, true)), (.prim .load [(.tmp 2), (.tmp 9)])⟩,
    ⟨(some 11), (some (7, true)), (.prim .len [(.tmp 10)])⟩,
    ⟨(some 12), (some (7, true)), (.prim (.bin .lss) [(.tmp 8), (.tmp 11)])⟩,
    ⟨(some 13), none, (.pick (.tmp 7) (.tmp 12) (.const (.bool false)))⟩,
    ⟨(some 4), none, (.prim .mov [(.tmp 13)])⟩] [1, 2, 5, 6, 7, 8, 9, 10, 11, 12, 13])
  .ret)), [4], []⟩
theorem c97 : compile Try.prog sg 97 = some F97 := by kernel_rfl


/-- vmfleet/admission.ValidHost -/
def F98 : VFunc := ⟨11,
  (.seq (.region [⟨(some 1), none, (.prim .mov [(.tmp 0)])⟩,
    ⟨(some 2), none, (.prim .mov [(.const (.bool false))])⟩] [0, 2])
  (.seq (.region [⟨(some 3), none, (.prim (.fptr 0) [(.const (.ptr []))])⟩,
    ⟨(some 4), none, (.prim .load [(.tmp 1), (.tmp 3)])⟩,
    ⟨(some 5), none, (.call 110 1 [(.tmp 4)] [])⟩,
    ⟨(some 6), none, (.prim .mov [(.tmp 5)])⟩,
    ⟨(some 7), (some (6, true)), (.prim (.fptr 1) [(.const (.ptr []))])⟩,
    ⟨(some 8), (some (6, true)), (.prim .load [(.tmp 1), (.tmp 7)])⟩,
    ⟨(some 9), (some (6, true)), (.call 110 1 [(.tmp 8)] [])⟩,
    ⟨(some 10), none, (.pick (.tmp 6) (.tmp 9) (.const (.bool false)))⟩,
    ⟨(some 2), none, (.prim .mov [(.tmp 10)])⟩] [1, 3, 4, 5, 6, 7, 8, 9, 10])
  .ret)), [2], []⟩
theorem c98 : compile Try.prog sg 98 = some F98 := by kernel_rfl

def kL99x2 : List Nat := [0, 3, 4, 5, 6, 10, 11, 12, 13, 14, 15, 16, 17, 18, 19, 20, 21]
def L99x2 : VCode := (.seq (.region [⟨(some 10), none, (.prim (.bin .lss) [(.tmp 9), (.tmp 8)])⟩] [])
  (.seq (.cond (.tmp 10)
  .skip
  (.seq (.region [] [0, 1, 2, 3, 4, 5, 6, 7, 8, 9, 10, 11, 12, 13, 14, 15, 16, 17, 18, 19, 20, 21])
  (.exit 0)))
  (.seq (.block 1 (.seq (.region [⟨(some 11), none, (.prim .mov [(.tmp 9)])⟩,
    ⟨(some 12), none, (.prim (.iptr []) [(.tmp 7), (.tmp 9)])⟩,
    ⟨(some 13), none, (.prim .load [(.tmp 7), (.tmp 12)])⟩,
    ⟨(some 6), none, (.prim .mov [(.const (.agg [(.int .i64 0), (.int .i64 0), (.int .i64 0), (.int .i64 0)]))])⟩,
    ⟨(some 5), none, (.prim .mov [(.tmp 11)])⟩,
    ⟨none, none, (.store 6 none (.tmp 13))⟩] [10, 11, 12, 13])
  (.seq (.region [⟨(some 14), none, (.prim .load [(.tmp 2), (.const (.ptr []))])⟩,
    ⟨(some 15), none, (.prim .mov [(.tmp 1)])⟩,
    ⟨(some 16), none, (.prim .mov [(.tmp 5)])⟩,
    ⟨(some 17), none, (.prim (.sl false true) [(.tmp 15), (.tmp 16)])⟩,
    ⟨(some 18), none, (.prim .load [(.tmp 6), (.const (.ptr []))])⟩,
    ⟨(some 19), none, (.call 103 1 [(.tmp 14), (.tmp 17), (.tmp 18)] [])⟩,
    ⟨(some 20), none, (.prim (.bin .neq) [(.tmp 19), (.const (.int .i64 0))])⟩] [5, 6, 14, 15, 16, 17, 18, 19])
  (.cond (.tmp 20)
  (.seq (.region [⟨(some 4), none, (.prim .mov [(.const (.bool false))])⟩] [1, 2, 7, 8, 9, 20])
  .ret)
  .skip))))
  (.region [⟨(some 21), none, (.prim (.bin .add) [(.tmp 9), (.const (.int .i64 1))])⟩,
    ⟨(some 9), none, (.prim .mov [(.tmp 21)])⟩] [20, 21]))))
def A99x1 : VCode := (.seq (.region [⟨(some 7), none, (.prim .mov [(.tmp 1)])⟩,
    ⟨(some 8), none, (.prim .len [(.tmp 7)])⟩,
    ⟨(some 9), none, (.prim .mov [(.const (.int .i64 0))])⟩] [])
  (.block 0 (.loop kL99x2 L99x2)))
def B99x1 : VCode := (.seq (.region [⟨(some 4), none, (.prim .mov [(.const (.bool true))])⟩] [])
  .ret)

/-- vmfleet/admission.Fits -/
def F99 : VFunc := ⟨22,
  (.seq (.region [⟨(some 2), none, (.prim .mov [(.tmp 0)])⟩,
    ⟨(some 4), none, (.prim .mov [(.const (.bool false))])⟩] [0, 4])
  (.seq A99x1
  B99x1)), [4], []⟩
theorem c99 : compile Try.prog sg 99 = some F99 := by kernel_rfl

def kL100x4 : List Nat := [0, 2, 3, 4, 6, 8, 9, 13, 14, 15, 16, 19, 20, 21, 22, 23, 24, 25, 26, 27, 28, 29, 30, 31]
def L100x4 : VCode := (.seq (.region [⟨(some 19), none, (.prim (.bin .lss) [(.tmp 18), (.const (.int .i64 2))])⟩] [])
  (.seq (.cond (.tmp 19)
  .skip
  (.seq (.region [] [0, 2, 3, 4, 6, 7, 8, 9, 13, 14, 15, 16, 17, 18, 19, 20, 21, 22, 23, 24, 25, 26, 27, 28, 29, 30, 31])
  (.exit 2)))
  (.seq (.block 3 (.seq (.region [⟨(some 20), none, (.prim .index [(.tmp 17), (.tmp 18)])⟩,
    ⟨(some 9), none, (.prim .mov [(.tmp 20)])⟩] [19, 20])
  (.seq (.region [⟨(some 21), none, (.prim .mov [(.tmp 9)])⟩,
    ⟨(some 22), none, (.prim .mov [(.tmp 1)])⟩,
    ⟨(some 23), none, (.prim (.bin .eql) [(.tmp 21), (.tmp 22)])⟩] [9, 21, 22])
  (.cond (.tmp 23)
  (.region [⟨(some 24), none, (.prim .mov [(.tmp 5)])⟩,
    ⟨(some 25), none, (.prim (.fptr 1) [(.const (.ptr []))])⟩,
    ⟨(some 26), none, (.prim .load [(.tmp 7), (.tmp 25)])⟩,
    ⟨(some 27), none, (.prim (.buildSl (.agg [(.int .i64 0), (.int .i64 0), (.int .i64 0), (.int .i64 0)]) 1 [0]) [(.tmp 26)])⟩,
    ⟨(some 28), none, (.prim (.app 32) [(.tmp 24), (.tmp 27)])⟩,
    ⟨(some 5), none, (.prim .mov [(.tmp 28)])⟩] [23, 25, 26, 27, 28])
  .skip))))
  (.region [⟨(some 29), none, (.prim (.bin .add) [(.tmp 18), (.const (.int .i64 1))])⟩,
    ⟨(some 18), none, (.prim .mov [(.tmp 29)])⟩] [29]))))
def A100x3 : VCode := (.block 1 (.seq (.region [⟨(some 14), none, (.prim (.iptr []) [(.tmp 10), (.tmp 12)])⟩,
    ⟨(some 15), none, (.prim .load [(.tmp 10), (.tmp 14)])⟩,
    ⟨(some 7), none, (.prim .mov [(.const (.agg [(.str []), (.agg [(.int .i64 0), (.int .i64 0), (.int .i64 0), (.int .i64 0)]), (.agg [(.int .i64 0), (.int .i64 0)])]))])⟩,
    ⟨none, none, (.store 7 none (.tmp 15))⟩] [13, 14, 15])
  (.seq (.region [⟨(some 16), none, (.prim (.fptr 2) [(.const (.ptr []))])⟩,
    ⟨(some 17), none, (.prim .load [(.tmp 7), (.tmp 16)])⟩,
    ⟨(some 18), none, (.prim .mov [(.const (.int .i64 0))])⟩] [16])
  (.block 2 (.loop kL100x4 L100x4)))))
def B100x3 : VCode := (.region [⟨(some 30), none, (.prim (.bin .add) [(.tmp 12), (.const (.int .i64 1))])⟩,
    ⟨(some 12), none, (.prim .mov [(.tmp 30)])⟩] [30])
def kL100x2 : List Nat := [0, 2, 3, 4, 6, 7, 8, 9, 13, 14, 15, 16, 17, 18, 19, 20, 21, 22, 23, 24, 25, 26, 27, 28, 29, 30, 31]
def L100x2 : VCode := (.seq (.region [⟨(some 13), none, (.prim (.bin .lss) [(.tmp 12), (.tmp 11)])⟩] [])
  (.seq (.cond (.tmp 13)
  .skip
  (.seq (.region [] [0, 1, 2, 3, 4, 6, 7, 8, 9, 10, 11, 12, 13, 14, 15, 16, 17, 18, 19, 20, 21, 22, 23, 24, 25, 26, 27, 28, 29, 30, 31])
  (.exit 0)))
  (.seq A100x3
  B100x3)))
def A100x1 : VCode := (.seq (.region [⟨(some 10), none, (.prim .mov [(.tmp 0)])⟩,
    ⟨(some 11), none, (.prim .len [(.tmp 10)])⟩,
    ⟨(some 12), none, (.prim .mov [(.const (.int .i64 0))])⟩] [0])
  (.block 0 (.loop kL100x2 L100x2)))
def B100x1 : VCode := (.seq (.region [⟨(some 31), none, (.prim .mov [(.tmp 5)])⟩,
    ⟨(some 4), none, (.prim .mov [(.tmp 31)])⟩] [5])
  .ret)

/-- vmfleet/admission.On -/
def F100 : VFunc := ⟨32,
  (.seq (.region [⟨(some 4), none, (.prim .mov [(.const (.slice true []))])⟩] [4])
  (.seq (.region [⟨(some 5), none, (.prim .mov [(.const (.slice true []))])⟩] [])
  (.seq A100x1
  B100x1))), [4], []⟩
theorem c100 : compile Try.prog sg 100 = some F100 := by kernel_rfl


/-- slices.Clone[[]vmfleet/api.Capacity,vmfleet/api.Capacity] -/
def F101 : VFunc := ⟨8,
  (.seq (.region [⟨(some 2), none, (.prim .mov [(.const (.slice true []))])⟩] [2])
  (.seq (.seq (.region [⟨(some 3), none, (.prim .mov [(.tmp 0)])⟩,
    ⟨(some 4), none, (.prim (.isNil false) [(.tmp 3)])⟩] [3])
  (.cond (.tmp 4)
  (.seq (.region [⟨(some 2), none, (.prim .mov [(.const (.slice true []))])⟩] [0, 4])
  .ret)
  .skip))
  (.seq (.region [⟨(some 5), none, (.prim (.buildSl (.agg [(.int .i64 0), (.int .i64 0), (.bool false)]) 0 []) [])⟩,
    ⟨(some 6), none, (.prim .mov [(.tmp 0)])⟩,
    ⟨(some 7), none, (.prim (.app 24) [(.tmp 5), (.tmp 6)])⟩,
    ⟨(some 2), none, (.prim .mov [(.tmp 7)])⟩] [0, 4, 5, 6, 7])
  .ret))), [2], []⟩
theorem c101 : compile Try.prog sg 101 = some F101 := by kernel_rfl


/-- slices.Clone[[]vmfleet/api.Placed,vmfleet/api.Placed] -/
def F102 : VFunc := ⟨8,
  (.seq (.region [⟨(some 2), none, (.prim .mov [(.const (.slice true []))])⟩] [2])
  (.seq (.seq (.region [⟨(some 3), none, (.prim .mov [(.tmp 0)])⟩,
    ⟨(some 4), none, (.prim (.isNil false) [(.tmp 3)])⟩] [3])
  (.cond (.tmp 4)
  (.seq (.region [⟨(some 2), none, (.prim .mov [(.const (.slice true []))])⟩] [0, 4])
  .ret)
  .skip))
  (.seq (.region [⟨(some 5), none, (.prim (.buildSl (.agg [(.str []), (.agg [(.int .i64 0), (.int .i64 0), (.int .i64 0), (.int .i64 0)]), (.agg [(.int .i64 0), (.int .i64 0)])]) 0 []) [])⟩,
    ⟨(some 6), none, (.prim .mov [(.tmp 0)])⟩,
    ⟨(some 7), none, (.prim (.app 64) [(.tmp 5), (.tmp 6)])⟩,
    ⟨(some 2), none, (.prim .mov [(.tmp 7)])⟩] [0, 4, 5, 6, 7])
  .ret))), [2], []⟩
theorem c102 : compile Try.prog sg 102 = some F102 := by kernel_rfl

def kL103x2 : List Nat := [0, 1, 2, 3, 4, 6, 7, 8, 9, 10, 11, 12, 13, 14, 15, 16, 17, 18, 19, 20, 21, 22, 23, 24, 25, 26, 27, 28, 29, 30, 31, 32, 33, 34, 35, 36, 37, 38, 39, 43, 44, 45, 46, 47, 48, 49, 50, 51, 52, 53, 54, 55, 56]
def L103x2 : VCode := (.seq (.region [⟨(some 43), none, (.prim (.bin .lss) [(.tmp 42), (.tmp 41)])⟩] [])
  (.seq (.cond (.tmp 43)
  .skip
  (.seq (.region [] [0, 1, 2, 3, 4, 5, 6, 7, 8, 9, 10, 11, 12, 13, 14, 15, 16, 17, 18, 19, 20, 21, 22, 23, 24, 25, 26, 27, 28, 29, 30, 31, 32, 33, 34, 35, 36, 37, 38, 39, 40, 41, 42, 43, 44, 45, 46, 47, 48, 49, 50, 51, 52, 53, 54, 55, 56])
  (.exit 1)))
  (.seq (.block 2 (.seq (.region [⟨(some 44), none, (.prim (.iptr []) [(.tmp 40), (.tmp 42)])⟩,
    ⟨(some 45), none, (.prim .load [(.tmp 40), (.tmp 44)])⟩,
    ⟨(some 10), none, (.prim .mov [(.const (.agg [(.int .i64 0), (.int .i64 0), (.int .i64 0), (.int .i64 0)]))])⟩,
    ⟨none, none, (.store 10 none (.tmp 45))⟩] [43, 44, 45])
  (.seq (.region [⟨(some 46), none, (.prim (.fptr 3) [(.const (.ptr []))])⟩,
    ⟨(some 47), none, (.prim .load [(.tmp 5), (.tmp 46)])⟩,
    ⟨(some 48), none, (.prim (.bin .neq) [(.tmp 47), (.const (.int .i64 0))])⟩,
    ⟨(some 49), none, (.prim .mov [(.tmp 48)])⟩,
    ⟨(some 50), (some (49, true)), (.prim (.fptr 3) [(.const (.ptr []))])⟩,
    ⟨(some 51), (some (49, true)), (.prim .load [(.tmp 10), (.tmp 50)])⟩,
    ⟨(some 52), (some (49, true)), (.prim (.fptr 3) [(.const (.ptr []))])⟩,
    ⟨(some 53), (some (49, true)), (.prim .load [(.tmp 5), (.tmp 52)])⟩,
    ⟨(some 54), (some (49, true)), (.prim (.bin .eql) [(.tmp 51), (.tmp 53)])⟩,
    ⟨(some 55), none, (.pick (.tmp 49) (.tmp 54) (.const (.bool false)))⟩] [46, 47, 48, 49])
  (.cond (.tmp 55)
  (.seq (.region [⟨(some 6), none, (.prim .mov [(.const (.int .i64 3903))])⟩] [5, 10, 40, 41, 42, 50, 51, 52, 53, 54, 55])
  .ret)
  .skip))))
  (.region [⟨(some 56), none, (.prim (.bin .add) [(.tmp 42), (.const (.int .i64 1))])⟩,
    ⟨(some 42), none, (.prim .mov [(.tmp 56)])⟩] [55, 56]))))
def A103x1 : VCode := (.seq (.region [⟨(some 40), none, (.prim .mov [(.tmp 1)])⟩,
    ⟨(some 41), none, (.prim .len [(.tmp 40)])⟩,
    ⟨(some 42), none, (.prim .mov [(.const (.int .i64 0))])⟩] [1, 35])
  (.block 1 (.loop kL103x2 L103x2)))
def B103x1 : VCode := (.seq (.region [⟨(some 6), none, (.prim .mov [(.const (.int .i64 0))])⟩] [])
  .ret)

/-- vmfleet/admission.Admit -/
def F103 : VFunc := ⟨57,
  (.seq (.region [⟨(some 3), none, (.prim .mov [(.tmp 0)])⟩,
    ⟨(some 5), none, (.prim .mov [(.tmp 2)])⟩,
    ⟨(some 6), none, (.prim .mov [(.const (.int .i64 0))])⟩] [0, 2, 6])
  (.seq (.seq (.region [⟨(some 11), none, (.prim .load [(.tmp 3), (.const (.ptr []))])⟩,
    ⟨(some 12), none, (.prim .mov [(.tmp 1)])⟩,
    ⟨(some 13), none, (.call 111 1 [(.tmp 11), (.tmp 12)] [])⟩,
    ⟨(some 14), none, (.prim (.un .not) [(.tmp 13)])⟩,
    ⟨(some 15), none, (.prim .mov [(.tmp 14)])⟩,
    ⟨(some 16), (some (15, false)), (.prim .load [(.tmp 5), (.const (.ptr []))])⟩,
    ⟨(some 17), (some (15, false)), (.call 96 1 [(.tmp 16)] [])⟩,
    ⟨(some 18), (some (15, false)), (.prim (.un .not) [(.tmp 17)])⟩,
    ⟨(some 19), none, (.pick (.tmp 15) (.const (.bool true)) (.tmp 18))⟩] [11, 12, 13, 14, 15, 16, 17, 18])
  (.cond (.tmp 19)
  (.seq (.region [⟨(some 6), none, (.prim .mov [(.const (.int .i64 3900))])⟩] [1, 3, 5, 19])
  .ret)
  .skip))
  (.seq (.region [⟨(some 21), none, (.prim .load [(.tmp 3), (.const (.ptr []))])⟩,
    ⟨(some 22), none, (.prim .mov [(.tmp 1)])⟩,
    ⟨(some 23), none, (.call 112 2 [(.tmp 21), (.tmp 22)] [])⟩,
    ⟨(some 20), none, (.prim .mov [(.tmp 23)])⟩,
    ⟨(some 24), none, (.prim (.ext 0) [(.tmp 20)])⟩,
    ⟨(some 25), none, (.prim (.ext 1) [(.tmp 20)])⟩,
    ⟨(some 7), none, (.prim .mov [(.tmp 24)])⟩,
    ⟨(some 8), none, (.prim .mov [(.tmp 25)])⟩] [19, 20, 21, 22, 23, 24, 25])
  (.seq (.block 0 (.seq (.region [⟨(some 27), none, (.prim (.fptr 2) [(.const (.ptr []))])⟩,
    ⟨(some 28), none, (.prim .load [(.tmp 3), (.tmp 27)])⟩,
    ⟨(some 29), none, (.prim (.un .not) [(.tmp 28)])⟩,
    ⟨(some 26), none, (.prim .mov [(.tmp 29)])⟩] [3, 27, 28, 29])
  (.cond (.tmp 26)
  (.seq (.region [⟨(some 6), none, (.prim .mov [(.const (.int .i64 3904))])⟩] [1, 5, 7, 8, 26])
  .ret)
  (.seq (.region [⟨(some 31), none, (.prim .mov [(.tmp 7)])⟩,
    ⟨(some 32), none, (.prim (.fptr 0) [(.const (.ptr []))])⟩,
    ⟨(some 33), none, (.prim .load [(.tmp 5), (.tmp 32)])⟩,
    ⟨(some 34), none, (.prim (.bin .lss) [(.tmp 31), (.tmp 33)])⟩,
    ⟨(some 30), none, (.prim .mov [(.tmp 34)])⟩] [7, 26, 31, 32, 33, 34])
  (.cond (.tmp 30)
  (.seq (.region [⟨(some 6), none, (.prim .mov [(.const (.int .i64 3901))])⟩] [1, 5, 8, 30])
  .ret)
  (.seq (.region [⟨(some 36), none, (.prim .mov [(.tmp 8)])⟩,
    ⟨(some 37), none, (.prim (.fptr 2) [(.const (.ptr []))])⟩,
    ⟨(some 38), none, (.prim .load [(.tmp 5), (.tmp 37)])⟩,
    ⟨(some 39), none, (.prim (.bin .lss) [(.tmp 36), (.tmp 38)])⟩,
    ⟨(some 35), none, (.prim .mov [(.tmp 39)])⟩] [8, 30, 36, 37, 38, 39])
  (.cond (.tmp 35)
  (.seq (.region [⟨(some 6), none, (.prim .mov [(.const (.int .i64 3902))])⟩] [1, 5, 35])
  .ret)
  .skip)))))))
  (.seq A103x1
  B103x1))))), [6], []⟩
theorem c103 : compile Try.prog sg 103 = some F103 := by kernel_rfl


/-- slices.Insert[[]vmfleet/api.Placed,vmfleet/api.Placed] -/
def F104 : VFunc := ⟨95,
  (.seq (.region [⟨(some 6), none, (.prim .mov [(.const (.slice true []))])⟩] [6])
  (.seq (.region [⟨(some 10), none, (.prim .mov [(.tmp 0)])⟩,
    ⟨(some 11), none, (.prim .mov [(.tmp 1)])⟩,
    ⟨(some 12), none, (.prim (.sl true false) [(.tmp 10), (.tmp 11)])⟩] [10, 11, 12])
  (.seq (.region [⟨(some 13), none, (.prim .mov [(.tmp 2)])⟩,
    ⟨(some 14), none, (.prim .len [(.tmp 13)])⟩,
    ⟨(some 7), none, (.prim .mov [(.tmp 14)])⟩] [13, 14])
  (.seq (.seq (.region [⟨(some 15), none, (.prim .mov [(.tmp 7)])⟩,
    ⟨(some 16), none, (.prim (.bin .eql) [(.tmp 15), (.const (.int .i64 0))])⟩] [15])
  (.cond (.tmp 16)
  (.seq (.region [⟨(some 17), none, (.prim .mov [(.tmp 0)])⟩,
    ⟨(some 6), none, (.prim .mov [(.tmp 17)])⟩] [0, 1, 2, 7, 16])
  .ret)
  .skip))
  (.seq (.region [⟨(some 18), none, (.prim .mov [(.tmp 0)])⟩,
    ⟨(some 19), none, (.prim .len [(.tmp 18)])⟩,
    ⟨(some 8), none, (.prim .mov [(.tmp 19)])⟩] [16, 18, 19])
  (.seq (.seq (.region [⟨(some 20), none, (.prim .mov [(.tmp 1)])⟩,
    ⟨(some 21), none, (.prim .mov [(.tmp 8)])⟩,
    ⟨(some 22), none, (.prim (.bin .eql) [(.tmp 20), (.tmp 21)])⟩] [20, 21])
  (.cond (.tmp 22)
  (.seq (.region [⟨(some 23), none, (.prim .mov [(.tmp 0)])⟩,
    ⟨(some 24), none, (.prim .mov [(.tmp 2)])⟩,
    ⟨(some 25), none, (.prim (.app 64) [(.tmp 23), (.tmp 24)])⟩,
    ⟨(some 6), none, (.prim .mov [(.tmp 25)])⟩] [0, 1, 2, 7, 8, 22, 24, 25])
  .ret)
  .skip))
  (.seq (.seq (.region [⟨none, none, (.prim .mov [])⟩] [])
  .skip)
  .skip))))))), [6], []⟩
theorem c104 : compile Try.prog sg 104 = some F104 := by kernel_rfl


/-- vmfleet/admission.unit -/
def F110 : VFunc := ⟨9,
  (.seq (.region [⟨(some 2), none, (.prim .mov [(.const (.bool false))])⟩] [2])
  (.seq (.region [⟨(some 3), none, (.prim .mov [(.tmp 0)])⟩,
    ⟨(some 4), none, (.prim (.bin .geq) [(.tmp 3), (.const (.int .i64 0))])⟩,
    ⟨(some 5), none, (.prim .mov [(.tmp 4)])⟩,
    ⟨(some 6), (some (5, true)), (.prim .mov [(.tmp 0)])⟩,
    ⟨(some 7), (some (5, true)), (.prim (.bin .leq) [(.tmp 6), (.const (.int .i64 1000000))])⟩,
    ⟨(some 8), none, (.pick (.tmp 5) (.tmp 7) (.const (.bool false)))⟩,
    ⟨(some 2), none, (.prim .mov [(.tmp 8)])⟩] [0, 3, 4, 5, 6, 7, 8])
  .ret)), [2], []⟩
theorem c110 : compile Try.prog sg 110 = some F110 := by kernel_rfl

def kL111x2 : List Nat := [0, 1, 2, 3, 4, 5, 6, 7, 8, 9, 10, 11, 12, 13, 14, 18, 19, 20, 21, 22, 23, 24]
def L111x2 : VCode := (.seq (.region [⟨(some 18), none, (.prim (.bin .lss) [(.tmp 17), (.tmp 16)])⟩] [])
  (.seq (.cond (.tmp 18)
  .skip
  (.seq (.region [] [0, 1, 2, 3, 4, 5, 6, 7, 8, 9, 10, 11, 12, 13, 14, 15, 16, 17, 18, 19, 20, 21, 22, 23, 24])
  (.exit 0)))
  (.seq (.block 1 (.seq (.region [⟨(some 19), none, (.prim (.iptr []) [(.tmp 15), (.tmp 17)])⟩,
    ⟨(some 20), none, (.prim .load [(.tmp 15), (.tmp 19)])⟩,
    ⟨(some 6), none, (.prim .mov [(.const (.agg [(.int .i64 0), (.int .i64 0), (.int .i64 0), (.int .i64 0)]))])⟩,
    ⟨none, none, (.store 6 none (.tmp 20))⟩] [18, 19, 20])
  (.seq (.region [⟨(some 21), none, (.prim .load [(.tmp 6), (.const (.ptr []))])⟩,
    ⟨(some 22), none, (.call 96 1 [(.tmp 21)] [])⟩,
    ⟨(some 23), none, (.prim (.un .not) [(.tmp 22)])⟩] [6, 21, 22])
  (.cond (.tmp 23)
  (.seq (.region [⟨(some 4), none, (.prim .mov [(.const (.bool false))])⟩] [15, 16, 17, 23])
  .ret)
  .skip))))
  (.region [⟨(some 24), none, (.prim (.bin .add) [(.tmp 17), (.const (.int .i64 1))])⟩,
    ⟨(some 17), none, (.prim .mov [(.tmp 24)])⟩] [23, 24]))))
def A111x1 : VCode := (.seq (.region [⟨(some 15), none, (.prim .mov [(.tmp 1)])⟩,
    ⟨(some 16), none, (.prim .len [(.tmp 15)])⟩,
    ⟨(some 17), none, (.prim .mov [(.const (.int .i64 0))])⟩] [1, 14])
  (.block 0 (.loop kL111x2 L111x2)))
def B111x1 : VCode := (.seq (.region [⟨(some 4), none, (.prim .mov [(.const (.bool true))])⟩] [])
  .ret)

/-- vmfleet/admission.valid -/
def F111 : VFunc := ⟨25,
  (.seq (.region [⟨(some 2), none, (.prim .mov [(.tmp 0)])⟩,
    ⟨(some 4), none, (.prim .mov [(.const (.bool false))])⟩] [0, 4])
  (.seq (.seq (.region [⟨(some 7), none, (.prim .load [(.tmp 2), (.const (.ptr []))])⟩,
    ⟨(some 8), none, (.call 98 1 [(.tmp 7)] [])⟩,
    ⟨(some 9), none, (.prim (.un .not) [(.tmp 8)])⟩,
    ⟨(some 10), none, (.prim .mov [(.tmp 9)])⟩,
    ⟨(some 11), (some (10, false)), (.prim .mov [(.tmp 1)])⟩,
    ⟨(some 12), (some (10, false)), (.prim .len [(.tmp 11)])⟩,
    ⟨(some 13), (some (10, false)), (.prim (.bin .gtr) [(.tmp 12), (.const (.int .i64 16))])⟩,
    ⟨(some 14), none, (.pick (.tmp 10) (.const (.bool true)) (.tmp 13))⟩] [2, 7, 8, 9, 10, 11, 12, 13])
  (.cond (.tmp 14)
  (.seq (.region [⟨(some 4), none, (.prim .mov [(.const (.bool false))])⟩] [1, 14])
  .ret)
  .skip))
  (.seq A111x1
  B111x1))), [4], []⟩
theorem c111 : compile Try.prog sg 111 = some F111 := by kernel_rfl

def kL112x2 : List Nat := [0, 1, 2, 3, 4, 5, 8, 9, 10, 11, 12, 13, 14, 15, 16, 17, 21, 22, 23, 24, 25, 26, 27, 28, 29, 30, 31, 32, 33, 34]
def L112x2 : VCode := (.seq (.region [⟨(some 21), none, (.prim (.bin .lss) [(.tmp 20), (.tmp 19)])⟩] [])
  (.seq (.cond (.tmp 21)
  .skip
  (.seq (.region [] [0, 1, 2, 3, 4, 5, 8, 9, 10, 11, 12, 13, 14, 15, 16, 17, 18, 19, 20, 21, 22, 23, 24, 25, 26, 27, 28, 29, 30, 31, 32, 33, 34])
  (.exit 0)))
  (.seq (.block 1 (.seq (.region [⟨(some 22), none, (.prim (.iptr []) [(.tmp 18), (.tmp 20)])⟩,
    ⟨(some 23), none, (.prim .load [(.tmp 18), (.tmp 22)])⟩,
    ⟨(some 9), none, (.prim .mov [(.const (.agg [(.int .i64 0), (.int .i64 0), (.int .i64 0), (.int .i64 0)]))])⟩,
    ⟨none, none, (.store 9 none (.tmp 23))⟩] [21, 22, 23])
  (.seq (.region [⟨(some 24), none, (.prim .mov [(.tmp 6)])⟩,
    ⟨(some 25), none, (.prim (.fptr 0) [(.const (.ptr []))])⟩,
    ⟨(some 26), none, (.prim .load [(.tmp 9), (.tmp 25)])⟩,
    ⟨(some 27), none, (.prim (.bin .sub) [(.tmp 24), (.tmp 26)])⟩,
    ⟨(some 6), none, (.prim .mov [(.tmp 27)])⟩] [24, 25, 26, 27])
  (.region [⟨(some 28), none, (.prim .mov [(.tmp 7)])⟩,
    ⟨(some 29), none, (.prim (.fptr 2) [(.const (.ptr []))])⟩,
    ⟨(some 30), none, (.prim .load [(.tmp 9), (.tmp 29)])⟩,
    ⟨(some 31), none, (.prim (.bin .sub) [(.tmp 28), (.tmp 30)])⟩,
    ⟨(some 7), none, (.prim .mov [(.tmp 31)])⟩] [9, 28, 29, 30, 31]))))
  (.region [⟨(some 32), none, (.prim (.bin .add) [(.tmp 20), (.const (.int .i64 1))])⟩,
    ⟨(some 20), none, (.prim .mov [(.tmp 32)])⟩] [32]))))
def A112x1 : VCode := (.seq (.region [⟨(some 18), none, (.prim .mov [(.tmp 1)])⟩,
    ⟨(some 19), none, (.prim .len [(.tmp 18)])⟩,
    ⟨(some 20), none, (.prim .mov [(.const (.int .i64 0))])⟩] [1])
  (.block 0 (.loop kL112x2 L112x2)))
def B112x1 : VCode := (.seq (.region [⟨(some 33), none, (.prim .mov [(.tmp 6)])⟩,
    ⟨(some 34), none, (.prim .mov [(.tmp 7)])⟩,
    ⟨(some 4), none, (.prim .mov [(.tmp 33)])⟩,
    ⟨(some 5), none, (.prim .mov [(.tmp 34)])⟩] [6, 7, 33, 34])
  .ret)

/-- vmfleet/admission.Free -/
def F112 : VFunc := ⟨35,
  (.seq (.region [⟨(some 2), none, (.prim .mov [(.tmp 0)])⟩,
    ⟨(some 4), none, (.prim .mov [(.const (.int .i64 0))])⟩,
    ⟨(some 5), none, (.prim .mov [(.const (.int .i64 0))])⟩] [0, 4, 5])
  (.seq (.seq (.region [⟨(some 10), none, (.prim .load [(.tmp 2), (.const (.ptr []))])⟩,
    ⟨(some 11), none, (.prim .mov [(.tmp 1)])⟩,
    ⟨(some 12), none, (.call 111 1 [(.tmp 10), (.tmp 11)] [])⟩,
    ⟨(some 13), none, (.prim (.un .not) [(.tmp 12)])⟩] [10, 11, 12])
  (.cond (.tmp 13)
  (.seq (.region [⟨(some 4), none, (.prim .mov [(.const (.int .i64 0))])⟩,
    ⟨(some 5), none, (.prim .mov [(.const (.int .i64 0))])⟩] [1, 2, 13])
  .ret)
  .skip))
  (.seq (.region [⟨(some 14), none, (.prim (.fptr 0) [(.const (.ptr []))])⟩,
    ⟨(some 15), none, (.prim .load [(.tmp 2), (.tmp 14)])⟩,
    ⟨(some 16), none, (.prim (.fptr 1) [(.const (.ptr []))])⟩,
    ⟨(some 17), none, (.prim .load [(.tmp 2), (.tmp 16)])⟩,
    ⟨(some 6), none, (.prim .mov [(.tmp 15)])⟩,
    ⟨(some 7), none, (.prim .mov [(.tmp 17)])⟩] [2, 13, 14, 15, 16, 17])
  (.seq A112x1
  B112x1)))), [4, 5], []⟩
theorem c112 : compile Try.prog sg 112 = some F112 := by kernel_rfl

noncomputable def T : Nat → Option VFunc := fun f => compile Try.prog sg f
end Go.Proofs.Ytaldhebldjphbaa

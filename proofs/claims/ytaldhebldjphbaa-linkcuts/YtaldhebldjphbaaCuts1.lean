/-
  The law LinkCuts: what its functions compute, and that it answers true.
  Conditions: none.
-/
import Derived.Test.YtaldhebldjphbaaRows
import Derived.Test.YtaldhebldjphbaaVmF
namespace Go.Proofs.Ytaldhebldjphbaa
open Go.Vm
set_option maxRecDepth 100000
set_option linter.unusedVariables false
def sg : Sigs := fun f => match f with
  | 3 => some ⟨[(.val (.agg [(.sl .sh .sc), .sc])), (.val .sc), (.val .sc)], [.sc], false⟩
  | 16 => some ⟨[(.val (.agg [(.sl .sh .sc), .sc]))], [.sc], false⟩
  | 17 => some ⟨[], [.sc], false⟩
  | 18 => some ⟨[(.val (.agg [(.sl .sh .sc), .sc])), (.val .sc)], [(.agg [(.sl .own .sc), .sc])], false⟩
  | 19 => some ⟨[(.val (.agg [(.sl .sh .sc), .sc])), (.val .sc)], [(.agg [(.sl .own .sc), .sc]), .sc], false⟩
  | 20 => some ⟨[(.val (.agg [(.sl .sh .sc), .sc])), (.val .sc)], [(.agg [(.sl .sh .sc), .sc]), .sc, .sc], false⟩
  | 59 => some ⟨[(.val (.agg [(.sl .sh .sc), .sc]))], [(.agg [(.sl .own .sc), .sc])], false⟩
  | 60 => some ⟨[(.val (.agg [(.sl .sh .sc), .sc]))], [.sc], false⟩
  | 61 => some ⟨[(.val (.agg [(.sl .sh .sc), .sc])), (.val .sc)], [.sc], false⟩
  | 62 => some ⟨[(.val (.agg [(.sl .sh .sc), .sc])), (.val .sc)], [(.agg [(.sl .sh .sc), .sc])], false⟩
  | _ => none

/-- vmfleet/vmfleetlaw23.LinkCuts -/
def F3 : VFunc := ⟨94,
  (.seq (.region [⟨(some 3), none, (.prim .mov [(.tmp 0)])⟩,
    ⟨(some 6), none, (.prim .mov [(.const (.bool false))])⟩] [0, 6])
  (.seq (.seq (.region [⟨(some 18), none, (.prim .load [(.tmp 3), (.const (.ptr []))])⟩,
    ⟨(some 19), none, (.call 16 1 [(.tmp 18)] [])⟩,
    ⟨(some 20), none, (.prim (.un .not) [(.tmp 19)])⟩,
    ⟨(some 21), none, (.prim .mov [(.tmp 20)])⟩,
    ⟨(some 22), (some (21, false)), (.prim .mov [(.tmp 1)])⟩,
    ⟨(some 23), (some (21, false)), (.prim .len [(.tmp 22)])⟩,
    ⟨(some 24), (some (21, false)), (.prim (.bin .gtr) [(.tmp 23), (.const (.int .i64 200))])⟩,
    ⟨(some 25), none, (.pick (.tmp 21) (.const (.bool true)) (.tmp 24))⟩] [18, 19, 20, 21, 22, 23, 24])
  (.cond (.tmp 25)
  (.seq (.region [⟨(some 26), none, (.call 17 1 [] [])⟩,
    ⟨(some 6), none, (.prim .mov [(.tmp 26)])⟩] [1, 2, 3, 25, 26])
  .ret)
  .skip))
  (.seq (.region [⟨(some 27), none, (.prim .load [(.tmp 3), (.const (.ptr []))])⟩,
    ⟨(some 28), none, (.call 18 1 [(.tmp 27), (.const (.bool true))] [])⟩,
    ⟨(some 7), none, (.prim .mov [(.const (.agg [(.slice true []), (.bool false)]))])⟩,
    ⟨none, none, (.store 7 none (.tmp 28))⟩] [3, 25, 27, 28])
  (.seq (.region [⟨(some 30), none, (.prim .load [(.tmp 7), (.const (.ptr []))])⟩,
    ⟨(some 31), none, (.prim .mov [(.tmp 1)])⟩,
    ⟨(some 32), none, (.call 19 2 [(.tmp 30), (.tmp 31)] [])⟩,
    ⟨(some 29), none, (.prim .mov [(.tmp 32)])⟩,
    ⟨(some 33), none, (.prim (.ext 0) [(.tmp 29)])⟩,
    ⟨(some 34), none, (.prim (.ext 1) [(.tmp 29)])⟩,
    ⟨(some 8), none, (.prim .mov [(.const (.agg [(.slice true []), (.bool false)]))])⟩,
    ⟨none, none, (.store 8 none (.tmp 33))⟩,
    ⟨(some 9), none, (.prim .mov [(.tmp 34)])⟩] [29, 30, 31, 32, 34])
  (.seq (.region [⟨(some 36), none, (.prim .load [(.tmp 7), (.const (.ptr []))])⟩,
    ⟨(some 37), none, (.prim .mov [(.tmp 2)])⟩,
    ⟨(some 38), none, (.call 20 3 [(.tmp 36), (.tmp 37)] [])⟩,
    ⟨(some 35), none, (.prim .mov [(.tmp 38)])⟩,
    ⟨(some 39), none, (.prim (.ext 0) [(.tmp 35)])⟩,
    ⟨(some 40), none, (.prim (.ext 1) [(.tmp 35)])⟩,
    ⟨(some 41), none, (.prim (.ext 2) [(.tmp 35)])⟩,
    ⟨(some 10), none, (.prim .mov [(.const (.agg [(.slice true []), (.bool false)]))])⟩,
    ⟨none, none, (.store 10 none (.tmp 39))⟩,
    ⟨(some 11), none, (.prim .mov [(.tmp 40)])⟩,
    ⟨(some 12), none, (.prim .mov [(.tmp 41)])⟩] [2, 10, 35, 37, 38, 39, 40, 41])
  (.seq (.region [⟨(some 43), none, (.prim .load [(.tmp 8), (.const (.ptr []))])⟩,
    ⟨(some 44), none, (.call 18 1 [(.tmp 43), (.const (.bool false))] [])⟩,
    ⟨(some 45), none, (.prim .mov [(.tmp 1)])⟩,
    ⟨(some 46), none, (.call 19 2 [(.tmp 44), (.tmp 45)] [])⟩,
    ⟨(some 42), none, (.prim .mov [(.tmp 46)])⟩,
    ⟨(some 47), none, (.prim (.ext 0) [(.tmp 42)])⟩,
    ⟨(some 48), none, (.prim (.ext 1) [(.tmp 42)])⟩,
    ⟨(some 13), none, (.prim .mov [(.const (.agg [(.slice true []), (.bool false)]))])⟩,
    ⟨none, none, (.store 13 none (.tmp 47))⟩,
    ⟨(some 14), none, (.prim .mov [(.tmp 48)])⟩] [8, 42, 43, 44, 45, 46, 48])
  (.seq (.region [⟨(some 50), none, (.prim .load [(.tmp 13), (.const (.ptr []))])⟩,
    ⟨(some 51), none, (.call 20 3 [(.tmp 50), (.const (.int .i64 0))] [])⟩,
    ⟨(some 49), none, (.prim .mov [(.tmp 51)])⟩,
    ⟨(some 52), none, (.prim (.ext 0) [(.tmp 49)])⟩,
    ⟨(some 53), none, (.prim (.ext 1) [(.tmp 49)])⟩,
    ⟨(some 54), none, (.prim (.ext 2) [(.tmp 49)])⟩,
    ⟨(some 15), none, (.prim .mov [(.const (.agg [(.slice true []), (.bool false)]))])⟩,
    ⟨none, none, (.store 15 none (.tmp 52))⟩,
    ⟨(some 16), none, (.prim .mov [(.tmp 53)])⟩,
    ⟨(some 17), none, (.prim .mov [(.tmp 54)])⟩] [15, 49, 51, 52, 53, 54])
  (.seq (.region [⟨(some 55), none, (.prim (.fptr 1) [(.const (.ptr []))])⟩,
    ⟨(some 56), none, (.prim .load [(.tmp 7), (.tmp 55)])⟩,
    ⟨(some 57), none, (.prim .mov [(.tmp 56)])⟩,
    ⟨(some 58), (some (57, true)), (.prim (.fptr 0) [(.const (.ptr []))])⟩,
    ⟨(some 59), (some (57, true)), (.prim .load [(.tmp 7), (.tmp 58)])⟩,
    ⟨(some 60), (some (57, true)), (.prim .len [(.tmp 59)])⟩,
    ⟨(some 61), (some (57, true)), (.prim (.bin .eql) [(.tmp 60), (.const (.int .i64 0))])⟩,
    ⟨(some 62), none, (.pick (.tmp 57) (.tmp 61) (.const (.bool false)))⟩,
    ⟨(some 63), none, (.prim .mov [(.tmp 62)])⟩,
    ⟨(some 64), (some (63, true)), (.prim .mov [(.tmp 9)])⟩,
    ⟨(some 65), (some (63, true)), (.prim (.un .not) [(.tmp 64)])⟩,
    ⟨(some 66), none, (.pick (.tmp 63) (.tmp 65) (.const (.bool false)))⟩,
    ⟨(some 67), none, (.prim .mov [(.tmp 66)])⟩,
    ⟨(some 68), (some (67, true)), (.prim .mov [(.tmp 12)])⟩,
    ⟨(some 69), (some (67, true)), (.prim (.un .not) [(.tmp 68)])⟩,
    ⟨(some 70), none, (.pick (.tmp 67) (.tmp 69) (.const (.bool false)))⟩,
    ⟨(some 71), none, (.prim .mov [(.tmp 70)])⟩,
    ⟨(some 72), (some (71, true)), (.prim .mov [(.tmp 11)])⟩,
    ⟨(some 73), (some (71, true)), (.prim (.bin .eql) [(.tmp 72), (.const (.str []))])⟩,
    ⟨(some 74), none, (.pick (.tmp 71) (.tmp 73) (.const (.bool false)))⟩,
    ⟨(some 75), none, (.prim .mov [(.tmp 74)])⟩,
    ⟨(some 76), (some (75, true)), (.prim .mov [(.tmp 14)])⟩,
    ⟨(some 77), none, (.pick (.tmp 75) (.tmp 76) (.const (.bool false)))⟩,
    ⟨(some 78), none, (.prim .mov [(.tmp 77)])⟩,
    ⟨(some 79), (some (78, true)), (.prim .mov [(.tmp 17)])⟩,
    ⟨(some 80), none, (.pick (.tmp 78) (.tmp 79) (.const (.bool false)))⟩,
    ⟨(some 81), none, (.prim .mov [(.tmp 80)])⟩,
    ⟨(some 82), (some (81, true)), (.prim .mov [(.tmp 16)])⟩,
    ⟨(some 83), (some (81, true)), (.prim .mov [(.tmp 1)])⟩,
    ⟨(some 84), (some (81, true)), (.prim (.bin .eql) [(.tmp 82), (.tmp 83)])⟩,
    ⟨(some 85), none, (.pick (.tmp 81) (.tmp 84) (.const (.bool false)))⟩,
    ⟨(some 86), none, (.prim .mov [(.tmp 85)])⟩,
    ⟨(some 87), (some (86, true)), (.prim (.fptr 1) [(.const (.ptr []))])⟩,
    ⟨(some 88), (some (86, true)), (.prim .load [(.tmp 13), (.tmp 87)])⟩,
    ⟨(some 89), (some (86, true)), (.prim (.un .not) [(.tmp 88)])⟩,
    ⟨(some 90), none, (.pick (.tmp 86) (.tmp 89) (.const (.bool false)))⟩,
    ⟨(some 91), none, (.prim .mov [(.tmp 90)])⟩,
    ⟨(some 92), (some (91, true)), (.call 17 1 [] [])⟩,
    ⟨(some 93), none, (.pick (.tmp 91) (.tmp 92) (.const (.bool false)))⟩,
    ⟨(some 6), none, (.prim .mov [(.tmp 93)])⟩] [1, 7, 9, 11, 12, 13, 14, 16, 17, 55, 56, 57, 58, 59, 60, 61, 62, 63, 64, 65, 66, 67, 68, 69, 70, 71, 72, 73, 74, 75, 76, 77, 78, 79, 80, 81, 82, 83, 84, 85, 86, 87, 88, 89, 90, 91, 92, 93])
  .ret)))))))), [6], []⟩
theorem c3 : compile Try.prog sg 3 = some F3 := by kernel_rfl

def L16x2 : VCode := (.seq (.seq (.region [⟨(some 4), none, (.prim .mov [(.tmp 3)])⟩,
    ⟨(some 5), none, (.prim (.fptr 0) [(.const (.ptr []))])⟩,
    ⟨(some 6), none, (.prim .load [(.tmp 1), (.tmp 5)])⟩,
    ⟨(some 7), none, (.prim .len [(.tmp 6)])⟩,
    ⟨(some 8), none, (.prim (.bin .lss) [(.tmp 4), (.tmp 7)])⟩,
    ⟨(some 9), none, (.prim .mov [(.tmp 8)])⟩,
    ⟨(some 10), (some (9, true)), (.prim .mov [(.tmp 3)])⟩,
    ⟨(some 11), (some (9, true)), (.prim (.bin .lss) [(.tmp 10), (.const (.int .i64 40))])⟩,
    ⟨(some 12), none, (.pick (.tmp 9) (.tmp 11) (.const (.bool false)))⟩] [4, 5, 6, 7, 8, 9])
  (.cond (.tmp 12)
  .skip
  (.seq (.region [] [0, 2, 3, 4, 5, 6, 7, 8, 9, 10, 11, 12, 13, 14, 15, 16, 17, 18, 19, 20, 21, 22, 23, 24, 25])
  (.exit 0))))
  (.seq (.block 1 (.seq (.region [⟨(some 15), none, (.prim (.fptr 0) [(.const (.ptr []))])⟩,
    ⟨(some 16), none, (.prim .load [(.tmp 1), (.tmp 15)])⟩,
    ⟨(some 17), none, (.prim .mov [(.tmp 3)])⟩,
    ⟨(some 18), none, (.prim (.iptr []) [(.tmp 16), (.tmp 17)])⟩,
    ⟨(some 19), none, (.prim .load [(.tmp 16), (.tmp 18)])⟩,
    ⟨(some 20), none, (.prim .len [(.tmp 19)])⟩,
    ⟨(some 21), none, (.prim (.bin .gtr) [(.tmp 20), (.const (.int .i64 200))])⟩] [12, 15, 16, 17, 18, 19, 20])
  (.cond (.tmp 21)
  (.seq (.region [⟨(some 2), none, (.prim .mov [(.const (.bool false))])⟩] [1, 3, 10, 11, 21])
  .ret)
  .skip)))
  (.region [⟨(some 13), none, (.prim .mov [(.tmp 3)])⟩,
    ⟨(some 14), none, (.prim (.bin .add) [(.tmp 13), (.const (.int .i64 1))])⟩,
    ⟨(some 3), none, (.prim .mov [(.tmp 14)])⟩] [13, 14, 21])))
def B16x1 : VCode := (.seq (.region [⟨(some 22), none, (.prim (.fptr 0) [(.const (.ptr []))])⟩,
    ⟨(some 23), none, (.prim .load [(.tmp 1), (.tmp 22)])⟩,
    ⟨(some 24), none, (.prim .len [(.tmp 23)])⟩,
    ⟨(some 25), none, (.prim (.bin .leq) [(.tmp 24), (.const (.int .i64 30))])⟩,
    ⟨(some 2), none, (.prim .mov [(.tmp 25)])⟩] [1, 22, 23, 24, 25])
  .ret)

/-- vmfleet/vmfleetlaw23.few -/
def F16 : VFunc := ⟨26,
  (.seq (.region [⟨(some 1), none, (.prim .mov [(.tmp 0)])⟩,
    ⟨(some 2), none, (.prim .mov [(.const (.bool false))])⟩] [0, 2])
  (.seq (.seq (.region [⟨(some 3), none, (.prim .mov [(.const (.int .i64 0))])⟩] [])
  (.block 0 (.loop [0, 2, 4, 5, 6, 7, 8, 9, 10, 11, 12, 13, 14, 15, 16, 17, 18, 19, 20, 21, 22, 23, 24, 25] L16x2)))
  B16x1)), [2], []⟩
theorem c16 : compile Try.prog sg 16 = some F16 := by kernel_rfl


/-- vmfleet/vmfleetlaw23.awake -/
def F17 : VFunc := ⟨50,
  (.seq (.region [⟨(some 0), none, (.prim .mov [(.const (.bool false))])⟩] [0])
  (.seq (.region [⟨(some 9), none, (.prim (.build [(.slice true []), (.bool false)] []) [])⟩,
    ⟨(some 10), none, (.call 19 2 [(.tmp 9), (.const (.str [97]))] [])⟩,
    ⟨(some 8), none, (.prim .mov [(.tmp 10)])⟩,
    ⟨(some 11), none, (.prim (.ext 0) [(.tmp 8)])⟩,
    ⟨(some 12), none, (.prim (.ext 1) [(.tmp 8)])⟩,
    ⟨(some 1), none, (.prim .mov [(.const (.agg [(.slice true []), (.bool false)]))])⟩,
    ⟨none, none, (.store 1 none (.tmp 11))⟩,
    ⟨(some 2), none, (.prim .mov [(.tmp 12)])⟩] [8, 9, 10, 12])
  (.seq (.region [⟨(some 14), none, (.prim .load [(.tmp 1), (.const (.ptr []))])⟩,
    ⟨(some 15), none, (.call 20 3 [(.tmp 14), (.const (.int .i64 0))] [])⟩,
    ⟨(some 13), none, (.prim .mov [(.tmp 15)])⟩,
    ⟨(some 16), none, (.prim (.ext 0) [(.tmp 13)])⟩,
    ⟨(some 17), none, (.prim (.ext 1) [(.tmp 13)])⟩,
    ⟨(some 18), none, (.prim (.ext 2) [(.tmp 13)])⟩,
    ⟨(some 3), none, (.prim .mov [(.const (.agg [(.slice true []), (.bool false)]))])⟩,
    ⟨none, none, (.store 3 none (.tmp 16))⟩,
    ⟨(some 4), none, (.prim .mov [(.tmp 17)])⟩,
    ⟨(some 5), none, (.prim .mov [(.tmp 18)])⟩] [13, 15, 16, 17, 18])
  (.seq (.region [⟨(some 20), none, (.prim .load [(.tmp 1), (.const (.ptr []))])⟩,
    ⟨(some 21), none, (.call 18 1 [(.tmp 20), (.const (.bool true))] [])⟩,
    ⟨(some 22), none, (.call 19 2 [(.tmp 21), (.const (.str [98]))] [])⟩,
    ⟨(some 19), none, (.prim .mov [(.tmp 22)])⟩,
    ⟨(some 23), none, (.prim (.ext 0) [(.tmp 19)])⟩,
    ⟨(some 24), none, (.prim (.ext 1) [(.tmp 19)])⟩,
    ⟨(some 6), none, (.prim .mov [(.const (.agg [(.slice true []), (.bool false)]))])⟩,
    ⟨none, none, (.store 6 none (.tmp 23))⟩,
    ⟨(some 7), none, (.prim .mov [(.tmp 24)])⟩] [6, 19, 20, 21, 22, 24])
  (.seq (.region [⟨(some 25), none, (.prim .mov [(.tmp 2)])⟩,
    ⟨(some 26), none, (.prim .mov [(.tmp 25)])⟩,
    ⟨(some 27), (some (26, true)), (.prim .mov [(.tmp 5)])⟩,
    ⟨(some 28), none, (.pick (.tmp 26) (.tmp 27) (.const (.bool false)))⟩,
    ⟨(some 29), none, (.prim .mov [(.tmp 28)])⟩,
    ⟨(some 30), (some (29, true)), (.prim .mov [(.tmp 4)])⟩,
    ⟨(some 31), (some (29, true)), (.prim (.bin .eql) [(.tmp 30), (.const (.str [97]))])⟩,
    ⟨(some 32), none, (.pick (.tmp 29) (.tmp 31) (.const (.bool false)))⟩,
    ⟨(some 33), none, (.prim .mov [(.tmp 32)])⟩,
    ⟨(some 34), (some (33, true)), (.prim (.fptr 0) [(.const (.ptr []))])⟩,
    ⟨(some 35), (some (33, true)), (.prim .load [(.tmp 3), (.tmp 34)])⟩,
    ⟨(some 36), (some (33, true)), (.prim .len [(.tmp 35)])⟩,
    ⟨(some 37), (some (33, true)), (.prim (.bin .eql) [(.tmp 36), (.const (.int .i64 0))])⟩,
    ⟨(some 38), none, (.pick (.tmp 33) (.tmp 37) (.const (.bool false)))⟩,
    ⟨(some 39), none, (.prim .mov [(.tmp 38)])⟩,
    ⟨(some 40), (some (39, true)), (.prim .mov [(.tmp 7)])⟩,
    ⟨(some 41), (some (39, true)), (.prim (.un .not) [(.tmp 40)])⟩,
    ⟨(some 42), none, (.pick (.tmp 39) (.tmp 41) (.const (.bool false)))⟩,
    ⟨(some 43), none, (.prim .mov [(.tmp 42)])⟩,
    ⟨(some 44), (some (43, true)), (.prim .load [(.tmp 1), (.const (.ptr []))])⟩,
    ⟨(some 45), (some (43, true)), (.call 18 1 [(.tmp 44), (.const (.bool true))] [])⟩,
    ⟨(some 46), (some (43, true)), (.prim (.field 0) [(.tmp 45)])⟩,
    ⟨(some 47), (some (43, true)), (.prim .len [(.tmp 46)])⟩,
    ⟨(some 48), (some (43, true)), (.prim (.bin .eql) [(.tmp 47), (.const (.int .i64 0))])⟩,
    ⟨(some 49), none, (.pick (.tmp 43) (.tmp 48) (.const (.bool false)))⟩,
    ⟨(some 0), none, (.prim .mov [(.tmp 49)])⟩] [1, 2, 3, 4, 5, 7, 25, 26, 27, 28, 29, 30, 31, 32, 33, 34, 35, 36, 37, 38, 39, 40, 41, 42, 43, 44, 45, 46, 47, 48, 49])
  .ret))))), [0], []⟩
theorem c17 : compile Try.prog sg 17 = some F17 := by kernel_rfl


/-- vmfleet/link.SetCut -/
def F18 : VFunc := ⟨12,
  (.seq (.region [⟨(some 2), none, (.prim .mov [(.tmp 0)])⟩,
    ⟨(some 4), none, (.prim .mov [(.const (.agg [(.slice true []), (.bool false)]))])⟩] [0])
  (.seq (.region [⟨(some 5), none, (.prim .load [(.tmp 2), (.const (.ptr []))])⟩,
    ⟨(some 6), none, (.call 59 1 [(.tmp 5)] [])⟩,
    ⟨none, none, (.store 2 none (.tmp 6))⟩] [5, 6])
  (.seq (.region [⟨(some 7), none, (.prim .mov [(.tmp 1)])⟩,
    ⟨(some 8), none, (.prim (.fptr 1) [(.const (.ptr []))])⟩,
    ⟨none, none, (.store 2 (some 8) (.tmp 7))⟩] [7, 8])
  (.seq (.seq (.region [⟨(some 9), none, (.prim .mov [(.tmp 1)])⟩] [1])
  (.cond (.tmp 9)
  (.region [⟨(some 10), none, (.prim (.fptr 0) [(.const (.ptr []))])⟩,
    ⟨none, none, (.store 2 (some 10) (.const (.slice true [])))⟩] [9, 10])
  .skip))
  (.seq (.region [⟨(some 11), none, (.prim .load [(.tmp 2), (.const (.ptr []))])⟩,
    ⟨none, none, (.store 4 none (.tmp 11))⟩] [2])
  .ret))))), [4], []⟩
theorem c18 : compile Try.prog sg 18 = some F18 := by kernel_rfl


/-- vmfleet/link.Send -/
def F19 : VFunc := ⟨19,
  (.seq (.region [⟨(some 2), none, (.prim .mov [(.tmp 0)])⟩,
    ⟨(some 4), none, (.prim .mov [(.const (.agg [(.slice true []), (.bool false)]))])⟩,
    ⟨(some 5), none, (.prim .mov [(.const (.bool false))])⟩] [0, 5])
  (.seq (.region [⟨(some 6), none, (.prim .load [(.tmp 2), (.const (.ptr []))])⟩,
    ⟨(some 7), none, (.call 59 1 [(.tmp 6)] [])⟩,
    ⟨none, none, (.store 2 none (.tmp 7))⟩] [6, 7])
  (.seq (.seq (.region [⟨(some 8), none, (.prim .load [(.tmp 2), (.const (.ptr []))])⟩,
    ⟨(some 9), none, (.call 60 1 [(.tmp 8)] [])⟩,
    ⟨(some 10), none, (.prim (.un .not) [(.tmp 9)])⟩] [8, 9])
  (.cond (.tmp 10)
  (.seq (.region [⟨(some 11), none, (.prim .load [(.tmp 2), (.const (.ptr []))])⟩,
    ⟨none, none, (.store 4 none (.tmp 11))⟩,
    ⟨(some 5), none, (.prim .mov [(.const (.bool false))])⟩] [1, 2, 10])
  .ret)
  .skip))
  (.seq (.region [⟨(some 12), none, (.prim (.fptr 0) [(.const (.ptr []))])⟩,
    ⟨(some 13), none, (.prim .load [(.tmp 2), (.tmp 12)])⟩,
    ⟨(some 14), none, (.prim .mov [(.tmp 1)])⟩,
    ⟨(some 15), none, (.prim (.buildSl (.str []) 1 [0]) [(.tmp 14)])⟩,
    ⟨(some 16), none, (.prim (.app 16) [(.tmp 13), (.tmp 15)])⟩,
    ⟨(some 17), none, (.prim (.fptr 0) [(.const (.ptr []))])⟩,
    ⟨none, none, (.store 2 (some 17) (.tmp 16))⟩] [1, 10, 12, 14, 15, 16, 17])
  (.seq (.region [⟨(some 18), none, (.prim .load [(.tmp 2), (.const (.ptr []))])⟩,
    ⟨none, none, (.store 4 none (.tmp 18))⟩,
    ⟨(some 5), none, (.prim .mov [(.const (.bool true))])⟩] [2])
  .ret))))), [4, 5], []⟩
theorem c19 : compile Try.prog sg 19 = some F19 := by kernel_rfl


/-- vmfleet/link.Deliver -/
def F20 : VFunc := ⟨28,
  (.seq (.region [⟨(some 2), none, (.prim .mov [(.tmp 0)])⟩,
    ⟨(some 4), none, (.prim .mov [(.const (.agg [(.slice true []), (.bool false)]))])⟩,
    ⟨(some 5), none, (.prim .mov [(.const (.str []))])⟩,
    ⟨(some 6), none, (.prim .mov [(.const (.bool false))])⟩] [0, 5, 6])
  (.seq (.region [⟨(some 8), none, (.prim .load [(.tmp 2), (.const (.ptr []))])⟩,
    ⟨(some 9), none, (.call 59 1 [(.tmp 8)] [])⟩,
    ⟨none, none, (.store 2 none (.tmp 9))⟩] [8, 9])
  (.seq (.seq (.region [⟨(some 10), none, (.prim (.fptr 1) [(.const (.ptr []))])⟩,
    ⟨(some 11), none, (.prim .load [(.tmp 2), (.tmp 10)])⟩,
    ⟨(some 12), none, (.prim .mov [(.tmp 11)])⟩,
    ⟨(some 13), (some (12, false)), (.prim .load [(.tmp 2), (.const (.ptr []))])⟩,
    ⟨(some 14), (some (12, false)), (.prim .mov [(.tmp 1)])⟩,
    ⟨(some 15), (some (12, false)), (.call 61 1 [(.tmp 13), (.tmp 14)] [])⟩,
    ⟨(some 16), (some (12, false)), (.prim (.un .not) [(.tmp 15)])⟩,
    ⟨(some 17), none, (.pick (.tmp 12) (.const (.bool true)) (.tmp 16))⟩] [10, 11, 12, 13, 14, 15, 16])
  (.cond (.tmp 17)
  (.seq (.region [⟨(some 18), none, (.prim .load [(.tmp 2), (.const (.ptr []))])⟩,
    ⟨none, none, (.store 4 none (.tmp 18))⟩,
    ⟨(some 5), none, (.prim .mov [(.const (.str []))])⟩,
    ⟨(some 6), none, (.prim .mov [(.const (.bool false))])⟩] [1, 2, 17])
  .ret)
  .skip))
  (.seq (.region [⟨(some 19), none, (.prim (.fptr 0) [(.const (.ptr []))])⟩,
    ⟨(some 20), none, (.prim .load [(.tmp 2), (.tmp 19)])⟩,
    ⟨(some 21), none, (.prim .mov [(.tmp 1)])⟩,
    ⟨(some 22), none, (.prim (.iptr [0]) [(.tmp 20), (.tmp 21)])⟩,
    ⟨(some 23), none, (.prim .load [(.tmp 2), (.tmp 22)])⟩,
    ⟨(some 7), none, (.prim .mov [(.tmp 23)])⟩] [17, 19, 20, 21, 22, 23])
  (.seq (.region [⟨(some 24), none, (.prim .load [(.tmp 2), (.const (.ptr []))])⟩,
    ⟨(some 25), none, (.prim .mov [(.tmp 1)])⟩,
    ⟨(some 26), none, (.call 62 1 [(.tmp 24), (.tmp 25)] [])⟩,
    ⟨(some 27), none, (.prim .mov [(.tmp 7)])⟩,
    ⟨none, none, (.store 4 none (.tmp 26))⟩,
    ⟨(some 5), none, (.prim .mov [(.tmp 27)])⟩,
    ⟨(some 6), none, (.prim .mov [(.const (.bool true))])⟩] [1, 2, 7, 25, 26, 27])
  .ret))))), [4, 5, 6], []⟩
theorem c20 : compile Try.prog sg 20 = some F20 := by kernel_rfl


/-- vmfleet/link.copyOf -/
def F59 : VFunc := ⟨15,
  (.seq (.region [⟨(some 1), none, (.prim .mov [(.tmp 0)])⟩,
    ⟨(some 2), none, (.prim .mov [(.const (.agg [(.slice true []), (.bool false)]))])⟩] [0])
  (.seq (.region [⟨(some 4), none, (.prim (.fptr 0) [(.const (.ptr []))])⟩,
    ⟨(some 5), none, (.prim .load [(.tmp 1), (.tmp 4)])⟩,
    ⟨(some 6), none, (.prim .len [(.tmp 5)])⟩,
    ⟨(some 3), none, (.prim .mov [(.tmp 6)])⟩] [4, 5, 6])
  (.seq (.region [⟨(some 7), none, (.prim (.fptr 0) [(.const (.ptr []))])⟩,
    ⟨(some 8), none, (.prim .load [(.tmp 1), (.tmp 7)])⟩,
    ⟨(some 9), none, (.prim .mov [(.tmp 3)])⟩,
    ⟨(some 10), none, (.prim .mov [(.tmp 3)])⟩,
    ⟨(some 11), none, (.prim (.sl3 false) [(.tmp 8), (.tmp 9), (.tmp 10)])⟩,
    ⟨(some 12), none, (.prim (.app 16) [(.const (.slice true [])), (.tmp 11)])⟩,
    ⟨(some 13), none, (.prim (.fptr 0) [(.const (.ptr []))])⟩,
    ⟨none, none, (.store 1 (some 13) (.tmp 12))⟩] [3, 7, 8, 9, 10, 11, 12, 13])
  (.seq (.region [⟨(some 14), none, (.prim .load [(.tmp 1), (.const (.ptr []))])⟩,
    ⟨none, none, (.store 2 none (.tmp 14))⟩] [1])
  .ret)))), [2], []⟩
theorem c59 : compile Try.prog sg 59 = some F59 := by kernel_rfl


/-- vmfleet/link.room -/
def F60 : VFunc := ⟨12,
  (.seq (.region [⟨(some 1), none, (.prim .mov [(.tmp 0)])⟩,
    ⟨(some 2), none, (.prim .mov [(.const (.bool false))])⟩] [0, 2])
  (.seq (.region [⟨(some 3), none, (.prim (.fptr 1) [(.const (.ptr []))])⟩,
    ⟨(some 4), none, (.prim .load [(.tmp 1), (.tmp 3)])⟩,
    ⟨(some 5), none, (.prim (.un .not) [(.tmp 4)])⟩,
    ⟨(some 6), none, (.prim .mov [(.tmp 5)])⟩,
    ⟨(some 7), (some (6, true)), (.prim (.fptr 0) [(.const (.ptr []))])⟩,
    ⟨(some 8), (some (6, true)), (.prim .load [(.tmp 1), (.tmp 7)])⟩,
    ⟨(some 9), (some (6, true)), (.prim .len [(.tmp 8)])⟩,
    ⟨(some 10), (some (6, true)), (.prim (.bin .lss) [(.tmp 9), (.const (.int .i64 24))])⟩,
    ⟨(some 11), none, (.pick (.tmp 6) (.tmp 10) (.const (.bool false)))⟩,
    ⟨(some 2), none, (.prim .mov [(.tmp 11)])⟩] [1, 3, 4, 5, 6, 7, 8, 9, 10, 11])
  .ret)), [2], []⟩
theorem c60 : compile Try.prog sg 60 = some F60 := by kernel_rfl


/-- vmfleet/link.has -/
def F61 : VFunc := ⟨14,
  (.seq (.region [⟨(some 2), none, (.prim .mov [(.tmp 0)])⟩,
    ⟨(some 4), none, (.prim .mov [(.const (.bool false))])⟩] [0, 4])
  (.seq (.region [⟨(some 5), none, (.prim .mov [(.tmp 1)])⟩,
    ⟨(some 6), none, (.prim (.bin .geq) [(.tmp 5), (.const (.int .i64 0))])⟩,
    ⟨(some 7), none, (.prim .mov [(.tmp 6)])⟩,
    ⟨(some 8), (some (7, true)), (.prim .mov [(.tmp 1)])⟩,
    ⟨(some 9), (some (7, true)), (.prim (.fptr 0) [(.const (.ptr []))])⟩,
    ⟨(some 10), (some (7, true)), (.prim .load [(.tmp 2), (.tmp 9)])⟩,
    ⟨(some 11), (some (7, true)), (.prim .len [(.tmp 10)])⟩,
    ⟨(some 12), (some (7, true)), (.prim (.bin .lss) [(.tmp 8), (.tmp 11)])⟩,
    ⟨(some 13), none, (.pick (.tmp 7) (.tmp 12) (.const (.bool false)))⟩,
    ⟨(some 4), none, (.prim .mov [(.tmp 13)])⟩] [1, 2, 5, 6, 7, 8, 9, 10, 11, 12, 13])
  .ret)), [4], []⟩
theorem c61 : compile Try.prog sg 61 = some F61 := by kernel_rfl


/-- vmfleet/link.remove -/
def F62 : VFunc := ⟨18,
  (.seq (.region [⟨(some 2), none, (.prim .mov [(.tmp 0)])⟩,
    ⟨(some 4), none, (.prim .mov [(.const (.agg [(.slice true []), (.bool false)]))])⟩] [0])
  (.seq (.region [⟨(some 5), none, (.prim (.fptr 0) [(.const (.ptr []))])⟩,
    ⟨(some 6), none, (.prim .load [(.tmp 2), (.tmp 5)])⟩,
    ⟨(some 7), none, (.prim .mov [(.tmp 1)])⟩,
    ⟨(some 8), none, (.prim .mov [(.tmp 1)])⟩,
    ⟨(some 9), none, (.prim (.sl3 false) [(.tmp 6), (.tmp 7), (.tmp 8)])⟩,
    ⟨(some 10), none, (.prim (.fptr 0) [(.const (.ptr []))])⟩,
    ⟨(some 11), none, (.prim .load [(.tmp 2), (.tmp 10)])⟩,
    ⟨(some 12), none, (.prim .mov [(.tmp 1)])⟩,
    ⟨(some 13), none, (.prim (.bin .add) [(.tmp 12), (.const (.int .i64 1))])⟩,
    ⟨(some 14), none, (.prim (.sl true false) [(.tmp 11), (.tmp 13)])⟩,
    ⟨(some 15), none, (.prim (.app 16) [(.tmp 9), (.tmp 14)])⟩,
    ⟨(some 16), none, (.prim (.fptr 0) [(.const (.ptr []))])⟩,
    ⟨none, none, (.store 2 (some 16) (.tmp 15))⟩] [1, 5, 6, 7, 8, 9, 10, 11, 12, 13, 14, 15, 16])
  (.seq (.region [⟨(some 17), none, (.prim .load [(.tmp 2), (.const (.ptr []))])⟩,
    ⟨none, none, (.store 4 none (.tmp 17))⟩] [2, 17])
  .ret))), [4], []⟩
theorem c62 : compile Try.prog sg 62 = some F62 := by kernel_rfl

noncomputable def T : Nat → Option VFunc := fun f => compile Try.prog sg f
/-! vmfleet/vmfleetlaw23.LinkCuts -/
theorem f3 (t0 t1 t2 : PV) {rs : List PV} (h : (Option.bind (chk t0 fun a0 => Prim.run .mov [a0]) fun t3 =>
  Option.bind (Prim.run .mov [(.bool false)]) fun t6 =>
  Option.bind (chk t3 fun a0 => Prim.run .load [a0, (.ptr [])]) fun t18 =>
  Option.bind (chk t18 fun a0 => Option.bind (Ans T 16 [a0]) fun rs => retV 1 rs) fun t19 =>
  Option.bind (chk t19 fun a0 => Prim.run (.un .not) [a0]) fun t20 =>
  Option.bind (chk t20 fun a0 => Prim.run .mov [a0]) fun t21 =>
  Option.bind (grd t21 false (chk t1 fun a0 => Prim.run .mov [a0])) fun t22 =>
  Option.bind (grd t21 false (chk t22 fun a0 => Prim.run .len [a0])) fun t23 =>
  Option.bind (grd t21 false (chk t23 fun a0 => Prim.run (.bin .gtr) [a0, (.int .i64 200)])) fun t24 =>
  Option.bind (chk t21 fun a0 => isB a0 (some (.bool true)) (chk t24 fun a1 => some a1)) fun t25 =>
  chk t25 fun c0 => isB c0
 (Option.bind (Option.bind (Ans T 17 []) fun rs => retV 1 rs) fun t26 =>
  Option.bind (chk t26 fun a0 => Prim.run .mov [a0]) fun t6 =>
  allDef [t6])
 (Option.bind (chk t3 fun a0 => Prim.run .load [a0, (.ptr [])]) fun t27 =>
  Option.bind (chk t27 fun a0 => Option.bind (Ans T 18 [a0, (.bool true)]) fun rs => retV 1 rs) fun t28 =>
  Option.bind (Prim.run .mov [(.agg [(.slice true []), (.bool false)])]) fun t7 =>
  chk t28 fun a0 => chk t7 fun y0 => Option.bind (setP [] y0 a0) fun t7 =>
  Option.bind (chk t7 fun a0 => Prim.run .load [a0, (.ptr [])]) fun t30 =>
  Option.bind (chk t1 fun a0 => Prim.run .mov [a0]) fun t31 =>
  Option.bind (chk t30 fun a0 => chk t31 fun a1 => Option.bind (Ans T 19 [a0, a1]) fun rs => retV 2 rs) fun t32 =>
  Option.bind (chk t32 fun a0 => Prim.run .mov [a0]) fun t29 =>
  Option.bind (chk t29 fun a0 => Prim.run (.ext 0) [a0]) fun t33 =>
  Option.bind (chk t29 fun a0 => Prim.run (.ext 1) [a0]) fun t34 =>
  Option.bind (Prim.run .mov [(.agg [(.slice true []), (.bool false)])]) fun t8 =>
  chk t33 fun a0 => chk t8 fun y0 => Option.bind (setP [] y0 a0) fun t8 =>
  Option.bind (chk t34 fun a0 => Prim.run .mov [a0]) fun t9 =>
  Option.bind (chk t7 fun a0 => Prim.run .load [a0, (.ptr [])]) fun t36 =>
  Option.bind (chk t2 fun a0 => Prim.run .mov [a0]) fun t37 =>
  Option.bind (chk t36 fun a0 => chk t37 fun a1 => Option.bind (Ans T 20 [a0, a1]) fun rs => retV 3 rs) fun t38 =>
  Option.bind (chk t38 fun a0 => Prim.run .mov [a0]) fun t35 =>
  Option.bind (chk t35 fun a0 => Prim.run (.ext 0) [a0]) fun t39 =>
  Option.bind (chk t35 fun a0 => Prim.run (.ext 1) [a0]) fun t40 =>
  Option.bind (chk t35 fun a0 => Prim.run (.ext 2) [a0]) fun t41 =>
  Option.bind (Prim.run .mov [(.agg [(.slice true []), (.bool false)])]) fun t10 =>
  chk t39 fun a0 => chk t10 fun y0 => Option.bind (setP [] y0 a0) fun t10 =>
  Option.bind (chk t40 fun a0 => Prim.run .mov [a0]) fun t11 =>
  Option.bind (chk t41 fun a0 => Prim.run .mov [a0]) fun t12 =>
  Option.bind (chk t8 fun a0 => Prim.run .load [a0, (.ptr [])]) fun t43 =>
  Option.bind (chk t43 fun a0 => Option.bind (Ans T 18 [a0, (.bool false)]) fun rs => retV 1 rs) fun t44 =>
  Option.bind (chk t1 fun a0 => Prim.run .mov [a0]) fun t45 =>
  Option.bind (chk t44 fun a0 => chk t45 fun a1 => Option.bind (Ans T 19 [a0, a1]) fun rs => retV 2 rs) fun t46 =>
  Option.bind (chk t46 fun a0 => Prim.run .mov [a0]) fun t42 =>
  Option.bind (chk t42 fun a0 => Prim.run (.ext 0) [a0]) fun t47 =>
  Option.bind (chk t42 fun a0 => Prim.run (.ext 1) [a0]) fun t48 =>
  Option.bind (Prim.run .mov [(.agg [(.slice true []), (.bool false)])]) fun t13 =>
  chk t47 fun a0 => chk t13 fun y0 => Option.bind (setP [] y0 a0) fun t13 =>
  Option.bind (chk t48 fun a0 => Prim.run .mov [a0]) fun t14 =>
  Option.bind (chk t13 fun a0 => Prim.run .load [a0, (.ptr [])]) fun t50 =>
  Option.bind (chk t50 fun a0 => Option.bind (Ans T 20 [a0, (.int .i64 0)]) fun rs => retV 3 rs) fun t51 =>
  Option.bind (chk t51 fun a0 => Prim.run .mov [a0]) fun t49 =>
  Option.bind (chk t49 fun a0 => Prim.run (.ext 0) [a0]) fun t52 =>
  Option.bind (chk t49 fun a0 => Prim.run (.ext 1) [a0]) fun t53 =>
  Option.bind (chk t49 fun a0 => Prim.run (.ext 2) [a0]) fun t54 =>
  Option.bind (Prim.run .mov [(.agg [(.slice true []), (.bool false)])]) fun t15 =>
  chk t52 fun a0 => chk t15 fun y0 => Option.bind (setP [] y0 a0) fun t15 =>
  Option.bind (chk t53 fun a0 => Prim.run .mov [a0]) fun t16 =>
  Option.bind (chk t54 fun a0 => Prim.run .mov [a0]) fun t17 =>
  Option.bind (Prim.run (.fptr 1) [(.ptr [])]) fun t55 =>
  Option.bind (chk t7 fun a0 => chk t55 fun a1 => Prim.run .load [a0, a1]) fun t56 =>
  Option.bind (chk t56 fun a0 => Prim.run .mov [a0]) fun t57 =>
  Option.bind (grd t57 true (Prim.run (.fptr 0) [(.ptr [])])) fun t58 =>
  Option.bind (grd t57 true (chk t7 fun a0 => chk t58 fun a1 => Prim.run .load [a0, a1])) fun t59 =>
  Option.bind (grd t57 true (chk t59 fun a0 => Prim.run .len [a0])) fun t60 =>
  Option.bind (grd t57 true (chk t60 fun a0 => Prim.run (.bin .eql) [a0, (.int .i64 0)])) fun t61 =>
  Option.bind (chk t57 fun a0 => isB a0 (chk t61 fun a1 => some a1) (some (.bool false))) fun t62 =>
  Option.bind (chk t62 fun a0 => Prim.run .mov [a0]) fun t63 =>
  Option.bind (grd t63 true (chk t9 fun a0 => Prim.run .mov [a0])) fun t64 =>
  Option.bind (grd t63 true (chk t64 fun a0 => Prim.run (.un .not) [a0])) fun t65 =>
  Option.bind (chk t63 fun a0 => isB a0 (chk t65 fun a1 => some a1) (some (.bool false))) fun t66 =>
  Option.bind (chk t66 fun a0 => Prim.run .mov [a0]) fun t67 =>
  Option.bind (grd t67 true (chk t12 fun a0 => Prim.run .mov [a0])) fun t68 =>
  Option.bind (grd t67 true (chk t68 fun a0 => Prim.run (.un .not) [a0])) fun t69 =>
  Option.bind (chk t67 fun a0 => isB a0 (chk t69 fun a1 => some a1) (some (.bool false))) fun t70 =>
  Option.bind (chk t70 fun a0 => Prim.run .mov [a0]) fun t71 =>
  Option.bind (grd t71 true (chk t11 fun a0 => Prim.run .mov [a0])) fun t72 =>
  Option.bind (grd t71 true (chk t72 fun a0 => Prim.run (.bin .eql) [a0, (.str [])])) fun t73 =>
  Option.bind (chk t71 fun a0 => isB a0 (chk t73 fun a1 => some a1) (some (.bool false))) fun t74 =>
  Option.bind (chk t74 fun a0 => Prim.run .mov [a0]) fun t75 =>
  Option.bind (grd t75 true (chk t14 fun a0 => Prim.run .mov [a0])) fun t76 =>
  Option.bind (chk t75 fun a0 => isB a0 (chk t76 fun a1 => some a1) (some (.bool false))) fun t77 =>
  Option.bind (chk t77 fun a0 => Prim.run .mov [a0]) fun t78 =>
  Option.bind (grd t78 true (chk t17 fun a0 => Prim.run .mov [a0])) fun t79 =>
  Option.bind (chk t78 fun a0 => isB a0 (chk t79 fun a1 => some a1) (some (.bool false))) fun t80 =>
  Option.bind (chk t80 fun a0 => Prim.run .mov [a0]) fun t81 =>
  Option.bind (grd t81 true (chk t16 fun a0 => Prim.run .mov [a0])) fun t82 =>
  Option.bind (grd t81 true (chk t1 fun a0 => Prim.run .mov [a0])) fun t83 =>
  Option.bind (grd t81 true (chk t82 fun a0 => chk t83 fun a1 => Prim.run (.bin .eql) [a0, a1])) fun t84 =>
  Option.bind (chk t81 fun a0 => isB a0 (chk t84 fun a1 => some a1) (some (.bool false))) fun t85 =>
  Option.bind (chk t85 fun a0 => Prim.run .mov [a0]) fun t86 =>
  Option.bind (grd t86 true (Prim.run (.fptr 1) [(.ptr [])])) fun t87 =>
  Option.bind (grd t86 true (chk t13 fun a0 => chk t87 fun a1 => Prim.run .load [a0, a1])) fun t88 =>
  Option.bind (grd t86 true (chk t88 fun a0 => Prim.run (.un .not) [a0])) fun t89 =>
  Option.bind (chk t86 fun a0 => isB a0 (chk t89 fun a1 => some a1) (some (.bool false))) fun t90 =>
  Option.bind (chk t90 fun a0 => Prim.run .mov [a0]) fun t91 =>
  Option.bind (grd t91 true (Option.bind (Ans T 17 []) fun rs => retV 1 rs)) fun t92 =>
  Option.bind (chk t91 fun a0 => isB a0 (chk t92 fun a1 => some a1) (some (.bool false))) fun t93 =>
  Option.bind (chk t93 fun a0 => Prim.run .mov [a0]) fun t6 =>
  allDef [t6])) = some rs) : Ans T 3 [t0, t1, t2] = some rs := call_of (T := T) c3 (Eq.trans (by kernel_rfl) h)
/-! vmfleet/vmfleetlaw23.few -/
noncomputable def WL16x2 (t1 t3 : PV) (K : RK) : Option (List PV) := loopK T [0, 2, 4, 5, 6, 7, 8, 9, 10, 11, 12, 13, 14, 15, 16, 17, 18, 19, 20, 21, 22, 23, 24, 25] L16x2 [.undef, t1, .undef, t3, .undef, .undef, .undef, .undef, .undef, .undef, .undef, .undef, .undef, .undef, .undef, .undef, .undef, .undef, .undef, .undef, .undef, .undef, .undef, .undef, .undef, .undef] K
theorem oL16x2 (t1 t3 : PV) (K : RK) {a : List PV} (h : (Option.bind (chk t3 fun a0 => Prim.run .mov [a0]) fun t4 =>
  Option.bind (Prim.run (.fptr 0) [(.ptr [])]) fun t5 =>
  Option.bind (chk t1 fun a0 => chk t5 fun a1 => Prim.run .load [a0, a1]) fun t6 =>
  Option.bind (chk t6 fun a0 => Prim.run .len [a0]) fun t7 =>
  Option.bind (chk t4 fun a0 => chk t7 fun a1 => Prim.run (.bin .lss) [a0, a1]) fun t8 =>
  Option.bind (chk t8 fun a0 => Prim.run .mov [a0]) fun t9 =>
  Option.bind (grd t9 true (chk t3 fun a0 => Prim.run .mov [a0])) fun t10 =>
  Option.bind (grd t9 true (chk t10 fun a0 => Prim.run (.bin .lss) [a0, (.int .i64 40)])) fun t11 =>
  Option.bind (chk t9 fun a0 => isB a0 (chk t11 fun a1 => some a1) (some (.bool false))) fun t12 =>
  chk t12 fun c0 => isB c0
 (Option.bind (Prim.run (.fptr 0) [(.ptr [])]) fun t15 =>
  Option.bind (chk t1 fun a0 => chk t15 fun a1 => Prim.run .load [a0, a1]) fun t16 =>
  Option.bind (chk t3 fun a0 => Prim.run .mov [a0]) fun t17 =>
  Option.bind (chk t16 fun a0 => chk t17 fun a1 => Prim.run (.iptr []) [a0, a1]) fun t18 =>
  Option.bind (chk t16 fun a0 => chk t18 fun a1 => Prim.run .load [a0, a1]) fun t19 =>
  Option.bind (chk t19 fun a0 => Prim.run .len [a0]) fun t20 =>
  Option.bind (chk t20 fun a0 => Prim.run (.bin .gtr) [a0, (.int .i64 200)]) fun t21 =>
  chk t21 fun c0 => isB c0
 (Option.bind (Prim.run .mov [(.bool false)]) fun t2 =>
  K (.ret, [.undef, .undef, t2, .undef, .undef, .undef, .undef, .undef, .undef, .undef, .undef, .undef, .undef, .undef, .undef, .undef, .undef, .undef, .undef, .undef, .undef, .undef, .undef, .undef, .undef, .undef]))
 (Option.bind (chk t3 fun a0 => Prim.run .mov [a0]) fun t13 =>
  Option.bind (chk t13 fun a0 => Prim.run (.bin .add) [a0, (.int .i64 1)]) fun t14 =>
  Option.bind (chk t14 fun a0 => Prim.run .mov [a0]) fun t3 =>
  WL16x2 t1 t3 K))
 (K (.exit 0, [.undef, t1, .undef, .undef, .undef, .undef, .undef, .undef, .undef, .undef, .undef, .undef, .undef, .undef, .undef, .undef, .undef, .undef, .undef, .undef, .undef, .undef, .undef, .undef, .undef, .undef]))) = some a) : WL16x2 t1 t3 K = some a := loopK_of (Eq.trans (by kernel_rfl) h)
theorem lB16x1 (t1 : PV) (K : RK) : denK T B16x1 [.undef, t1, .undef, .undef, .undef, .undef, .undef, .undef, .undef, .undef, .undef, .undef, .undef, .undef, .undef, .undef, .undef, .undef, .undef, .undef, .undef, .undef, .undef, .undef, .undef, .undef] K =
  Option.bind (Prim.run (.fptr 0) [(.ptr [])]) fun t22 =>
  Option.bind (chk t1 fun a0 => chk t22 fun a1 => Prim.run .load [a0, a1]) fun t23 =>
  Option.bind (chk t23 fun a0 => Prim.run .len [a0]) fun t24 =>
  Option.bind (chk t24 fun a0 => Prim.run (.bin .leq) [a0, (.int .i64 30)]) fun t25 =>
  Option.bind (chk t25 fun a0 => Prim.run .mov [a0]) fun t2 =>
  K (.ret, [.undef, .undef, t2, .undef, .undef, .undef, .undef, .undef, .undef, .undef, .undef, .undef, .undef, .undef, .undef, .undef, .undef, .undef, .undef, .undef, .undef, .undef, .undef, .undef, .undef, .undef]) := by kernel_rfl
theorem f16 (t0 : PV) {rs : List PV} (h : (Option.bind (chk t0 fun a0 => Prim.run .mov [a0]) fun t1 =>
  Option.bind (Prim.run .mov [(.bool false)]) fun t2 =>
  Option.bind (Prim.run .mov [(.int .i64 0)]) fun t3 =>
  WL16x2 t1 t3 (fun r => (fun r => thenK r (fun s' => denK T B16x1 s' (endK [2])) (endK [2])) (unblock 0 r))) = some rs) : Ans T 16 [t0] = some rs := call_of (T := T) c16 (Eq.trans (by kernel_rfl) h)
/-! vmfleet/vmfleetlaw23.awake -/
theorem f17 {rs : List PV} (h : (Option.bind (Prim.run .mov [(.bool false)]) fun t0 =>
  Option.bind (Prim.run (.build [(.slice true []), (.bool false)] []) []) fun t9 =>
  Option.bind (chk t9 fun a0 => Option.bind (Ans T 19 [a0, (.str [97])]) fun rs => retV 2 rs) fun t10 =>
  Option.bind (chk t10 fun a0 => Prim.run .mov [a0]) fun t8 =>
  Option.bind (chk t8 fun a0 => Prim.run (.ext 0) [a0]) fun t11 =>
  Option.bind (chk t8 fun a0 => Prim.run (.ext 1) [a0]) fun t12 =>
  Option.bind (Prim.run .mov [(.agg [(.slice true []), (.bool false)])]) fun t1 =>
  chk t11 fun a0 => chk t1 fun y0 => Option.bind (setP [] y0 a0) fun t1 =>
  Option.bind (chk t12 fun a0 => Prim.run .mov [a0]) fun t2 =>
  Option.bind (chk t1 fun a0 => Prim.run .load [a0, (.ptr [])]) fun t14 =>
  Option.bind (chk t14 fun a0 => Option.bind (Ans T 20 [a0, (.int .i64 0)]) fun rs => retV 3 rs) fun t15 =>
  Option.bind (chk t15 fun a0 => Prim.run .mov [a0]) fun t13 =>
  Option.bind (chk t13 fun a0 => Prim.run (.ext 0) [a0]) fun t16 =>
  Option.bind (chk t13 fun a0 => Prim.run (.ext 1) [a0]) fun t17 =>
  Option.bind (chk t13 fun a0 => Prim.run (.ext 2) [a0]) fun t18 =>
  Option.bind (Prim.run .mov [(.agg [(.slice true []), (.bool false)])]) fun t3 =>
  chk t16 fun a0 => chk t3 fun y0 => Option.bind (setP [] y0 a0) fun t3 =>
  Option.bind (chk t17 fun a0 => Prim.run .mov [a0]) fun t4 =>
  Option.bind (chk t18 fun a0 => Prim.run .mov [a0]) fun t5 =>
  Option.bind (chk t1 fun a0 => Prim.run .load [a0, (.ptr [])]) fun t20 =>
  Option.bind (chk t20 fun a0 => Option.bind (Ans T 18 [a0, (.bool true)]) fun rs => retV 1 rs) fun t21 =>
  Option.bind (chk t21 fun a0 => Option.bind (Ans T 19 [a0, (.str [98])]) fun rs => retV 2 rs) fun t22 =>
  Option.bind (chk t22 fun a0 => Prim.run .mov [a0]) fun t19 =>
  Option.bind (chk t19 fun a0 => Prim.run (.ext 0) [a0]) fun t23 =>
  Option.bind (chk t19 fun a0 => Prim.run (.ext 1) [a0]) fun t24 =>
  Option.bind (Prim.run .mov [(.agg [(.slice true []), (.bool false)])]) fun t6 =>
  chk t23 fun a0 => chk t6 fun y0 => Option.bind (setP [] y0 a0) fun t6 =>
  Option.bind (chk t24 fun a0 => Prim.run .mov [a0]) fun t7 =>
  Option.bind (chk t2 fun a0 => Prim.run .mov [a0]) fun t25 =>
  Option.bind (chk t25 fun a0 => Prim.run .mov [a0]) fun t26 =>
  Option.bind (grd t26 true (chk t5 fun a0 => Prim.run .mov [a0])) fun t27 =>
  Option.bind (chk t26 fun a0 => isB a0 (chk t27 fun a1 => some a1) (some (.bool false))) fun t28 =>
  Option.bind (chk t28 fun a0 => Prim.run .mov [a0]) fun t29 =>
  Option.bind (grd t29 true (chk t4 fun a0 => Prim.run .mov [a0])) fun t30 =>
  Option.bind (grd t29 true (chk t30 fun a0 => Prim.run (.bin .eql) [a0, (.str [97])])) fun t31 =>
  Option.bind (chk t29 fun a0 => isB a0 (chk t31 fun a1 => some a1) (some (.bool false))) fun t32 =>
  Option.bind (chk t32 fun a0 => Prim.run .mov [a0]) fun t33 =>
  Option.bind (grd t33 true (Prim.run (.fptr 0) [(.ptr [])])) fun t34 =>
  Option.bind (grd t33 true (chk t3 fun a0 => chk t34 fun a1 => Prim.run .load [a0, a1])) fun t35 =>
  Option.bind (grd t33 true (chk t35 fun a0 => Prim.run .len [a0])) fun t36 =>
  Option.bind (grd t33 true (chk t36 fun a0 => Prim.run (.bin .eql) [a0, (.int .i64 0)])) fun t37 =>
  Option.bind (chk t33 fun a0 => isB a0 (chk t37 fun a1 => some a1) (some (.bool false))) fun t38 =>
  Option.bind (chk t38 fun a0 => Prim.run .mov [a0]) fun t39 =>
  Option.bind (grd t39 true (chk t7 fun a0 => Prim.run .mov [a0])) fun t40 =>
  Option.bind (grd t39 true (chk t40 fun a0 => Prim.run (.un .not) [a0])) fun t41 =>
  Option.bind (chk t39 fun a0 => isB a0 (chk t41 fun a1 => some a1) (some (.bool false))) fun t42 =>
  Option.bind (chk t42 fun a0 => Prim.run .mov [a0]) fun t43 =>
  Option.bind (grd t43 true (chk t1 fun a0 => Prim.run .load [a0, (.ptr [])])) fun t44 =>
  Option.bind (grd t43 true (chk t44 fun a0 => Option.bind (Ans T 18 [a0, (.bool true)]) fun rs => retV 1 rs)) fun t45 =>
  Option.bind (grd t43 true (chk t45 fun a0 => Prim.run (.field 0) [a0])) fun t46 =>
  Option.bind (grd t43 true (chk t46 fun a0 => Prim.run .len [a0])) fun t47 =>
  Option.bind (grd t43 true (chk t47 fun a0 => Prim.run (.bin .eql) [a0, (.int .i64 0)])) fun t48 =>
  Option.bind (chk t43 fun a0 => isB a0 (chk t48 fun a1 => some a1) (some (.bool false))) fun t49 =>
  Option.bind (chk t49 fun a0 => Prim.run .mov [a0]) fun t0 =>
  allDef [t0]) = some rs) : Ans T 17 [] = some rs := call_of (T := T) c17 (Eq.trans (by kernel_rfl) h)
/-! vmfleet/link.SetCut -/
theorem f18 (t0 t1 : PV) {rs : List PV} (h : (Option.bind (chk t0 fun a0 => Prim.run .mov [a0]) fun t2 =>
  Option.bind (Prim.run .mov [(.agg [(.slice true []), (.bool false)])]) fun t4 =>
  Option.bind (chk t2 fun a0 => Prim.run .load [a0, (.ptr [])]) fun t5 =>
  Option.bind (chk t5 fun a0 => Option.bind (Ans T 59 [a0]) fun rs => retV 1 rs) fun t6 =>
  chk t6 fun a0 => chk t2 fun y0 => Option.bind (setP [] y0 a0) fun t2 =>
  Option.bind (chk t1 fun a0 => Prim.run .mov [a0]) fun t7 =>
  Option.bind (Prim.run (.fptr 1) [(.ptr [])]) fun t8 =>
  chk t7 fun a0 => asPath t8 fun q0 => chk t2 fun y0 => Option.bind (setP q0 y0 a0) fun t2 =>
  Option.bind (chk t1 fun a0 => Prim.run .mov [a0]) fun t9 =>
  chk t9 fun c0 => isB c0
 (Option.bind (Prim.run (.fptr 0) [(.ptr [])]) fun t10 =>
  asPath t10 fun q0 => chk t2 fun y0 => Option.bind (setP q0 y0 (.slice true [])) fun t2 =>
  Option.bind (chk t2 fun a0 => Prim.run .load [a0, (.ptr [])]) fun t11 =>
  chk t11 fun a0 => chk t4 fun y0 => Option.bind (setP [] y0 a0) fun t4 =>
  allDef [t4])
 (Option.bind (chk t2 fun a0 => Prim.run .load [a0, (.ptr [])]) fun t11 =>
  chk t11 fun a0 => chk t4 fun y0 => Option.bind (setP [] y0 a0) fun t4 =>
  allDef [t4])) = some rs) : Ans T 18 [t0, t1] = some rs := call_of (T := T) c18 (Eq.trans (by kernel_rfl) h)
/-! vmfleet/link.Send -/
theorem f19 (t0 t1 : PV) {rs : List PV} (h : (Option.bind (chk t0 fun a0 => Prim.run .mov [a0]) fun t2 =>
  Option.bind (Prim.run .mov [(.agg [(.slice true []), (.bool false)])]) fun t4 =>
  Option.bind (Prim.run .mov [(.bool false)]) fun t5 =>
  Option.bind (chk t2 fun a0 => Prim.run .load [a0, (.ptr [])]) fun t6 =>
  Option.bind (chk t6 fun a0 => Option.bind (Ans T 59 [a0]) fun rs => retV 1 rs) fun t7 =>
  chk t7 fun a0 => chk t2 fun y0 => Option.bind (setP [] y0 a0) fun t2 =>
  Option.bind (chk t2 fun a0 => Prim.run .load [a0, (.ptr [])]) fun t8 =>
  Option.bind (chk t8 fun a0 => Option.bind (Ans T 60 [a0]) fun rs => retV 1 rs) fun t9 =>
  Option.bind (chk t9 fun a0 => Prim.run (.un .not) [a0]) fun t10 =>
  chk t10 fun c0 => isB c0
 (Option.bind (chk t2 fun a0 => Prim.run .load [a0, (.ptr [])]) fun t11 =>
  chk t11 fun a0 => chk t4 fun y0 => Option.bind (setP [] y0 a0) fun t4 =>
  Option.bind (Prim.run .mov [(.bool false)]) fun t5 =>
  allDef [t4, t5])
 (Option.bind (Prim.run (.fptr 0) [(.ptr [])]) fun t12 =>
  Option.bind (chk t2 fun a0 => chk t12 fun a1 => Prim.run .load [a0, a1]) fun t13 =>
  Option.bind (chk t1 fun a0 => Prim.run .mov [a0]) fun t14 =>
  Option.bind (chk t14 fun a0 => Prim.run (.buildSl (.str []) 1 [0]) [a0]) fun t15 =>
  Option.bind (chk t13 fun a0 => chk t15 fun a1 => Prim.run (.app 16) [a0, a1]) fun t16 =>
  Option.bind (Prim.run (.fptr 0) [(.ptr [])]) fun t17 =>
  chk t16 fun a0 => asPath t17 fun q0 => chk t2 fun y0 => Option.bind (setP q0 y0 a0) fun t2 =>
  Option.bind (chk t2 fun a0 => Prim.run .load [a0, (.ptr [])]) fun t18 =>
  chk t18 fun a0 => chk t4 fun y0 => Option.bind (setP [] y0 a0) fun t4 =>
  Option.bind (Prim.run .mov [(.bool true)]) fun t5 =>
  allDef [t4, t5])) = some rs) : Ans T 19 [t0, t1] = some rs := call_of (T := T) c19 (Eq.trans (by kernel_rfl) h)
/-! vmfleet/link.Deliver -/
theorem f20 (t0 t1 : PV) {rs : List PV} (h : (Option.bind (chk t0 fun a0 => Prim.run .mov [a0]) fun t2 =>
  Option.bind (Prim.run .mov [(.agg [(.slice true []), (.bool false)])]) fun t4 =>
  Option.bind (Prim.run .mov [(.str [])]) fun t5 =>
  Option.bind (Prim.run .mov [(.bool false)]) fun t6 =>
  Option.bind (chk t2 fun a0 => Prim.run .load [a0, (.ptr [])]) fun t8 =>
  Option.bind (chk t8 fun a0 => Option.bind (Ans T 59 [a0]) fun rs => retV 1 rs) fun t9 =>
  chk t9 fun a0 => chk t2 fun y0 => Option.bind (setP [] y0 a0) fun t2 =>
  Option.bind (Prim.run (.fptr 1) [(.ptr [])]) fun t10 =>
  Option.bind (chk t2 fun a0 => chk t10 fun a1 => Prim.run .load [a0, a1]) fun t11 =>
  Option.bind (chk t11 fun a0 => Prim.run .mov [a0]) fun t12 =>
  Option.bind (grd t12 false (chk t2 fun a0 => Prim.run .load [a0, (.ptr [])])) fun t13 =>
  Option.bind (grd t12 false (chk t1 fun a0 => Prim.run .mov [a0])) fun t14 =>
  Option.bind (grd t12 false (chk t13 fun a0 => chk t14 fun a1 => Option.bind (Ans T 61 [a0, a1]) fun rs => retV 1 rs)) fun t15 =>
  Option.bind (grd t12 false (chk t15 fun a0 => Prim.run (.un .not) [a0])) fun t16 =>
  Option.bind (chk t12 fun a0 => isB a0 (some (.bool true)) (chk t16 fun a1 => some a1)) fun t17 =>
  chk t17 fun c0 => isB c0
 (Option.bind (chk t2 fun a0 => Prim.run .load [a0, (.ptr [])]) fun t18 =>
  chk t18 fun a0 => chk t4 fun y0 => Option.bind (setP [] y0 a0) fun t4 =>
  Option.bind (Prim.run .mov [(.str [])]) fun t5 =>
  Option.bind (Prim.run .mov [(.bool false)]) fun t6 =>
  allDef [t4, t5, t6])
 (Option.bind (Prim.run (.fptr 0) [(.ptr [])]) fun t19 =>
  Option.bind (chk t2 fun a0 => chk t19 fun a1 => Prim.run .load [a0, a1]) fun t20 =>
  Option.bind (chk t1 fun a0 => Prim.run .mov [a0]) fun t21 =>
  Option.bind (chk t20 fun a0 => chk t21 fun a1 => Prim.run (.iptr [0]) [a0, a1]) fun t22 =>
  Option.bind (chk t2 fun a0 => chk t22 fun a1 => Prim.run .load [a0, a1]) fun t23 =>
  Option.bind (chk t23 fun a0 => Prim.run .mov [a0]) fun t7 =>
  Option.bind (chk t2 fun a0 => Prim.run .load [a0, (.ptr [])]) fun t24 =>
  Option.bind (chk t1 fun a0 => Prim.run .mov [a0]) fun t25 =>
  Option.bind (chk t24 fun a0 => chk t25 fun a1 => Option.bind (Ans T 62 [a0, a1]) fun rs => retV 1 rs) fun t26 =>
  Option.bind (chk t7 fun a0 => Prim.run .mov [a0]) fun t27 =>
  chk t26 fun a0 => chk t4 fun y0 => Option.bind (setP [] y0 a0) fun t4 =>
  Option.bind (chk t27 fun a0 => Prim.run .mov [a0]) fun t5 =>
  Option.bind (Prim.run .mov [(.bool true)]) fun t6 =>
  allDef [t4, t5, t6])) = some rs) : Ans T 20 [t0, t1] = some rs := call_of (T := T) c20 (Eq.trans (by kernel_rfl) h)
/-! vmfleet/link.copyOf -/
theorem f59 (t0 : PV) {rs : List PV} (h : (Option.bind (chk t0 fun a0 => Prim.run .mov [a0]) fun t1 =>
  Option.bind (Prim.run .mov [(.agg [(.slice true []), (.bool false)])]) fun t2 =>
  Option.bind (Prim.run (.fptr 0) [(.ptr [])]) fun t4 =>
  Option.bind (chk t1 fun a0 => chk t4 fun a1 => Prim.run .load [a0, a1]) fun t5 =>
  Option.bind (chk t5 fun a0 => Prim.run .len [a0]) fun t6 =>
  Option.bind (chk t6 fun a0 => Prim.run .mov [a0]) fun t3 =>
  Option.bind (Prim.run (.fptr 0) [(.ptr [])]) fun t7 =>
  Option.bind (chk t1 fun a0 => chk t7 fun a1 => Prim.run .load [a0, a1]) fun t8 =>
  Option.bind (chk t3 fun a0 => Prim.run .mov [a0]) fun t9 =>
  Option.bind (chk t3 fun a0 => Prim.run .mov [a0]) fun t10 =>
  Option.bind (chk t8 fun a0 => chk t9 fun a1 => chk t10 fun a2 => Prim.run (.sl3 false) [a0, a1, a2]) fun t11 =>
  Option.bind (chk t11 fun a1 => Prim.run (.app 16) [(.slice true []), a1]) fun t12 =>
  Option.bind (Prim.run (.fptr 0) [(.ptr [])]) fun t13 =>
  chk t12 fun a0 => asPath t13 fun q0 => chk t1 fun y0 => Option.bind (setP q0 y0 a0) fun t1 =>
  Option.bind (chk t1 fun a0 => Prim.run .load [a0, (.ptr [])]) fun t14 =>
  chk t14 fun a0 => chk t2 fun y0 => Option.bind (setP [] y0 a0) fun t2 =>
  allDef [t2]) = some rs) : Ans T 59 [t0] = some rs := call_of (T := T) c59 (Eq.trans (by kernel_rfl) h)
/-! vmfleet/link.room -/
theorem f60 (t0 : PV) {rs : List PV} (h : (Option.bind (chk t0 fun a0 => Prim.run .mov [a0]) fun t1 =>
  Option.bind (Prim.run .mov [(.bool false)]) fun t2 =>
  Option.bind (Prim.run (.fptr 1) [(.ptr [])]) fun t3 =>
  Option.bind (chk t1 fun a0 => chk t3 fun a1 => Prim.run .load [a0, a1]) fun t4 =>
  Option.bind (chk t4 fun a0 => Prim.run (.un .not) [a0]) fun t5 =>
  Option.bind (chk t5 fun a0 => Prim.run .mov [a0]) fun t6 =>
  Option.bind (grd t6 true (Prim.run (.fptr 0) [(.ptr [])])) fun t7 =>
  Option.bind (grd t6 true (chk t1 fun a0 => chk t7 fun a1 => Prim.run .load [a0, a1])) fun t8 =>
  Option.bind (grd t6 true (chk t8 fun a0 => Prim.run .len [a0])) fun t9 =>
  Option.bind (grd t6 true (chk t9 fun a0 => Prim.run (.bin .lss) [a0, (.int .i64 24)])) fun t10 =>
  Option.bind (chk t6 fun a0 => isB a0 (chk t10 fun a1 => some a1) (some (.bool false))) fun t11 =>
  Option.bind (chk t11 fun a0 => Prim.run .mov [a0]) fun t2 =>
  allDef [t2]) = some rs) : Ans T 60 [t0] = some rs := call_of (T := T) c60 (Eq.trans (by kernel_rfl) h)
/-! vmfleet/link.has -/
theorem f61 (t0 t1 : PV) {rs : List PV} (h : (Option.bind (chk t0 fun a0 => Prim.run .mov [a0]) fun t2 =>
  Option.bind (Prim.run .mov [(.bool false)]) fun t4 =>
  Option.bind (chk t1 fun a0 => Prim.run .mov [a0]) fun t5 =>
  Option.bind (chk t5 fun a0 => Prim.run (.bin .geq) [a0, (.int .i64 0)]) fun t6 =>
  Option.bind (chk t6 fun a0 => Prim.run .mov [a0]) fun t7 =>
  Option.bind (grd t7 true (chk t1 fun a0 => Prim.run .mov [a0])) fun t8 =>
  Option.bind (grd t7 true (Prim.run (.fptr 0) [(.ptr [])])) fun t9 =>
  Option.bind (grd t7 true (chk t2 fun a0 => chk t9 fun a1 => Prim.run .load [a0, a1])) fun t10 =>
  Option.bind (grd t7 true (chk t10 fun a0 => Prim.run .len [a0])) fun t11 =>
  Option.bind (grd t7 true (chk t8 fun a0 => chk t11 fun a1 => Prim.run (.bin .lss) [a0, a1])) fun t12 =>
  Option.bind (chk t7 fun a0 => isB a0 (chk t12 fun a1 => some a1) (some (.bool false))) fun t13 =>
  Option.bind (chk t13 fun a0 => Prim.run .mov [a0]) fun t4 =>
  allDef [t4]) = some rs) : Ans T 61 [t0, t1] = some rs := call_of (T := T) c61 (Eq.trans (by kernel_rfl) h)
/-! vmfleet/link.remove -/
theorem f62 (t0 t1 : PV) {rs : List PV} (h : (Option.bind (chk t0 fun a0 => Prim.run .mov [a0]) fun t2 =>
  Option.bind (Prim.run .mov [(.agg [(.slice true []), (.bool false)])]) fun t4 =>
  Option.bind (Prim.run (.fptr 0) [(.ptr [])]) fun t5 =>
  Option.bind (chk t2 fun a0 => chk t5 fun a1 => Prim.run .load [a0, a1]) fun t6 =>
  Option.bind (chk t1 fun a0 => Prim.run .mov [a0]) fun t7 =>
  Option.bind (chk t1 fun a0 => Prim.run .mov [a0]) fun t8 =>
  Option.bind (chk t6 fun a0 => chk t7 fun a1 => chk t8 fun a2 => Prim.run (.sl3 false) [a0, a1, a2]) fun t9 =>
  Option.bind (Prim.run (.fptr 0) [(.ptr [])]) fun t10 =>
  Option.bind (chk t2 fun a0 => chk t10 fun a1 => Prim.run .load [a0, a1]) fun t11 =>
  Option.bind (chk t1 fun a0 => Prim.run .mov [a0]) fun t12 =>
  Option.bind (chk t12 fun a0 => Prim.run (.bin .add) [a0, (.int .i64 1)]) fun t13 =>
  Option.bind (chk t11 fun a0 => chk t13 fun a1 => Prim.run (.sl true false) [a0, a1]) fun t14 =>
  Option.bind (chk t9 fun a0 => chk t14 fun a1 => Prim.run (.app 16) [a0, a1]) fun t15 =>
  Option.bind (Prim.run (.fptr 0) [(.ptr [])]) fun t16 =>
  chk t15 fun a0 => asPath t16 fun q0 => chk t2 fun y0 => Option.bind (setP q0 y0 a0) fun t2 =>
  Option.bind (chk t2 fun a0 => Prim.run .load [a0, (.ptr [])]) fun t17 =>
  chk t17 fun a0 => chk t4 fun y0 => Option.bind (setP [] y0 a0) fun t4 =>
  allDef [t4]) = some rs) : Ans T 62 [t0, t1] = some rs := call_of (T := T) c62 (Eq.trans (by kernel_rfl) h)
end Go.Proofs.Ytaldhebldjphbaa

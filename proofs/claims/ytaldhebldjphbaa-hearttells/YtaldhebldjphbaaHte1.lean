/-
  The law HeartTells: what its functions compute, and that it answers true.
  Conditions: none.
-/
import Derived.Test.YtaldhebldjphbaaRows
import Derived.Test.YtaldhebldjphbaaVmF
namespace Go.Proofs.Ytaldhebldjphbaa
open Go.Vm
set_option maxRecDepth 100000
set_option linter.unusedVariables false
def sg : Sigs := fun f => match f with
  | 6 => some ⟨[(.val (.agg [.sc, .sc, .sc])), (.val .sc), (.val .sc), (.val .sc), (.val .sc)], [.sc], false⟩
  | 7 => some ⟨[(.val .sc), (.val .sc), (.val .sc), (.val (.sl .sh .sc))], [.sc], false⟩
  | 8 => some ⟨[(.val .sc), (.val (.sl .sh .sc))], [.sc], false⟩
  | 9 => some ⟨[(.val .sc), (.val .sc), (.val .sc)], [.sc], false⟩
  | 21 => some ⟨[(.val .sc), (.val .sc)], [.sc], false⟩
  | 28 => some ⟨[], [.sc], false⟩
  | 29 => some ⟨[(.val .sc)], [(.agg [.sc, .sc, .sc]), .sc], false⟩
  | 30 => some ⟨[(.val .sc)], [(.agg [.sc, .sc, .sc]), .sc], false⟩
  | 31 => some ⟨[(.val (.agg [.sc, .sc, .sc])), (.val .sc)], [(.agg [.sc, .sc, .sc]), .sc], false⟩
  | 32 => some ⟨[(.val (.agg [.sc, .sc, .sc])), (.val .sc)], [(.agg [.sc, .sc, .sc]), .sc], false⟩
  | 33 => some ⟨[(.val .sc)], [.sc, .sc, .sc], false⟩
  | 34 => some ⟨[(.val .sc)], [.sc, .sc, .sc], false⟩
  | 35 => some ⟨[(.val (.agg [.sc, .sc, .sc]))], [.sc], false⟩
  | 36 => some ⟨[(.val (.agg [.sc, .sc, .sc]))], [.sc], false⟩
  | 37 => some ⟨[(.val (.agg [.sc, .sc, .sc]))], [(.agg [.sc, .sc, .sc])], false⟩
  | 38 => some ⟨[(.val (.agg [.sc, .sc, .sc]))], [(.agg [.sc, .sc, .sc])], false⟩
  | 39 => some ⟨[(.val (.agg [.sc, .sc, .sc]))], [.sc], false⟩
  | 40 => some ⟨[(.val (.agg [.sc, .sc, .sc]))], [.sc], false⟩
  | 41 => some ⟨[(.val .sc), (.val .sc)], [.sc], false⟩
  | 42 => some ⟨[(.val .sc), (.val .sc)], [.sc], false⟩
  | 47 => some ⟨[(.val .sc), (.val .sc)], [.sc], false⟩
  | 48 => some ⟨[(.val .sc)], [.sc, .sc, .sc], false⟩
  | 49 => some ⟨[(.val .sc), (.val .sc)], [.sc], false⟩
  | 50 => some ⟨[(.val .sc)], [.sc, .sc, .sc], false⟩
  | 63 => some ⟨[(.val .sc)], [.sc, .sc, .sc], false⟩
  | 64 => some ⟨[(.val .sc), (.val .sc)], [.sc, .sc, .sc], false⟩
  | 65 => some ⟨[(.val .sc)], [.sc, .sc], false⟩
  | 66 => some ⟨[(.val .sc)], [.sc], false⟩
  | 67 => some ⟨[(.val .sc)], [.sc], false⟩
  | 71 => some ⟨[(.val .sc)], [.sc], false⟩
  | 72 => some ⟨[(.val .sc)], [.sc], false⟩
  | 73 => some ⟨[(.ref (.agg [.sc, .sc]) (.agg [.sc, .sc]))], [.sc], false⟩
  | 74 => some ⟨[(.ref (.agg [.sc, .sc]) (.agg [.sc, .sc]))], [.sc], false⟩
  | 75 => some ⟨[(.val .sc)], [.sc], false⟩
  | 76 => some ⟨[(.val .sc), (.val .sc)], [.sc], false⟩
  | 77 => some ⟨[(.ref (.agg [.sc, .sc]) (.agg [.sc, .sc]))], [.sc], false⟩
  | 78 => some ⟨[(.ref (.agg [.sc, .sc]) (.agg [.sc, .sc])), (.val .sc)], [.sc], false⟩
  | 90 => some ⟨[(.val .sc)], [.sc, .sc, .sc], false⟩
  | 94 => some ⟨[(.val .sc), (.val .sc)], [.sc], false⟩
  | _ => none

/-- vmfleet/vmfleetlaw27.HeartTells -/
def F6 : VFunc := ⟨129,
  (.seq (.region [⟨(some 5), none, (.prim .mov [(.tmp 0)])⟩,
    ⟨(some 10), none, (.prim .mov [(.const (.bool false))])⟩] [0, 10])
  (.seq (.seq (.region [⟨(some 25), none, (.prim .mov [(.tmp 4)])⟩,
    ⟨(some 26), none, (.prim .len [(.tmp 25)])⟩,
    ⟨(some 27), none, (.prim (.bin .gtr) [(.tmp 26), (.const (.int .i64 200))])⟩] [25, 26])
  (.cond (.tmp 27)
  (.seq (.region [⟨(some 28), none, (.call 28 1 [] [])⟩,
    ⟨(some 10), none, (.prim .mov [(.tmp 28)])⟩] [1, 2, 3, 4, 5, 27, 28])
  .ret)
  .skip))
  (.seq (.region [⟨(some 30), none, (.prim .mov [(.tmp 1)])⟩,
    ⟨(some 31), none, (.call 29 2 [(.tmp 30)] [])⟩,
    ⟨(some 29), none, (.prim .mov [(.tmp 31)])⟩,
    ⟨(some 32), none, (.prim (.ext 0) [(.tmp 29)])⟩,
    ⟨(some 33), none, (.prim (.ext 1) [(.tmp 29)])⟩,
    ⟨(some 11), none, (.prim .mov [(.const (.agg [(.int .i64 0), (.int .i64 0), (.int .u64 0)]))])⟩,
    ⟨none, none, (.store 11 none (.tmp 32))⟩,
    ⟨(some 12), none, (.prim .mov [(.tmp 33)])⟩] [27, 29, 30, 31, 32, 33])
  (.seq (.region [⟨(some 35), none, (.prim .mov [(.tmp 1)])⟩,
    ⟨(some 36), none, (.call 30 2 [(.tmp 35)] [])⟩,
    ⟨(some 34), none, (.prim .mov [(.tmp 36)])⟩,
    ⟨(some 37), none, (.prim (.ext 0) [(.tmp 34)])⟩,
    ⟨(some 38), none, (.prim (.ext 1) [(.tmp 34)])⟩,
    ⟨(some 13), none, (.prim .mov [(.const (.agg [(.int .i64 0), (.int .i64 0), (.int .u64 0)]))])⟩,
    ⟨none, none, (.store 13 none (.tmp 37))⟩,
    ⟨(some 14), none, (.prim .mov [(.tmp 38)])⟩] [1, 34, 35, 36, 37, 38])
  (.seq (.region [⟨(some 40), none, (.prim .load [(.tmp 5), (.const (.ptr []))])⟩,
    ⟨(some 41), none, (.prim .mov [(.tmp 2)])⟩,
    ⟨(some 42), none, (.call 31 2 [(.tmp 40), (.tmp 41)] [])⟩,
    ⟨(some 39), none, (.prim .mov [(.tmp 42)])⟩,
    ⟨(some 43), none, (.prim (.ext 0) [(.tmp 39)])⟩,
    ⟨(some 44), none, (.prim (.ext 1) [(.tmp 39)])⟩,
    ⟨(some 15), none, (.prim .mov [(.const (.agg [(.int .i64 0), (.int .i64 0), (.int .u64 0)]))])⟩,
    ⟨none, none, (.store 15 none (.tmp 43))⟩,
    ⟨(some 16), none, (.prim .mov [(.tmp 44)])⟩] [39, 40, 41, 42, 43, 44])
  (.seq (.region [⟨(some 46), none, (.prim .load [(.tmp 5), (.const (.ptr []))])⟩,
    ⟨(some 47), none, (.prim .mov [(.tmp 2)])⟩,
    ⟨(some 48), none, (.call 32 2 [(.tmp 46), (.tmp 47)] [])⟩,
    ⟨(some 45), none, (.prim .mov [(.tmp 48)])⟩,
    ⟨(some 49), none, (.prim (.ext 0) [(.tmp 45)])⟩,
    ⟨(some 50), none, (.prim (.ext 1) [(.tmp 45)])⟩,
    ⟨(some 17), none, (.prim .mov [(.const (.agg [(.int .i64 0), (.int .i64 0), (.int .u64 0)]))])⟩,
    ⟨none, none, (.store 17 none (.tmp 49))⟩,
    ⟨(some 18), none, (.prim .mov [(.tmp 50)])⟩] [45, 46, 47, 48, 49, 50])
  (.seq (.region [⟨(some 52), none, (.prim .mov [(.tmp 4)])⟩,
    ⟨(some 53), none, (.call 33 3 [(.tmp 52)] [])⟩,
    ⟨(some 51), none, (.prim .mov [(.tmp 53)])⟩,
    ⟨(some 54), none, (.prim (.ext 0) [(.tmp 51)])⟩,
    ⟨(some 55), none, (.prim (.ext 1) [(.tmp 51)])⟩,
    ⟨(some 56), none, (.prim (.ext 2) [(.tmp 51)])⟩,
    ⟨(some 19), none, (.prim .mov [(.tmp 54)])⟩,
    ⟨(some 20), none, (.prim .mov [(.tmp 55)])⟩,
    ⟨(some 21), none, (.prim .mov [(.tmp 56)])⟩] [51, 52, 53, 54, 55, 56])
  (.seq (.region [⟨(some 58), none, (.prim .mov [(.tmp 4)])⟩,
    ⟨(some 59), none, (.call 34 3 [(.tmp 58)] [])⟩,
    ⟨(some 57), none, (.prim .mov [(.tmp 59)])⟩,
    ⟨(some 60), none, (.prim (.ext 0) [(.tmp 57)])⟩,
    ⟨(some 61), none, (.prim (.ext 1) [(.tmp 57)])⟩,
    ⟨(some 62), none, (.prim (.ext 2) [(.tmp 57)])⟩,
    ⟨(some 22), none, (.prim .mov [(.tmp 60)])⟩,
    ⟨(some 23), none, (.prim .mov [(.tmp 61)])⟩,
    ⟨(some 24), none, (.prim .mov [(.tmp 62)])⟩] [4, 57, 58, 59, 60, 61, 62])
  (.seq (.region [⟨(some 63), none, (.prim .load [(.tmp 5), (.const (.ptr []))])⟩,
    ⟨(some 64), none, (.call 35 1 [(.tmp 63)] [])⟩,
    ⟨(some 65), none, (.prim .load [(.tmp 5), (.const (.ptr []))])⟩,
    ⟨(some 66), none, (.call 36 1 [(.tmp 65)] [])⟩,
    ⟨(some 67), none, (.prim (.eqv false (.bool false)) [(.tmp 64), (.tmp 66)])⟩,
    ⟨(some 68), none, (.prim .mov [(.tmp 67)])⟩,
    ⟨(some 69), (some (68, true)), (.prim .load [(.tmp 11), (.const (.ptr []))])⟩,
    ⟨(some 70), (some (68, true)), (.prim .load [(.tmp 13), (.const (.ptr []))])⟩,
    ⟨(some 71), (some (68, true)), (.prim (.eqv false (.agg [(.int .i64 0), (.int .i64 0), (.int .u64 0)])) [(.tmp 69), (.tmp 70)])⟩,
    ⟨(some 72), none, (.pick (.tmp 68) (.tmp 71) (.const (.bool false)))⟩,
    ⟨(some 73), none, (.prim .mov [(.tmp 72)])⟩,
    ⟨(some 74), (some (73, true)), (.prim .mov [(.tmp 12)])⟩,
    ⟨(some 75), (some (73, true)), (.prim .mov [(.tmp 14)])⟩,
    ⟨(some 76), (some (73, true)), (.prim (.eqv false (.bool false)) [(.tmp 74), (.tmp 75)])⟩,
    ⟨(some 77), none, (.pick (.tmp 73) (.tmp 76) (.const (.bool false)))⟩,
    ⟨(some 78), none, (.prim .mov [(.tmp 77)])⟩,
    ⟨(some 79), (some (78, true)), (.prim .load [(.tmp 5), (.const (.ptr []))])⟩,
    ⟨(some 80), (some (78, true)), (.call 37 1 [(.tmp 79)] [])⟩,
    ⟨(some 81), (some (78, true)), (.prim .load [(.tmp 5), (.const (.ptr []))])⟩,
    ⟨(some 82), (some (78, true)), (.call 38 1 [(.tmp 81)] [])⟩,
    ⟨(some 83), (some (78, true)), (.prim (.eqv false (.agg [(.int .i64 0), (.int .i64 0), (.int .u64 0)])) [(.tmp 80), (.tmp 82)])⟩,
    ⟨(some 84), none, (.pick (.tmp 78) (.tmp 83) (.const (.bool false)))⟩,
    ⟨(some 85), none, (.prim .mov [(.tmp 84)])⟩,
    ⟨(some 86), (some (85, true)), (.prim .load [(.tmp 15), (.const (.ptr []))])⟩,
    ⟨(some 87), (some (85, true)), (.prim .load [(.tmp 17), (.const (.ptr []))])⟩,
    ⟨(some 88), (some (85, true)), (.prim (.eqv false (.agg [(.int .i64 0), (.int .i64 0), (.int .u64 0)])) [(.tmp 86), (.tmp 87)])⟩,
    ⟨(some 89), none, (.pick (.tmp 85) (.tmp 88) (.const (.bool false)))⟩,
    ⟨(some 90), none, (.prim .mov [(.tmp 89)])⟩,
    ⟨(some 91), (some (90, true)), (.prim .mov [(.tmp 16)])⟩,
    ⟨(some 92), (some (90, true)), (.prim .mov [(.tmp 18)])⟩,
    ⟨(some 93), (some (90, true)), (.prim (.eqv false (.bool false)) [(.tmp 91), (.tmp 92)])⟩,
    ⟨(some 94), none, (.pick (.tmp 90) (.tmp 93) (.const (.bool false)))⟩,
    ⟨(some 95), none, (.prim .mov [(.tmp 94)])⟩,
    ⟨(some 96), (some (95, true)), (.prim .load [(.tmp 5), (.const (.ptr []))])⟩,
    ⟨(some 97), (some (95, true)), (.call 39 1 [(.tmp 96)] [])⟩,
    ⟨(some 98), (some (95, true)), (.prim .load [(.tmp 5), (.const (.ptr []))])⟩,
    ⟨(some 99), (some (95, true)), (.call 40 1 [(.tmp 98)] [])⟩,
    ⟨(some 100), (some (95, true)), (.prim (.eqv false (.bool false)) [(.tmp 97), (.tmp 99)])⟩,
    ⟨(some 101), none, (.pick (.tmp 95) (.tmp 100) (.const (.bool false)))⟩,
    ⟨(some 102), none, (.prim .mov [(.tmp 101)])⟩,
    ⟨(some 103), (some (102, true)), (.prim .mov [(.tmp 2)])⟩,
    ⟨(some 104), (some (102, true)), (.prim .mov [(.tmp 3)])⟩,
    ⟨(some 105), (some (102, true)), (.call 41 1 [(.tmp 103), (.tmp 104)] [])⟩,
    ⟨(some 106), (some (102, true)), (.prim .mov [(.tmp 2)])⟩,
    ⟨(some 107), (some (102, true)), (.prim .mov [(.tmp 3)])⟩,
    ⟨(some 108), (some (102, true)), (.call 42 1 [(.tmp 106), (.tmp 107)] [])⟩,
    ⟨(some 109), (some (102, true)), (.prim (.bin .eql) [(.tmp 105), (.tmp 108)])⟩,
    ⟨(some 110), none, (.pick (.tmp 102) (.tmp 109) (.const (.bool false)))⟩,
    ⟨(some 111), none, (.prim .mov [(.tmp 110)])⟩,
    ⟨(some 112), (some (111, true)), (.prim .mov [(.tmp 19)])⟩,
    ⟨(some 113), (some (111, true)), (.prim .mov [(.tmp 22)])⟩,
    ⟨(some 114), (some (111, true)), (.prim (.bin .eql) [(.tmp 112), (.tmp 113)])⟩,
    ⟨(some 115), none, (.pick (.tmp 111) (.tmp 114) (.const (.bool false)))⟩,
    ⟨(some 116), none, (.prim .mov [(.tmp 115)])⟩,
    ⟨(some 117), (some (116, true)), (.prim .mov [(.tmp 20)])⟩,
    ⟨(some 118), (some (116, true)), (.prim .mov [(.tmp 23)])⟩,
    ⟨(some 119), (some (116, true)), (.prim (.bin .eql) [(.tmp 117), (.tmp 118)])⟩,
    ⟨(some 120), none, (.pick (.tmp 116) (.tmp 119) (.const (.bool false)))⟩,
    ⟨(some 121), none, (.prim .mov [(.tmp 120)])⟩,
    ⟨(some 122), (some (121, true)), (.prim .mov [(.tmp 21)])⟩,
    ⟨(some 123), (some (121, true)), (.prim .mov [(.tmp 24)])⟩,
    ⟨(some 124), (some (121, true)), (.prim (.eqv false (.bool false)) [(.tmp 122), (.tmp 123)])⟩,
    ⟨(some 125), none, (.pick (.tmp 121) (.tmp 124) (.const (.bool false)))⟩,
    ⟨(some 126), none, (.prim .mov [(.tmp 125)])⟩,
    ⟨(some 127), (some (126, true)), (.call 28 1 [] [])⟩,
    ⟨(some 128), none, (.pick (.tmp 126) (.tmp 127) (.const (.bool false)))⟩,
    ⟨(some 10), none, (.prim .mov [(.tmp 128)])⟩] [2, 3, 5, 11, 12, 13, 14, 15, 16, 17, 18, 19, 20, 21, 22, 23, 24, 63, 64, 65, 66, 67, 68, 69, 70, 71, 72, 73, 74, 75, 76, 77, 78, 79, 80, 81, 82, 83, 84, 85, 86, 87, 88, 89, 90, 91, 92, 93, 94, 95, 96, 97, 98, 99, 100, 101, 102, 103, 104, 105, 106, 107, 108, 109, 110, 111, 112, 113, 114, 115, 116, 117, 118, 119, 120, 121, 122, 123, 124, 125, 126, 127, 128])
  .ret))))))))), [10], []⟩
theorem c6 : compile Try.prog sg 6 = some F6 := by kernel_rfl

def kL7x2 : List Nat := [4, 5, 6, 7, 8, 12, 13, 14, 15, 16, 17, 18, 19, 20, 21, 22, 23, 24, 25, 26, 27, 28, 29, 30, 31, 32, 33, 34, 35, 36, 37, 38, 39, 40, 41, 42, 43, 44, 45, 46, 47, 48, 49, 50, 51, 52, 53, 54, 55, 56, 57, 58, 59, 60, 61, 62, 63, 64, 65, 66, 67, 68, 69, 70, 71, 72, 73, 74, 75, 76, 77, 78, 79, 80, 81, 82, 83, 84, 85, 86, 87, 88, 89, 90]
def L7x2 : VCode := (.seq (.seq (.region [⟨(some 45), none, (.prim .mov [(.tmp 11)])⟩,
    ⟨(some 46), none, (.prim .mov [(.tmp 1)])⟩,
    ⟨(some 47), none, (.prim (.bin .lss) [(.tmp 45), (.tmp 46)])⟩] [45, 46])
  (.cond (.tmp 47)
  .skip
  (.seq (.region [] [2, 3, 4, 5, 6, 7, 8, 11, 12, 13, 14, 15, 16, 17, 18, 19, 20, 21, 22, 23, 24, 25, 26, 27, 28, 29, 30, 31, 32, 33, 34, 35, 36, 37, 38, 39, 40, 41, 42, 43, 44, 45, 46, 47, 48, 49, 50, 51, 52, 53, 54, 55, 56, 57, 58, 59, 60, 61, 62, 63, 64, 65, 66, 67, 68, 69, 70, 71, 72, 73, 74, 75, 76, 77, 78, 79, 80, 81, 82, 83, 84, 85, 86, 87, 88, 89, 90])
  (.exit 0))))
  (.seq (.block 1 (.seq (.seq (.region [⟨(some 50), none, (.prim .load [(.tmp 9), (.const (.ptr []))])⟩,
    ⟨(some 51), none, (.call 39 1 [(.tmp 50)] [])⟩,
    ⟨(some 52), none, (.prim .mov [(.tmp 11)])⟩,
    ⟨(some 53), none, (.prim .mov [(.tmp 0)])⟩,
    ⟨(some 54), none, (.prim (.bin .geq) [(.tmp 52), (.tmp 53)])⟩,
    ⟨(some 55), none, (.prim (.eqv true (.bool false)) [(.tmp 51), (.tmp 54)])⟩] [47, 50, 51, 52, 53, 54])
  (.cond (.tmp 55)
  (.seq (.region [⟨(some 8), none, (.prim .mov [(.const (.bool false))])⟩] [0, 1, 2, 3, 9, 10, 11, 55])
  .ret)
  .skip))
  (.seq (.region [⟨(some 56), none, (.prim .load [(.tmp 9), (.const (.ptr []))])⟩,
    ⟨(some 57), none, (.call 37 1 [(.tmp 56)] [])⟩,
    ⟨none, none, (.store 9 none (.tmp 57))⟩] [55, 56, 57])
  (.seq (.region [⟨(some 58), none, (.prim .mov [(.tmp 11)])⟩,
    ⟨(some 59), none, (.prim .mov [(.tmp 3)])⟩,
    ⟨(some 60), none, (.prim .len [(.tmp 59)])⟩,
    ⟨(some 61), none, (.prim (.bin .lss) [(.tmp 58), (.tmp 60)])⟩] [58, 59, 60])
  (.cond (.tmp 61)
  (.seq (.region [⟨(some 63), none, (.prim .load [(.tmp 9), (.const (.ptr []))])⟩,
    ⟨(some 64), none, (.prim .mov [(.tmp 3)])⟩,
    ⟨(some 65), none, (.prim .mov [(.tmp 11)])⟩,
    ⟨(some 66), none, (.prim (.iptr []) [(.tmp 64), (.tmp 65)])⟩,
    ⟨(some 67), none, (.prim .load [(.tmp 64), (.tmp 66)])⟩,
    ⟨(some 68), none, (.prim .mov [(.tmp 2)])⟩,
    ⟨(some 69), none, (.prim .minI [(.tmp 67), (.tmp 68)])⟩,
    ⟨(some 70), none, (.call 31 2 [(.tmp 63), (.tmp 69)] [])⟩,
    ⟨(some 62), none, (.prim .mov [(.tmp 70)])⟩,
    ⟨(some 71), none, (.prim (.ext 0) [(.tmp 62)])⟩,
    ⟨(some 72), none, (.prim (.ext 1) [(.tmp 62)])⟩,
    ⟨(some 12), none, (.prim .mov [(.const (.agg [(.int .i64 0), (.int .i64 0), (.int .u64 0)]))])⟩,
    ⟨none, none, (.store 12 none (.tmp 71))⟩,
    ⟨(some 13), none, (.prim .mov [(.tmp 72)])⟩] [61, 62, 63, 64, 65, 66, 67, 68, 69, 70, 71, 72])
  (.seq (.region [⟨(some 73), none, (.prim .mov [(.tmp 13)])⟩,
    ⟨(some 74), none, (.prim .mov [(.tmp 73)])⟩,
    ⟨(some 75), (some (74, false)), (.prim .load [(.tmp 12), (.const (.ptr []))])⟩,
    ⟨(some 76), (some (74, false)), (.prim .load [(.tmp 9), (.const (.ptr []))])⟩,
    ⟨(some 77), (some (74, false)), (.prim (.eqv true (.agg [(.int .i64 0), (.int .i64 0), (.int .u64 0)])) [(.tmp 75), (.tmp 76)])⟩,
    ⟨(some 78), none, (.pick (.tmp 74) (.const (.bool true)) (.tmp 77))⟩] [12, 13, 73, 74])
  (.cond (.tmp 78)
  (.seq (.region [⟨(some 8), none, (.prim .mov [(.const (.bool false))])⟩] [0, 1, 2, 3, 9, 10, 11, 75, 76, 77, 78])
  .ret)
  .skip)))
  .skip)))))
  (.region [⟨(some 48), none, (.prim .mov [(.tmp 11)])⟩,
    ⟨(some 49), none, (.prim (.bin .add) [(.tmp 48), (.const (.int .i64 1))])⟩,
    ⟨(some 11), none, (.prim .mov [(.tmp 49)])⟩] [48, 49])))
def A7x1 : VCode := (.seq (.region [⟨(some 11), none, (.prim .mov [(.const (.int .i64 0))])⟩] [])
  (.block 0 (.loop kL7x2 L7x2)))
def B7x1 : VCode := (.seq (.region [⟨(some 79), none, (.prim .mov [(.tmp 10)])⟩,
    ⟨(some 80), none, (.prim .mov [(.tmp 79)])⟩,
    ⟨(some 81), (some (80, true)), (.prim .load [(.tmp 9), (.const (.ptr []))])⟩,
    ⟨(some 82), (some (80, true)), (.call 39 1 [(.tmp 81)] [])⟩,
    ⟨(some 83), (some (80, true)), (.prim .mov [(.tmp 1)])⟩,
    ⟨(some 84), (some (80, true)), (.prim .mov [(.tmp 0)])⟩,
    ⟨(some 85), (some (80, true)), (.prim (.bin .geq) [(.tmp 83), (.tmp 84)])⟩,
    ⟨(some 86), (some (80, true)), (.prim (.eqv false (.bool false)) [(.tmp 82), (.tmp 85)])⟩,
    ⟨(some 87), none, (.pick (.tmp 80) (.tmp 86) (.const (.bool false)))⟩,
    ⟨(some 88), none, (.prim .mov [(.tmp 87)])⟩,
    ⟨(some 89), (some (88, true)), (.call 28 1 [] [])⟩,
    ⟨(some 90), none, (.pick (.tmp 88) (.tmp 89) (.const (.bool false)))⟩,
    ⟨(some 8), none, (.prim .mov [(.tmp 90)])⟩] [0, 1, 9, 10, 79, 80, 81, 82, 83, 84, 85, 86, 87, 88, 89, 90])
  .ret)

/-- vmfleet/vmfleetlaw27.HeartLimit -/
def F7 : VFunc := ⟨91,
  (.seq (.region [⟨(some 8), none, (.prim .mov [(.const (.bool false))])⟩] [8])
  (.seq (.seq (.region [⟨(some 14), none, (.prim .mov [(.tmp 0)])⟩,
    ⟨(some 15), none, (.prim (.bin .lss) [(.tmp 14), (.const (.int .i64 1))])⟩,
    ⟨(some 16), none, (.prim .mov [(.tmp 15)])⟩,
    ⟨(some 17), (some (16, false)), (.prim .mov [(.tmp 0)])⟩,
    ⟨(some 18), (some (16, false)), (.prim (.bin .gtr) [(.tmp 17), (.const (.int .i64 20))])⟩,
    ⟨(some 19), none, (.pick (.tmp 16) (.const (.bool true)) (.tmp 18))⟩,
    ⟨(some 20), none, (.prim .mov [(.tmp 19)])⟩,
    ⟨(some 21), (some (20, false)), (.prim .mov [(.tmp 1)])⟩,
    ⟨(some 22), (some (20, false)), (.prim (.bin .lss) [(.tmp 21), (.const (.int .i64 0))])⟩,
    ⟨(some 23), none, (.pick (.tmp 20) (.const (.bool true)) (.tmp 22))⟩,
    ⟨(some 24), none, (.prim .mov [(.tmp 23)])⟩,
    ⟨(some 25), (some (24, false)), (.prim .mov [(.tmp 1)])⟩,
    ⟨(some 26), (some (24, false)), (.prim (.bin .gtr) [(.tmp 25), (.const (.int .i64 60))])⟩,
    ⟨(some 27), none, (.pick (.tmp 24) (.const (.bool true)) (.tmp 26))⟩,
    ⟨(some 28), none, (.prim .mov [(.tmp 27)])⟩,
    ⟨(some 29), (some (28, false)), (.prim .mov [(.tmp 3)])⟩,
    ⟨(some 30), (some (28, false)), (.prim .len [(.tmp 29)])⟩,
    ⟨(some 31), (some (28, false)), (.prim (.bin .gtr) [(.tmp 30), (.const (.int .i64 60))])⟩,
    ⟨(some 32), none, (.pick (.tmp 28) (.const (.bool true)) (.tmp 31))⟩] [14, 15, 16, 17, 18, 19, 20, 21, 22, 23, 24, 25, 26, 27, 28, 29, 30, 31])
  (.cond (.tmp 32)
  (.seq (.region [⟨(some 33), none, (.call 28 1 [] [])⟩,
    ⟨(some 8), none, (.prim .mov [(.tmp 33)])⟩] [0, 1, 2, 3, 32, 33])
  .ret)
  .skip))
  (.seq (.region [⟨(some 35), none, (.prim .mov [(.tmp 0)])⟩,
    ⟨(some 36), none, (.call 29 2 [(.tmp 35)] [])⟩,
    ⟨(some 34), none, (.prim .mov [(.tmp 36)])⟩,
    ⟨(some 37), none, (.prim (.ext 0) [(.tmp 34)])⟩,
    ⟨(some 38), none, (.prim (.ext 1) [(.tmp 34)])⟩,
    ⟨(some 9), none, (.prim .mov [(.const (.agg [(.int .i64 0), (.int .i64 0), (.int .u64 0)]))])⟩,
    ⟨none, none, (.store 9 none (.tmp 37))⟩,
    ⟨(some 10), none, (.prim .mov [(.tmp 38)])⟩] [32, 34, 35, 36, 37, 38])
  (.seq (.region [⟨(some 40), none, (.prim .load [(.tmp 9), (.const (.ptr []))])⟩,
    ⟨(some 41), none, (.prim .mov [(.tmp 2)])⟩,
    ⟨(some 42), none, (.call 31 2 [(.tmp 40), (.tmp 41)] [])⟩,
    ⟨(some 39), none, (.prim .mov [(.tmp 42)])⟩,
    ⟨(some 43), none, (.prim (.ext 0) [(.tmp 39)])⟩,
    ⟨(some 44), none, (.prim (.ext 1) [(.tmp 39)])⟩,
    ⟨none, none, (.store 9 none (.tmp 43))⟩] [39, 40, 41, 42, 43, 44])
  (.seq A7x1
  B7x1))))), [8], []⟩
theorem c7 : compile Try.prog sg 7 = some F7 := by kernel_rfl

def A8x4 : VCode := (.seq (.region [⟨(some 35), none, (.prim .mov [(.tmp 1)])⟩,
    ⟨(some 36), none, (.prim .mov [(.tmp 9)])⟩,
    ⟨(some 37), none, (.prim (.iptr []) [(.tmp 35), (.tmp 36)])⟩,
    ⟨(some 38), none, (.prim .load [(.tmp 35), (.tmp 37)])⟩,
    ⟨(some 39), none, (.call 21 1 [(.tmp 38), (.const (.int .i64 4))] [])⟩,
    ⟨(some 40), none, (.prim (.bin .eql) [(.tmp 39), (.const (.int .i64 0))])⟩] [32, 35, 36, 37, 38, 39])
  (.cond (.tmp 40)
  (.seq (.region [⟨(some 41), none, (.prim .mov [(.tmp 7)])⟩,
    ⟨(some 42), none, (.prim (.bin .add) [(.tmp 41), (.const (.int .u64 1))])⟩,
    ⟨(some 43), none, (.prim .mov [(.tmp 1)])⟩,
    ⟨(some 44), none, (.prim .mov [(.tmp 9)])⟩,
    ⟨(some 45), none, (.prim (.iptr []) [(.tmp 43), (.tmp 44)])⟩,
    ⟨(some 46), none, (.prim .load [(.tmp 43), (.tmp 45)])⟩,
    ⟨(some 47), none, (.prim (.bin .quo) [(.tmp 46), (.const (.int .i64 4))])⟩,
    ⟨(some 48), none, (.call 21 1 [(.tmp 47), (.const (.int .i64 3))] [])⟩,
    ⟨(some 49), none, (.prim (.toInt .u64) [(.tmp 48)])⟩,
    ⟨(some 50), none, (.prim (.bin .add) [(.tmp 42), (.tmp 49)])⟩,
    ⟨(some 7), none, (.prim .mov [(.tmp 50)])⟩] [8, 40, 41, 42, 43, 44, 45, 46, 47, 48, 49, 50])
  (.seq (.region [⟨(some 52), none, (.prim .load [(.tmp 5), (.const (.ptr []))])⟩,
    ⟨(some 53), none, (.prim .mov [(.tmp 7)])⟩,
    ⟨(some 54), none, (.call 31 2 [(.tmp 52), (.tmp 53)] [])⟩,
    ⟨(some 51), none, (.prim .mov [(.tmp 54)])⟩,
    ⟨(some 55), none, (.prim (.ext 0) [(.tmp 51)])⟩,
    ⟨(some 56), none, (.prim (.ext 1) [(.tmp 51)])⟩,
    ⟨(some 10), none, (.prim .mov [(.const (.agg [(.int .i64 0), (.int .i64 0), (.int .u64 0)]))])⟩,
    ⟨none, none, (.store 10 none (.tmp 55))⟩,
    ⟨(some 11), none, (.prim .mov [(.tmp 56)])⟩] [51, 52, 53, 54, 55, 56])
  (.seq (.seq (.region [⟨(some 57), none, (.prim .mov [(.tmp 11)])⟩,
    ⟨(some 58), none, (.prim (.un .not) [(.tmp 57)])⟩] [11, 57])
  (.cond (.tmp 58)
  (.seq (.region [⟨(some 4), none, (.prim .mov [(.const (.bool false))])⟩] [0, 1, 5, 6, 7, 9, 10, 58])
  .ret)
  .skip))
  (.region [⟨(some 59), none, (.prim .load [(.tmp 10), (.const (.ptr []))])⟩,
    ⟨none, none, (.store 5 none (.tmp 59))⟩,
    ⟨(some 8), none, (.prim .mov [(.const (.int .i64 0))])⟩] [10, 58, 59]))))
  (.seq (.region [⟨(some 60), none, (.prim .load [(.tmp 5), (.const (.ptr []))])⟩,
    ⟨(some 61), none, (.call 37 1 [(.tmp 60)] [])⟩,
    ⟨none, none, (.store 5 none (.tmp 61))⟩] [40, 60, 61])
  (.region [⟨(some 62), none, (.prim .mov [(.tmp 8)])⟩,
    ⟨(some 63), none, (.prim (.bin .add) [(.tmp 62), (.const (.int .i64 1))])⟩,
    ⟨(some 8), none, (.prim .mov [(.tmp 63)])⟩] [62, 63]))))
def B8x4 : VCode := (.seq (.region [⟨(some 64), none, (.prim .load [(.tmp 5), (.const (.ptr []))])⟩,
    ⟨(some 65), none, (.call 39 1 [(.tmp 64)] [])⟩,
    ⟨(some 66), none, (.prim .mov [(.tmp 8)])⟩,
    ⟨(some 67), none, (.prim .mov [(.tmp 0)])⟩,
    ⟨(some 68), none, (.prim (.bin .geq) [(.tmp 66), (.tmp 67)])⟩,
    ⟨(some 69), none, (.prim (.eqv true (.bool false)) [(.tmp 65), (.tmp 68)])⟩,
    ⟨(some 70), none, (.prim .mov [(.tmp 69)])⟩,
    ⟨(some 71), (some (70, false)), (.prim (.fptr 2) [(.const (.ptr []))])⟩,
    ⟨(some 72), (some (70, false)), (.prim .load [(.tmp 5), (.tmp 71)])⟩,
    ⟨(some 73), (some (70, false)), (.prim .mov [(.tmp 7)])⟩,
    ⟨(some 74), (some (70, false)), (.prim (.bin .neq) [(.tmp 72), (.tmp 73)])⟩,
    ⟨(some 75), none, (.pick (.tmp 70) (.const (.bool true)) (.tmp 74))⟩] [64, 65, 66, 67, 68, 69, 70])
  (.cond (.tmp 75)
  (.seq (.region [⟨(some 4), none, (.prim .mov [(.const (.bool false))])⟩] [0, 1, 5, 6, 7, 8, 9, 71, 72, 73, 74, 75])
  .ret)
  .skip))
def A8x3 : VCode := (.block 1 (.seq A8x4
  B8x4))
def B8x3 : VCode := (.region [⟨(some 33), none, (.prim .mov [(.tmp 9)])⟩,
    ⟨(some 34), none, (.prim (.bin .add) [(.tmp 33), (.const (.int .i64 1))])⟩,
    ⟨(some 9), none, (.prim .mov [(.tmp 34)])⟩] [33, 34, 75])
def kL8x2 : List Nat := [2, 3, 4, 10, 11, 12, 13, 14, 15, 16, 17, 18, 19, 20, 21, 22, 23, 24, 25, 26, 27, 28, 29, 30, 31, 32, 33, 34, 35, 36, 37, 38, 39, 40, 41, 42, 43, 44, 45, 46, 47, 48, 49, 50, 51, 52, 53, 54, 55, 56, 57, 58, 59, 60, 61, 62, 63, 64, 65, 66, 67, 68, 69, 70, 71, 72, 73, 74, 75, 76, 77, 78, 79]
def L8x2 : VCode := (.seq (.seq (.region [⟨(some 29), none, (.prim .mov [(.tmp 9)])⟩,
    ⟨(some 30), none, (.prim .mov [(.tmp 1)])⟩,
    ⟨(some 31), none, (.prim .len [(.tmp 30)])⟩,
    ⟨(some 32), none, (.prim (.bin .lss) [(.tmp 29), (.tmp 31)])⟩] [29, 30, 31])
  (.cond (.tmp 32)
  .skip
  (.seq (.region [] [0, 1, 2, 3, 4, 5, 7, 8, 9, 10, 11, 12, 13, 14, 15, 16, 17, 18, 19, 20, 21, 22, 23, 24, 25, 26, 27, 28, 29, 30, 31, 32, 33, 34, 35, 36, 37, 38, 39, 40, 41, 42, 43, 44, 45, 46, 47, 48, 49, 50, 51, 52, 53, 54, 55, 56, 57, 58, 59, 60, 61, 62, 63, 64, 65, 66, 67, 68, 69, 70, 71, 72, 73, 74, 75, 76, 77, 78, 79])
  (.exit 0))))
  (.seq A8x3
  B8x3))
def A8x1 : VCode := (.seq (.region [⟨(some 9), none, (.prim .mov [(.const (.int .i64 0))])⟩] [])
  (.block 0 (.loop kL8x2 L8x2)))
def B8x1 : VCode := (.seq (.region [⟨(some 76), none, (.prim .mov [(.tmp 6)])⟩,
    ⟨(some 77), none, (.prim .mov [(.tmp 76)])⟩,
    ⟨(some 78), (some (77, true)), (.call 28 1 [] [])⟩,
    ⟨(some 79), none, (.pick (.tmp 77) (.tmp 78) (.const (.bool false)))⟩,
    ⟨(some 4), none, (.prim .mov [(.tmp 79)])⟩] [6, 76, 77, 78, 79])
  .ret)

/-- vmfleet/vmfleetlaw27.HeartAlive -/
def F8 : VFunc := ⟨80,
  (.seq (.region [⟨(some 4), none, (.prim .mov [(.const (.bool false))])⟩] [4])
  (.seq (.seq (.region [⟨(some 12), none, (.prim .mov [(.tmp 0)])⟩,
    ⟨(some 13), none, (.prim (.bin .lss) [(.tmp 12), (.const (.int .i64 1))])⟩,
    ⟨(some 14), none, (.prim .mov [(.tmp 13)])⟩,
    ⟨(some 15), (some (14, false)), (.prim .mov [(.tmp 0)])⟩,
    ⟨(some 16), (some (14, false)), (.prim (.bin .gtr) [(.tmp 15), (.const (.int .i64 20))])⟩,
    ⟨(some 17), none, (.pick (.tmp 14) (.const (.bool true)) (.tmp 16))⟩,
    ⟨(some 18), none, (.prim .mov [(.tmp 17)])⟩,
    ⟨(some 19), (some (18, false)), (.prim .mov [(.tmp 1)])⟩,
    ⟨(some 20), (some (18, false)), (.prim .len [(.tmp 19)])⟩,
    ⟨(some 21), (some (18, false)), (.prim (.bin .gtr) [(.tmp 20), (.const (.int .i64 100))])⟩,
    ⟨(some 22), none, (.pick (.tmp 18) (.const (.bool true)) (.tmp 21))⟩] [12, 13, 14, 15, 16, 17, 18, 19, 20, 21])
  (.cond (.tmp 22)
  (.seq (.region [⟨(some 23), none, (.call 28 1 [] [])⟩,
    ⟨(some 4), none, (.prim .mov [(.tmp 23)])⟩] [0, 1, 22, 23])
  .ret)
  .skip))
  (.seq (.region [⟨(some 25), none, (.prim .mov [(.tmp 0)])⟩,
    ⟨(some 26), none, (.call 29 2 [(.tmp 25)] [])⟩,
    ⟨(some 24), none, (.prim .mov [(.tmp 26)])⟩,
    ⟨(some 27), none, (.prim (.ext 0) [(.tmp 24)])⟩,
    ⟨(some 28), none, (.prim (.ext 1) [(.tmp 24)])⟩,
    ⟨(some 5), none, (.prim .mov [(.const (.agg [(.int .i64 0), (.int .i64 0), (.int .u64 0)]))])⟩,
    ⟨none, none, (.store 5 none (.tmp 27))⟩,
    ⟨(some 6), none, (.prim .mov [(.tmp 28)])⟩] [22, 24, 25, 26, 27, 28])
  (.seq (.region [⟨(some 7), none, (.prim .mov [(.const (.int .u64 0))])⟩,
    ⟨(some 8), none, (.prim .mov [(.const (.int .i64 0))])⟩] [])
  (.seq A8x1
  B8x1))))), [4], []⟩
theorem c8 : compile Try.prog sg 8 = some F8 := by kernel_rfl


/-- vmfleet/vmfleetlaw27.HeartPackets -/
def F9 : VFunc := ⟨75,
  (.seq (.region [⟨(some 6), none, (.prim .mov [(.const (.bool false))])⟩] [6])
  (.seq (.region [⟨(some 16), none, (.prim .mov [(.tmp 0)])⟩,
    ⟨(some 17), none, (.prim .mov [(.tmp 1)])⟩,
    ⟨(some 18), none, (.call 41 1 [(.tmp 16), (.tmp 17)] [])⟩,
    ⟨(some 7), none, (.prim .mov [(.tmp 18)])⟩] [16, 17, 18])
  (.seq (.region [⟨(some 20), none, (.prim .mov [(.tmp 7)])⟩,
    ⟨(some 21), none, (.call 33 3 [(.tmp 20)] [])⟩,
    ⟨(some 19), none, (.prim .mov [(.tmp 21)])⟩,
    ⟨(some 22), none, (.prim (.ext 0) [(.tmp 19)])⟩,
    ⟨(some 23), none, (.prim (.ext 1) [(.tmp 19)])⟩,
    ⟨(some 24), none, (.prim (.ext 2) [(.tmp 19)])⟩,
    ⟨(some 8), none, (.prim .mov [(.tmp 22)])⟩,
    ⟨(some 9), none, (.prim .mov [(.tmp 23)])⟩,
    ⟨(some 10), none, (.prim .mov [(.tmp 24)])⟩] [19, 20, 21, 22, 23, 24])
  (.seq (.seq (.region [⟨(some 25), none, (.prim .mov [(.tmp 10)])⟩,
    ⟨(some 26), none, (.prim (.un .not) [(.tmp 25)])⟩,
    ⟨(some 27), none, (.prim .mov [(.tmp 26)])⟩,
    ⟨(some 28), (some (27, false)), (.prim .mov [(.tmp 8)])⟩,
    ⟨(some 29), (some (27, false)), (.prim .mov [(.tmp 0)])⟩,
    ⟨(some 30), (some (27, false)), (.prim (.bin .neq) [(.tmp 28), (.tmp 29)])⟩,
    ⟨(some 31), none, (.pick (.tmp 27) (.const (.bool true)) (.tmp 30))⟩,
    ⟨(some 32), none, (.prim .mov [(.tmp 31)])⟩,
    ⟨(some 33), (some (32, false)), (.prim .mov [(.tmp 9)])⟩,
    ⟨(some 34), (some (32, false)), (.prim .mov [(.tmp 1)])⟩,
    ⟨(some 35), (some (32, false)), (.prim (.bin .neq) [(.tmp 33), (.tmp 34)])⟩,
    ⟨(some 36), none, (.pick (.tmp 32) (.const (.bool true)) (.tmp 35))⟩,
    ⟨(some 37), none, (.prim .mov [(.tmp 36)])⟩,
    ⟨(some 38), (some (37, false)), (.prim .mov [(.tmp 7)])⟩,
    ⟨(some 39), (some (37, false)), (.prim .len [(.tmp 38)])⟩,
    ⟨(some 40), (some (37, false)), (.prim (.bin .eql) [(.tmp 39), (.const (.int .i64 0))])⟩,
    ⟨(some 41), none, (.pick (.tmp 37) (.const (.bool true)) (.tmp 40))⟩] [0, 1, 8, 9, 10, 25, 26, 27, 28, 29, 30, 31, 32, 33, 34, 35, 36, 37, 38, 39, 40])
  (.cond (.tmp 41)
  (.seq (.region [⟨(some 6), none, (.prim .mov [(.const (.bool false))])⟩] [2, 7, 41])
  .ret)
  .skip))
  (.seq (.region [⟨(some 42), none, (.prim .mov [(.tmp 7)])⟩,
    ⟨(some 43), none, (.prim .toBytes [(.tmp 42)])⟩,
    ⟨(some 11), none, (.prim .mov [(.tmp 43)])⟩] [7, 41, 42, 43])
  (.seq (.region [⟨(some 44), none, (.prim .mov [(.tmp 2)])⟩,
    ⟨(some 45), none, (.prim .mov [(.tmp 11)])⟩,
    ⟨(some 46), none, (.prim .len [(.tmp 45)])⟩,
    ⟨(some 47), none, (.prim (.bin .mul) [(.const (.int .i64 8)), (.tmp 46)])⟩,
    ⟨(some 48), none, (.call 21 1 [(.tmp 44), (.tmp 47)] [])⟩,
    ⟨(some 12), none, (.prim .mov [(.tmp 48)])⟩] [2, 44, 45, 46, 47, 48])
  (.seq (.region [⟨(some 49), none, (.prim .mov [(.tmp 11)])⟩,
    ⟨(some 50), none, (.prim .mov [(.tmp 12)])⟩,
    ⟨(some 51), none, (.prim (.bin .quo) [(.tmp 50), (.const (.int .i64 8))])⟩,
    ⟨(some 52), none, (.prim .mov [(.tmp 11)])⟩,
    ⟨(some 53), none, (.prim .mov [(.tmp 12)])⟩,
    ⟨(some 54), none, (.prim (.bin .quo) [(.tmp 53), (.const (.int .i64 8))])⟩,
    ⟨(some 55), none, (.prim (.iptr []) [(.tmp 52), (.tmp 54)])⟩,
    ⟨(some 56), none, (.prim .load [(.tmp 11), (.tmp 55)])⟩,
    ⟨(some 57), none, (.prim .mov [(.tmp 12)])⟩,
    ⟨(some 58), none, (.prim (.bin .rem) [(.tmp 57), (.const (.int .i64 8))])⟩,
    ⟨(some 59), none, (.prim (.toInt .u64) [(.tmp 58)])⟩,
    ⟨(some 60), none, (.prim (.bin .shl) [(.const (.int .u8 1)), (.tmp 59)])⟩,
    ⟨(some 61), none, (.prim (.bin .xor) [(.tmp 56), (.tmp 60)])⟩,
    ⟨(some 62), none, (.prim (.iptr []) [(.tmp 49), (.tmp 51)])⟩,
    ⟨none, none, (.store 11 (some 62) (.tmp 61))⟩] [12, 50, 51, 53, 54, 55, 56, 57, 58, 59, 60, 61, 62])
  (.seq (.region [⟨(some 64), none, (.prim .mov [(.tmp 11)])⟩,
    ⟨(some 65), none, (.prim .toStr [(.tmp 64)])⟩,
    ⟨(some 66), none, (.call 33 3 [(.tmp 65)] [])⟩,
    ⟨(some 63), none, (.prim .mov [(.tmp 66)])⟩,
    ⟨(some 67), none, (.prim (.ext 0) [(.tmp 63)])⟩,
    ⟨(some 68), none, (.prim (.ext 1) [(.tmp 63)])⟩,
    ⟨(some 69), none, (.prim (.ext 2) [(.tmp 63)])⟩,
    ⟨(some 13), none, (.prim .mov [(.tmp 67)])⟩,
    ⟨(some 14), none, (.prim .mov [(.tmp 68)])⟩,
    ⟨(some 15), none, (.prim .mov [(.tmp 69)])⟩] [11, 13, 14, 63, 64, 65, 66, 67, 68, 69])
  (.seq (.region [⟨(some 70), none, (.prim .mov [(.tmp 15)])⟩,
    ⟨(some 71), none, (.prim (.un .not) [(.tmp 70)])⟩,
    ⟨(some 72), none, (.prim .mov [(.tmp 71)])⟩,
    ⟨(some 73), (some (72, true)), (.call 28 1 [] [])⟩,
    ⟨(some 74), none, (.pick (.tmp 72) (.tmp 73) (.const (.bool false)))⟩,
    ⟨(some 6), none, (.prim .mov [(.tmp 74)])⟩] [15, 70, 71, 72, 73, 74])
  .ret))))))))), [6], []⟩
theorem c9 : compile Try.prog sg 9 = some F9 := by kernel_rfl


/-- vmfleet/vmfleetmake.Round -/
def F21 : VFunc := ⟨15,
  (.seq (.region [⟨(some 4), none, (.prim .mov [(.const (.int .i64 0))])⟩] [4])
  (.seq (.region [⟨(some 6), none, (.prim .mov [(.tmp 0)])⟩,
    ⟨(some 7), none, (.prim .mov [(.tmp 1)])⟩,
    ⟨(some 8), none, (.prim (.bin .rem) [(.tmp 6), (.tmp 7)])⟩,
    ⟨(some 5), none, (.prim .mov [(.tmp 8)])⟩] [0, 6, 7, 8])
  (.seq (.seq (.region [⟨(some 9), none, (.prim .mov [(.tmp 5)])⟩,
    ⟨(some 10), none, (.prim (.bin .lss) [(.tmp 9), (.const (.int .i64 0))])⟩] [9])
  (.cond (.tmp 10)
  (.region [⟨(some 11), none, (.prim .mov [(.tmp 5)])⟩,
    ⟨(some 12), none, (.prim .mov [(.tmp 1)])⟩,
    ⟨(some 13), none, (.prim (.bin .add) [(.tmp 11), (.tmp 12)])⟩,
    ⟨(some 5), none, (.prim .mov [(.tmp 13)])⟩] [1, 10, 11, 12, 13])
  .skip))
  (.seq (.region [⟨(some 14), none, (.prim .mov [(.tmp 5)])⟩,
    ⟨(some 4), none, (.prim .mov [(.tmp 14)])⟩] [5, 14])
  .ret)))), [4], []⟩
theorem c21 : compile Try.prog sg 21 = some F21 := by kernel_rfl


/-- vmfleet/vmfleetlaw27.awake -/
def F28 : VFunc := ⟨51,
  (.seq (.region [⟨(some 0), none, (.prim .mov [(.const (.bool false))])⟩] [0])
  (.seq (.region [⟨(some 9), none, (.call 29 2 [(.const (.int .i64 2))] [])⟩,
    ⟨(some 8), none, (.prim .mov [(.tmp 9)])⟩,
    ⟨(some 10), none, (.prim (.ext 0) [(.tmp 8)])⟩,
    ⟨(some 11), none, (.prim (.ext 1) [(.tmp 8)])⟩,
    ⟨(some 1), none, (.prim .mov [(.const (.agg [(.int .i64 0), (.int .i64 0), (.int .u64 0)]))])⟩,
    ⟨none, none, (.store 1 none (.tmp 10))⟩,
    ⟨(some 2), none, (.prim .mov [(.tmp 11)])⟩] [8, 9, 10, 11])
  (.seq (.region [⟨(some 12), none, (.prim .load [(.tmp 1), (.const (.ptr []))])⟩,
    ⟨(some 13), none, (.call 37 1 [(.tmp 12)] [])⟩,
    ⟨(some 14), none, (.call 37 1 [(.tmp 13)] [])⟩,
    ⟨none, none, (.store 1 none (.tmp 14))⟩] [12, 13, 14])
  (.seq (.region [⟨(some 15), none, (.prim .load [(.tmp 1), (.const (.ptr []))])⟩,
    ⟨(some 16), none, (.call 39 1 [(.tmp 15)] [])⟩,
    ⟨(some 3), none, (.prim .mov [(.tmp 16)])⟩] [15, 16])
  (.seq (.region [⟨(some 18), none, (.prim .load [(.tmp 1), (.const (.ptr []))])⟩,
    ⟨(some 19), none, (.call 31 2 [(.tmp 18), (.const (.int .u64 1))] [])⟩,
    ⟨(some 17), none, (.prim .mov [(.tmp 19)])⟩,
    ⟨(some 20), none, (.prim (.ext 0) [(.tmp 17)])⟩,
    ⟨(some 21), none, (.prim (.ext 1) [(.tmp 17)])⟩,
    ⟨none, none, (.store 1 none (.tmp 20))⟩,
    ⟨(some 4), none, (.prim .mov [(.tmp 21)])⟩] [17, 18, 19, 20, 21])
  (.seq (.region [⟨(some 23), none, (.call 41 1 [(.const (.int .u64 7)), (.const (.int .u64 300))] [])⟩,
    ⟨(some 24), none, (.call 33 3 [(.tmp 23)] [])⟩,
    ⟨(some 22), none, (.prim .mov [(.tmp 24)])⟩,
    ⟨(some 25), none, (.prim (.ext 0) [(.tmp 22)])⟩,
    ⟨(some 26), none, (.prim (.ext 1) [(.tmp 22)])⟩,
    ⟨(some 27), none, (.prim (.ext 2) [(.tmp 22)])⟩,
    ⟨(some 5), none, (.prim .mov [(.tmp 25)])⟩,
    ⟨(some 6), none, (.prim .mov [(.tmp 26)])⟩,
    ⟨(some 7), none, (.prim .mov [(.tmp 27)])⟩] [22, 23, 24, 25, 26, 27])
  (.seq (.region [⟨(some 28), none, (.prim .mov [(.tmp 2)])⟩,
    ⟨(some 29), none, (.prim .mov [(.tmp 28)])⟩,
    ⟨(some 30), (some (29, true)), (.prim .mov [(.tmp 3)])⟩,
    ⟨(some 31), none, (.pick (.tmp 29) (.tmp 30) (.const (.bool false)))⟩,
    ⟨(some 32), none, (.prim .mov [(.tmp 31)])⟩,
    ⟨(some 33), (some (32, true)), (.prim .mov [(.tmp 4)])⟩,
    ⟨(some 34), none, (.pick (.tmp 32) (.tmp 33) (.const (.bool false)))⟩,
    ⟨(some 35), none, (.prim .mov [(.tmp 34)])⟩,
    ⟨(some 36), (some (35, true)), (.prim .load [(.tmp 1), (.const (.ptr []))])⟩,
    ⟨(some 37), (some (35, true)), (.call 39 1 [(.tmp 36)] [])⟩,
    ⟨(some 38), (some (35, true)), (.prim (.un .not) [(.tmp 37)])⟩,
    ⟨(some 39), none, (.pick (.tmp 35) (.tmp 38) (.const (.bool false)))⟩,
    ⟨(some 40), none, (.prim .mov [(.tmp 39)])⟩,
    ⟨(some 41), (some (40, true)), (.prim .mov [(.tmp 5)])⟩,
    ⟨(some 42), (some (40, true)), (.prim (.bin .eql) [(.tmp 41), (.const (.int .u64 7))])⟩,
    ⟨(some 43), none, (.pick (.tmp 40) (.tmp 42) (.const (.bool false)))⟩,
    ⟨(some 44), none, (.prim .mov [(.tmp 43)])⟩,
    ⟨(some 45), (some (44, true)), (.prim .mov [(.tmp 6)])⟩,
    ⟨(some 46), (some (44, true)), (.prim (.bin .eql) [(.tmp 45), (.const (.int .u64 300))])⟩,
    ⟨(some 47), none, (.pick (.tmp 44) (.tmp 46) (.const (.bool false)))⟩,
    ⟨(some 48), none, (.prim .mov [(.tmp 47)])⟩,
    ⟨(some 49), (some (48, true)), (.prim .mov [(.tmp 7)])⟩,
    ⟨(some 50), none, (.pick (.tmp 48) (.tmp 49) (.const (.bool false)))⟩,
    ⟨(some 0), none, (.prim .mov [(.tmp 50)])⟩] [1, 2, 3, 4, 5, 6, 7, 28, 29, 30, 31, 32, 33, 34, 35, 36, 37, 38, 39, 40, 41, 42, 43, 44, 45, 46, 47, 48, 49, 50])
  .ret))))))), [0], []⟩
theorem c28 : compile Try.prog sg 28 = some F28 := by kernel_rfl


/-- vmfleet/heartbeat.New -/
def F29 : VFunc := ⟨12,
  (.seq (.region [⟨(some 2), none, (.prim .mov [(.const (.agg [(.int .i64 0), (.int .i64 0), (.int .u64 0)]))])⟩,
    ⟨(some 3), none, (.prim .mov [(.const (.bool false))])⟩] [3])
  (.seq (.region [⟨(some 5), none, (.prim .mov [(.tmp 0)])⟩,
    ⟨(some 6), none, (.prim (.build [(.int .i64 0), (.int .i64 0), (.int .u64 0)] [0]) [(.tmp 5)])⟩,
    ⟨(some 4), none, (.prim .mov [(.const (.agg [(.int .i64 0), (.int .i64 0), (.int .u64 0)]))])⟩,
    ⟨none, none, (.store 4 none (.tmp 6))⟩] [0, 5, 6])
  (.seq (.seq (.region [⟨(some 7), none, (.prim .load [(.tmp 4), (.const (.ptr []))])⟩,
    ⟨(some 8), none, (.call 35 1 [(.tmp 7)] [])⟩,
    ⟨(some 9), none, (.prim (.un .not) [(.tmp 8)])⟩] [7, 8])
  (.cond (.tmp 9)
  (.seq (.region [⟨(some 10), none, (.prim (.build [(.int .i64 0), (.int .i64 0), (.int .u64 0)] []) [])⟩,
    ⟨none, none, (.store 2 none (.tmp 10))⟩,
    ⟨(some 3), none, (.prim .mov [(.const (.bool false))])⟩] [4, 9, 10])
  .ret)
  .skip))
  (.seq (.region [⟨(some 11), none, (.prim .load [(.tmp 4), (.const (.ptr []))])⟩,
    ⟨none, none, (.store 2 none (.tmp 11))⟩,
    ⟨(some 3), none, (.prim .mov [(.const (.bool true))])⟩] [4, 9, 11])
  .ret)))), [2, 3], []⟩
theorem c29 : compile Try.prog sg 29 = some F29 := by kernel_rfl


/-- vmfleet/vmfleetref24.NewDetector -/
def F30 : VFunc := ⟨12,
  (.seq (.region [⟨(some 2), none, (.prim .mov [(.const (.agg [(.int .i64 0), (.int .i64 0), (.int .u64 0)]))])⟩,
    ⟨(some 3), none, (.prim .mov [(.const (.bool false))])⟩] [3])
  (.seq (.region [⟨(some 5), none, (.prim .mov [(.tmp 0)])⟩,
    ⟨(some 6), none, (.prim (.build [(.int .i64 0), (.int .i64 0), (.int .u64 0)] [0]) [(.tmp 5)])⟩,
    ⟨(some 4), none, (.prim .mov [(.const (.agg [(.int .i64 0), (.int .i64 0), (.int .u64 0)]))])⟩,
    ⟨none, none, (.store 4 none (.tmp 6))⟩] [0, 5, 6])
  (.seq (.seq (.region [⟨(some 7), none, (.prim .load [(.tmp 4), (.const (.ptr []))])⟩,
    ⟨(some 8), none, (.call 36 1 [(.tmp 7)] [])⟩,
    ⟨(some 9), none, (.prim (.un .not) [(.tmp 8)])⟩] [7, 8])
  (.cond (.tmp 9)
  (.seq (.region [⟨(some 10), none, (.prim (.build [(.int .i64 0), (.int .i64 0), (.int .u64 0)] []) [])⟩,
    ⟨none, none, (.store 2 none (.tmp 10))⟩,
    ⟨(some 3), none, (.prim .mov [(.const (.bool false))])⟩] [4, 9, 10])
  .ret)
  .skip))
  (.seq (.region [⟨(some 11), none, (.prim .load [(.tmp 4), (.const (.ptr []))])⟩,
    ⟨none, none, (.store 2 none (.tmp 11))⟩,
    ⟨(some 3), none, (.prim .mov [(.const (.bool true))])⟩] [4, 9, 11])
  .ret)))), [2, 3], []⟩
theorem c30 : compile Try.prog sg 30 = some F30 := by kernel_rfl


/-- vmfleet/heartbeat.Beat -/
def F31 : VFunc := ⟨20,
  (.seq (.region [⟨(some 2), none, (.prim .mov [(.tmp 0)])⟩,
    ⟨(some 4), none, (.prim .mov [(.const (.agg [(.int .i64 0), (.int .i64 0), (.int .u64 0)]))])⟩,
    ⟨(some 5), none, (.prim .mov [(.const (.bool false))])⟩] [0, 5])
  (.seq (.seq (.region [⟨(some 6), none, (.prim .load [(.tmp 2), (.const (.ptr []))])⟩,
    ⟨(some 7), none, (.call 35 1 [(.tmp 6)] [])⟩,
    ⟨(some 8), none, (.prim (.un .not) [(.tmp 7)])⟩,
    ⟨(some 9), none, (.prim .mov [(.tmp 8)])⟩,
    ⟨(some 10), (some (9, false)), (.prim .mov [(.tmp 1)])⟩,
    ⟨(some 11), (some (9, false)), (.prim (.fptr 2) [(.const (.ptr []))])⟩,
    ⟨(some 12), (some (9, false)), (.prim .load [(.tmp 2), (.tmp 11)])⟩,
    ⟨(some 13), (some (9, false)), (.prim (.bin .leq) [(.tmp 10), (.tmp 12)])⟩,
    ⟨(some 14), none, (.pick (.tmp 9) (.const (.bool true)) (.tmp 13))⟩] [6, 7, 8, 9, 10, 11, 12, 13])
  (.cond (.tmp 14)
  (.seq (.region [⟨(some 15), none, (.prim .load [(.tmp 2), (.const (.ptr []))])⟩,
    ⟨none, none, (.store 4 none (.tmp 15))⟩,
    ⟨(some 5), none, (.prim .mov [(.const (.bool false))])⟩] [1, 2, 14, 15])
  .ret)
  .skip))
  (.seq (.region [⟨(some 16), none, (.prim .mov [(.tmp 1)])⟩,
    ⟨(some 17), none, (.prim (.fptr 2) [(.const (.ptr []))])⟩,
    ⟨none, none, (.store 2 (some 17) (.tmp 16))⟩] [1, 14, 16, 17])
  (.seq (.region [⟨(some 18), none, (.prim (.fptr 1) [(.const (.ptr []))])⟩,
    ⟨none, none, (.store 2 (some 18) (.const (.int .i64 0)))⟩] [18])
  (.seq (.region [⟨(some 19), none, (.prim .load [(.tmp 2), (.const (.ptr []))])⟩,
    ⟨none, none, (.store 4 none (.tmp 19))⟩,
    ⟨(some 5), none, (.prim .mov [(.const (.bool true))])⟩] [2, 19])
  .ret))))), [4, 5], []⟩
theorem c31 : compile Try.prog sg 31 = some F31 := by kernel_rfl


/-- vmfleet/vmfleetref24.Beat -/
def F32 : VFunc := ⟨20,
  (.seq (.region [⟨(some 2), none, (.prim .mov [(.tmp 0)])⟩,
    ⟨(some 4), none, (.prim .mov [(.const (.agg [(.int .i64 0), (.int .i64 0), (.int .u64 0)]))])⟩,
    ⟨(some 5), none, (.prim .mov [(.const (.bool false))])⟩] [0, 5])
  (.seq (.seq (.region [⟨(some 6), none, (.prim .load [(.tmp 2), (.const (.ptr []))])⟩,
    ⟨(some 7), none, (.call 36 1 [(.tmp 6)] [])⟩,
    ⟨(some 8), none, (.prim (.un .not) [(.tmp 7)])⟩,
    ⟨(some 9), none, (.prim .mov [(.tmp 8)])⟩,
    ⟨(some 10), (some (9, false)), (.prim .mov [(.tmp 1)])⟩,
    ⟨(some 11), (some (9, false)), (.prim (.fptr 2) [(.const (.ptr []))])⟩,
    ⟨(some 12), (some (9, false)), (.prim .load [(.tmp 2), (.tmp 11)])⟩,
    ⟨(some 13), (some (9, false)), (.prim (.bin .leq) [(.tmp 10), (.tmp 12)])⟩,
    ⟨(some 14), none, (.pick (.tmp 9) (.const (.bool true)) (.tmp 13))⟩] [6, 7, 8, 9, 10, 11, 12, 13])
  (.cond (.tmp 14)
  (.seq (.region [⟨(some 15), none, (.prim .load [(.tmp 2), (.const (.ptr []))])⟩,
    ⟨none, none, (.store 4 none (.tmp 15))⟩,
    ⟨(some 5), none, (.prim .mov [(.const (.bool false))])⟩] [1, 2, 14, 15])
  .ret)
  .skip))
  (.seq (.region [⟨(some 16), none, (.prim .mov [(.tmp 1)])⟩,
    ⟨(some 17), none, (.prim (.fptr 2) [(.const (.ptr []))])⟩,
    ⟨none, none, (.store 2 (some 17) (.tmp 16))⟩] [1, 14, 16, 17])
  (.seq (.region [⟨(some 18), none, (.prim (.fptr 1) [(.const (.ptr []))])⟩,
    ⟨none, none, (.store 2 (some 18) (.const (.int .i64 0)))⟩] [18])
  (.seq (.region [⟨(some 19), none, (.prim .load [(.tmp 2), (.const (.ptr []))])⟩,
    ⟨none, none, (.store 4 none (.tmp 19))⟩,
    ⟨(some 5), none, (.prim .mov [(.const (.bool true))])⟩] [2, 19])
  .ret))))), [4, 5], []⟩
theorem c32 : compile Try.prog sg 32 = some F32 := by kernel_rfl


/-- vmfleet/heartbeat.Parse -/
def F33 : VFunc := ⟨44,
  (.seq (.region [⟨(some 2), none, (.prim .mov [(.const (.int .u64 0))])⟩,
    ⟨(some 3), none, (.prim .mov [(.const (.int .u64 0))])⟩,
    ⟨(some 4), none, (.prim .mov [(.const (.bool false))])⟩] [2, 3, 4])
  (.seq (.region [⟨(some 10), none, (.prim .mov [(.tmp 0)])⟩,
    ⟨(some 11), none, (.call 48 3 [(.tmp 10)] [])⟩,
    ⟨(some 9), none, (.prim .mov [(.tmp 11)])⟩,
    ⟨(some 12), none, (.prim (.ext 0) [(.tmp 9)])⟩,
    ⟨(some 13), none, (.prim (.ext 1) [(.tmp 9)])⟩,
    ⟨(some 14), none, (.prim (.ext 2) [(.tmp 9)])⟩,
    ⟨(some 2), none, (.prim .mov [(.tmp 12)])⟩,
    ⟨(some 5), none, (.prim .mov [(.tmp 13)])⟩,
    ⟨(some 6), none, (.prim .mov [(.tmp 14)])⟩] [0, 9, 10, 11, 12, 13, 14])
  (.seq (.seq (.region [⟨(some 15), none, (.prim .mov [(.tmp 6)])⟩,
    ⟨(some 16), none, (.prim (.bin .neq) [(.tmp 15), (.const (.int .i64 0))])⟩,
    ⟨(some 17), none, (.prim .mov [(.tmp 16)])⟩,
    ⟨(some 18), (some (17, false)), (.prim .mov [(.tmp 5)])⟩,
    ⟨(some 19), (some (17, false)), (.prim (.bin .eql) [(.tmp 18), (.const (.str []))])⟩,
    ⟨(some 20), none, (.pick (.tmp 17) (.const (.bool true)) (.tmp 19))⟩,
    ⟨(some 21), none, (.prim .mov [(.tmp 20)])⟩,
    ⟨(some 22), (some (21, false)), (.prim .mov [(.tmp 5)])⟩,
    ⟨(some 23), (some (21, false)), (.prim .index [(.tmp 22), (.const (.int .i64 0))])⟩,
    ⟨(some 24), (some (21, false)), (.prim (.bin .neq) [(.tmp 23), (.const (.int .u8 72))])⟩,
    ⟨(some 25), none, (.pick (.tmp 21) (.const (.bool true)) (.tmp 24))⟩] [6, 15, 16, 17, 18, 19, 20, 21, 22, 23, 24])
  (.cond (.tmp 25)
  (.seq (.region [⟨(some 2), none, (.prim .mov [(.const (.int .u64 0))])⟩,
    ⟨(some 3), none, (.prim .mov [(.const (.int .u64 0))])⟩,
    ⟨(some 4), none, (.prim .mov [(.const (.bool false))])⟩] [5, 25])
  .ret)
  .skip))
  (.seq (.region [⟨(some 27), none, (.prim .mov [(.tmp 5)])⟩,
    ⟨(some 28), none, (.prim (.sl true false) [(.tmp 27), (.const (.int .i64 1))])⟩,
    ⟨(some 29), none, (.call 63 3 [(.tmp 28)] [])⟩,
    ⟨(some 26), none, (.prim .mov [(.tmp 29)])⟩,
    ⟨(some 30), none, (.prim (.ext 0) [(.tmp 26)])⟩,
    ⟨(some 31), none, (.prim (.ext 1) [(.tmp 26)])⟩,
    ⟨(some 32), none, (.prim (.ext 2) [(.tmp 26)])⟩,
    ⟨(some 3), none, (.prim .mov [(.tmp 30)])⟩,
    ⟨(some 7), none, (.prim .mov [(.tmp 31)])⟩,
    ⟨(some 8), none, (.prim .mov [(.tmp 32)])⟩] [25, 26, 27, 28, 29, 30, 31, 32])
  (.seq (.seq (.region [⟨(some 33), none, (.prim .mov [(.tmp 8)])⟩,
    ⟨(some 34), none, (.prim (.un .not) [(.tmp 33)])⟩,
    ⟨(some 35), none, (.prim .mov [(.tmp 34)])⟩,
    ⟨(some 36), (some (35, false)), (.prim .mov [(.tmp 7)])⟩,
    ⟨(some 37), (some (35, false)), (.prim .mov [(.tmp 5)])⟩,
    ⟨(some 38), (some (35, false)), (.prim .len [(.tmp 37)])⟩,
    ⟨(some 39), (some (35, false)), (.prim (.bin .sub) [(.tmp 38), (.const (.int .i64 1))])⟩,
    ⟨(some 40), (some (35, false)), (.prim (.bin .neq) [(.tmp 36), (.tmp 39)])⟩,
    ⟨(some 41), none, (.pick (.tmp 35) (.const (.bool true)) (.tmp 40))⟩] [5, 7, 8, 33, 34, 35, 36, 37, 38, 39, 40])
  (.cond (.tmp 41)
  (.seq (.region [⟨(some 2), none, (.prim .mov [(.const (.int .u64 0))])⟩,
    ⟨(some 3), none, (.prim .mov [(.const (.int .u64 0))])⟩,
    ⟨(some 4), none, (.prim .mov [(.const (.bool false))])⟩] [41])
  .ret)
  .skip))
  (.seq (.region [⟨(some 42), none, (.prim .mov [(.tmp 2)])⟩,
    ⟨(some 43), none, (.prim .mov [(.tmp 3)])⟩,
    ⟨(some 2), none, (.prim .mov [(.tmp 42)])⟩,
    ⟨(some 3), none, (.prim .mov [(.tmp 43)])⟩,
    ⟨(some 4), none, (.prim .mov [(.const (.bool true))])⟩] [41, 42, 43])
  .ret)))))), [2, 3, 4], []⟩
theorem c33 : compile Try.prog sg 33 = some F33 := by kernel_rfl


/-- vmfleet/vmfleetref24.ParseHeartbeat -/
def F34 : VFunc := ⟨36,
  (.seq (.region [⟨(some 2), none, (.prim .mov [(.const (.int .u64 0))])⟩,
    ⟨(some 3), none, (.prim .mov [(.const (.int .u64 0))])⟩,
    ⟨(some 4), none, (.prim .mov [(.const (.bool false))])⟩] [2, 3, 4])
  (.seq (.region [⟨(some 11), none, (.prim .mov [(.tmp 0)])⟩,
    ⟨(some 12), none, (.call 64 3 [(.tmp 11), (.const (.int .u8 72))] [])⟩,
    ⟨(some 10), none, (.prim .mov [(.tmp 12)])⟩,
    ⟨(some 13), none, (.prim (.ext 0) [(.tmp 10)])⟩,
    ⟨(some 14), none, (.prim (.ext 1) [(.tmp 10)])⟩,
    ⟨(some 15), none, (.prim (.ext 2) [(.tmp 10)])⟩,
    ⟨(some 5), none, (.prim .mov [(.tmp 13)])⟩,
    ⟨(some 6), none, (.prim .mov [(.tmp 14)])⟩,
    ⟨(some 7), none, (.prim .mov [(.tmp 15)])⟩] [10, 11, 12, 13, 14, 15])
  (.seq (.region [⟨(some 17), none, (.prim .mov [(.tmp 6)])⟩,
    ⟨(some 18), none, (.call 65 2 [(.tmp 17)] [])⟩,
    ⟨(some 16), none, (.prim .mov [(.tmp 18)])⟩,
    ⟨(some 19), none, (.prim (.ext 0) [(.tmp 16)])⟩,
    ⟨(some 20), none, (.prim (.ext 1) [(.tmp 16)])⟩,
    ⟨(some 8), none, (.prim .mov [(.tmp 19)])⟩,
    ⟨(some 9), none, (.prim .mov [(.tmp 20)])⟩] [6, 16, 17, 18, 19, 20])
  (.seq (.seq (.region [⟨(some 21), none, (.prim .mov [(.tmp 7)])⟩,
    ⟨(some 22), none, (.prim (.un .not) [(.tmp 21)])⟩,
    ⟨(some 23), none, (.prim .mov [(.tmp 22)])⟩,
    ⟨(some 24), (some (23, false)), (.prim .mov [(.tmp 9)])⟩,
    ⟨(some 25), (some (23, false)), (.prim (.un .not) [(.tmp 24)])⟩,
    ⟨(some 26), none, (.pick (.tmp 23) (.const (.bool true)) (.tmp 25))⟩,
    ⟨(some 27), none, (.prim .mov [(.tmp 26)])⟩,
    ⟨(some 28), (some (27, false)), (.prim .mov [(.tmp 5)])⟩,
    ⟨(some 29), (some (27, false)), (.prim .mov [(.tmp 8)])⟩,
    ⟨(some 30), (some (27, false)), (.call 42 1 [(.tmp 28), (.tmp 29)] [])⟩,
    ⟨(some 31), (some (27, false)), (.prim .mov [(.tmp 0)])⟩,
    ⟨(some 32), (some (27, false)), (.prim (.bin .neq) [(.tmp 30), (.tmp 31)])⟩,
    ⟨(some 33), none, (.pick (.tmp 27) (.const (.bool true)) (.tmp 32))⟩] [0, 7, 9, 21, 22, 23, 24, 25, 26, 27, 28, 29, 30, 31, 32])
  (.cond (.tmp 33)
  (.seq (.region [⟨(some 2), none, (.prim .mov [(.const (.int .u64 0))])⟩,
    ⟨(some 3), none, (.prim .mov [(.const (.int .u64 0))])⟩,
    ⟨(some 4), none, (.prim .mov [(.const (.bool false))])⟩] [5, 8, 33])
  .ret)
  .skip))
  (.seq (.region [⟨(some 34), none, (.prim .mov [(.tmp 5)])⟩,
    ⟨(some 35), none, (.prim .mov [(.tmp 8)])⟩,
    ⟨(some 2), none, (.prim .mov [(.tmp 34)])⟩,
    ⟨(some 3), none, (.prim .mov [(.tmp 35)])⟩,
    ⟨(some 4), none, (.prim .mov [(.const (.bool true))])⟩] [5, 8, 33, 34, 35])
  .ret))))), [2, 3, 4], []⟩
theorem c34 : compile Try.prog sg 34 = some F34 := by kernel_rfl


/-- vmfleet/heartbeat.Valid -/
def F35 : VFunc := ⟨23,
  (.seq (.region [⟨(some 1), none, (.prim .mov [(.tmp 0)])⟩,
    ⟨(some 2), none, (.prim .mov [(.const (.bool false))])⟩] [0, 2])
  (.seq (.region [⟨(some 3), none, (.prim (.fptr 0) [(.const (.ptr []))])⟩,
    ⟨(some 4), none, (.prim .load [(.tmp 1), (.tmp 3)])⟩,
    ⟨(some 5), none, (.prim (.bin .geq) [(.tmp 4), (.const (.int .i64 1))])⟩,
    ⟨(some 6), none, (.prim .mov [(.tmp 5)])⟩,
    ⟨(some 7), (some (6, true)), (.prim (.fptr 0) [(.const (.ptr []))])⟩,
    ⟨(some 8), (some (6, true)), (.prim .load [(.tmp 1), (.tmp 7)])⟩,
    ⟨(some 9), (some (6, true)), (.prim (.bin .leq) [(.tmp 8), (.const (.int .i64 20))])⟩,
    ⟨(some 10), none, (.pick (.tmp 6) (.tmp 9) (.const (.bool false)))⟩,
    ⟨(some 11), none, (.prim .mov [(.tmp 10)])⟩,
    ⟨(some 12), (some (11, true)), (.prim (.fptr 1) [(.const (.ptr []))])⟩,
    ⟨(some 13), (some (11, true)), (.prim .load [(.tmp 1), (.tmp 12)])⟩,
    ⟨(some 14), (some (11, true)), (.prim (.bin .geq) [(.tmp 13), (.const (.int .i64 0))])⟩,
    ⟨(some 15), none, (.pick (.tmp 11) (.tmp 14) (.const (.bool false)))⟩,
    ⟨(some 16), none, (.prim .mov [(.tmp 15)])⟩,
    ⟨(some 17), (some (16, true)), (.prim (.fptr 1) [(.const (.ptr []))])⟩,
    ⟨(some 18), (some (16, true)), (.prim .load [(.tmp 1), (.tmp 17)])⟩,
    ⟨(some 19), (some (16, true)), (.prim (.fptr 0) [(.const (.ptr []))])⟩,
    ⟨(some 20), (some (16, true)), (.prim .load [(.tmp 1), (.tmp 19)])⟩,
    ⟨(some 21), (some (16, true)), (.prim (.bin .leq) [(.tmp 18), (.tmp 20)])⟩,
    ⟨(some 22), none, (.pick (.tmp 16) (.tmp 21) (.const (.bool false)))⟩,
    ⟨(some 2), none, (.prim .mov [(.tmp 22)])⟩] [1, 3, 4, 5, 6, 7, 8, 9, 10, 11, 12, 13, 14, 15, 16, 17, 18, 19, 20, 21, 22])
  .ret)), [2], []⟩
theorem c35 : compile Try.prog sg 35 = some F35 := by kernel_rfl


/-- vmfleet/vmfleetref24.ValidDetector -/
def F36 : VFunc := ⟨23,
  (.seq (.region [⟨(some 1), none, (.prim .mov [(.tmp 0)])⟩,
    ⟨(some 2), none, (.prim .mov [(.const (.bool false))])⟩] [0, 2])
  (.seq (.region [⟨(some 3), none, (.prim (.fptr 0) [(.const (.ptr []))])⟩,
    ⟨(some 4), none, (.prim .load [(.tmp 1), (.tmp 3)])⟩,
    ⟨(some 5), none, (.prim (.bin .geq) [(.tmp 4), (.const (.int .i64 1))])⟩,
    ⟨(some 6), none, (.prim .mov [(.tmp 5)])⟩,
    ⟨(some 7), (some (6, true)), (.prim (.fptr 0) [(.const (.ptr []))])⟩,
    ⟨(some 8), (some (6, true)), (.prim .load [(.tmp 1), (.tmp 7)])⟩,
    ⟨(some 9), (some (6, true)), (.prim (.bin .leq) [(.tmp 8), (.const (.int .i64 20))])⟩,
    ⟨(some 10), none, (.pick (.tmp 6) (.tmp 9) (.const (.bool false)))⟩,
    ⟨(some 11), none, (.prim .mov [(.tmp 10)])⟩,
    ⟨(some 12), (some (11, true)), (.prim (.fptr 1) [(.const (.ptr []))])⟩,
    ⟨(some 13), (some (11, true)), (.prim .load [(.tmp 1), (.tmp 12)])⟩,
    ⟨(some 14), (some (11, true)), (.prim (.bin .geq) [(.tmp 13), (.const (.int .i64 0))])⟩,
    ⟨(some 15), none, (.pick (.tmp 11) (.tmp 14) (.const (.bool false)))⟩,
    ⟨(some 16), none, (.prim .mov [(.tmp 15)])⟩,
    ⟨(some 17), (some (16, true)), (.prim (.fptr 1) [(.const (.ptr []))])⟩,
    ⟨(some 18), (some (16, true)), (.prim .load [(.tmp 1), (.tmp 17)])⟩,
    ⟨(some 19), (some (16, true)), (.prim (.fptr 0) [(.const (.ptr []))])⟩,
    ⟨(some 20), (some (16, true)), (.prim .load [(.tmp 1), (.tmp 19)])⟩,
    ⟨(some 21), (some (16, true)), (.prim (.bin .leq) [(.tmp 18), (.tmp 20)])⟩,
    ⟨(some 22), none, (.pick (.tmp 16) (.tmp 21) (.const (.bool false)))⟩,
    ⟨(some 2), none, (.prim .mov [(.tmp 22)])⟩] [1, 3, 4, 5, 6, 7, 8, 9, 10, 11, 12, 13, 14, 15, 16, 17, 18, 19, 20, 21, 22])
  .ret)), [2], []⟩
theorem c36 : compile Try.prog sg 36 = some F36 := by kernel_rfl


/-- vmfleet/heartbeat.Tick -/
def F37 : VFunc := ⟨17,
  (.seq (.region [⟨(some 1), none, (.prim .mov [(.tmp 0)])⟩,
    ⟨(some 2), none, (.prim .mov [(.const (.agg [(.int .i64 0), (.int .i64 0), (.int .u64 0)]))])⟩] [0])
  (.seq (.seq (.region [⟨(some 3), none, (.prim .load [(.tmp 1), (.const (.ptr []))])⟩,
    ⟨(some 4), none, (.call 35 1 [(.tmp 3)] [])⟩,
    ⟨(some 5), none, (.prim .mov [(.tmp 4)])⟩,
    ⟨(some 6), (some (5, true)), (.prim (.fptr 1) [(.const (.ptr []))])⟩,
    ⟨(some 7), (some (5, true)), (.prim .load [(.tmp 1), (.tmp 6)])⟩,
    ⟨(some 8), (some (5, true)), (.prim (.fptr 0) [(.const (.ptr []))])⟩,
    ⟨(some 9), (some (5, true)), (.prim .load [(.tmp 1), (.tmp 8)])⟩,
    ⟨(some 10), (some (5, true)), (.prim (.bin .lss) [(.tmp 7), (.tmp 9)])⟩,
    ⟨(some 11), none, (.pick (.tmp 5) (.tmp 10) (.const (.bool false)))⟩] [3, 4, 5, 6, 7, 8, 9, 10])
  (.cond (.tmp 11)
  (.region [⟨(some 12), none, (.prim (.fptr 1) [(.const (.ptr []))])⟩,
    ⟨(some 13), none, (.prim .load [(.tmp 1), (.tmp 12)])⟩,
    ⟨(some 14), none, (.prim (.bin .add) [(.tmp 13), (.const (.int .i64 1))])⟩,
    ⟨(some 15), none, (.prim (.fptr 1) [(.const (.ptr []))])⟩,
    ⟨none, none, (.store 1 (some 15) (.tmp 14))⟩] [11, 12, 13, 14, 15])
  .skip))
  (.seq (.region [⟨(some 16), none, (.prim .load [(.tmp 1), (.const (.ptr []))])⟩,
    ⟨none, none, (.store 2 none (.tmp 16))⟩] [1, 16])
  .ret))), [2], []⟩
theorem c37 : compile Try.prog sg 37 = some F37 := by kernel_rfl


/-- vmfleet/vmfleetref24.Tick -/
def F38 : VFunc := ⟨13,
  (.seq (.region [⟨(some 1), none, (.prim .mov [(.tmp 0)])⟩,
    ⟨(some 2), none, (.prim .mov [(.const (.agg [(.int .i64 0), (.int .i64 0), (.int .u64 0)]))])⟩] [0])
  (.seq (.seq (.region [⟨(some 3), none, (.prim .load [(.tmp 1), (.const (.ptr []))])⟩,
    ⟨(some 4), none, (.call 36 1 [(.tmp 3)] [])⟩] [3])
  (.cond (.tmp 4)
  (.region [⟨(some 5), none, (.prim (.fptr 1) [(.const (.ptr []))])⟩,
    ⟨(some 6), none, (.prim .load [(.tmp 1), (.tmp 5)])⟩,
    ⟨(some 7), none, (.prim (.bin .add) [(.tmp 6), (.const (.int .i64 1))])⟩,
    ⟨(some 8), none, (.prim (.fptr 0) [(.const (.ptr []))])⟩,
    ⟨(some 9), none, (.prim .load [(.tmp 1), (.tmp 8)])⟩,
    ⟨(some 10), none, (.prim .minI [(.tmp 7), (.tmp 9)])⟩,
    ⟨(some 11), none, (.prim (.fptr 1) [(.const (.ptr []))])⟩,
    ⟨none, none, (.store 1 (some 11) (.tmp 10))⟩] [4, 5, 6, 7, 8, 9, 10, 11])
  .skip))
  (.seq (.region [⟨(some 12), none, (.prim .load [(.tmp 1), (.const (.ptr []))])⟩,
    ⟨none, none, (.store 2 none (.tmp 12))⟩] [1, 12])
  .ret))), [2], []⟩
theorem c38 : compile Try.prog sg 38 = some F38 := by kernel_rfl


/-- vmfleet/heartbeat.Suspects -/
def F39 : VFunc := ⟨12,
  (.seq (.region [⟨(some 1), none, (.prim .mov [(.tmp 0)])⟩,
    ⟨(some 2), none, (.prim .mov [(.const (.bool false))])⟩] [0, 2])
  (.seq (.region [⟨(some 3), none, (.prim .load [(.tmp 1), (.const (.ptr []))])⟩,
    ⟨(some 4), none, (.call 35 1 [(.tmp 3)] [])⟩,
    ⟨(some 5), none, (.prim .mov [(.tmp 4)])⟩,
    ⟨(some 6), (some (5, true)), (.prim (.fptr 1) [(.const (.ptr []))])⟩,
    ⟨(some 7), (some (5, true)), (.prim .load [(.tmp 1), (.tmp 6)])⟩,
    ⟨(some 8), (some (5, true)), (.prim (.fptr 0) [(.const (.ptr []))])⟩,
    ⟨(some 9), (some (5, true)), (.prim .load [(.tmp 1), (.tmp 8)])⟩,
    ⟨(some 10), (some (5, true)), (.prim (.bin .eql) [(.tmp 7), (.tmp 9)])⟩,
    ⟨(some 11), none, (.pick (.tmp 5) (.tmp 10) (.const (.bool false)))⟩,
    ⟨(some 2), none, (.prim .mov [(.tmp 11)])⟩] [1, 3, 4, 5, 6, 7, 8, 9, 10, 11])
  .ret)), [2], []⟩
theorem c39 : compile Try.prog sg 39 = some F39 := by kernel_rfl


/-- vmfleet/vmfleetref24.Suspects -/
def F40 : VFunc := ⟨12,
  (.seq (.region [⟨(some 1), none, (.prim .mov [(.tmp 0)])⟩,
    ⟨(some 2), none, (.prim .mov [(.const (.bool false))])⟩] [0, 2])
  (.seq (.region [⟨(some 3), none, (.prim .load [(.tmp 1), (.const (.ptr []))])⟩,
    ⟨(some 4), none, (.call 36 1 [(.tmp 3)] [])⟩,
    ⟨(some 5), none, (.prim .mov [(.tmp 4)])⟩,
    ⟨(some 6), (some (5, true)), (.prim (.fptr 1) [(.const (.ptr []))])⟩,
    ⟨(some 7), (some (5, true)), (.prim .load [(.tmp 1), (.tmp 6)])⟩,
    ⟨(some 8), (some (5, true)), (.prim (.fptr 0) [(.const (.ptr []))])⟩,
    ⟨(some 9), (some (5, true)), (.prim .load [(.tmp 1), (.tmp 8)])⟩,
    ⟨(some 10), (some (5, true)), (.prim (.bin .eql) [(.tmp 7), (.tmp 9)])⟩,
    ⟨(some 11), none, (.pick (.tmp 5) (.tmp 10) (.const (.bool false)))⟩,
    ⟨(some 2), none, (.prim .mov [(.tmp 11)])⟩] [1, 3, 4, 5, 6, 7, 8, 9, 10, 11])
  .ret)), [2], []⟩
theorem c40 : compile Try.prog sg 40 = some F40 := by kernel_rfl


/-- vmfleet/heartbeat.Packet -/
def F41 : VFunc := ⟨10,
  (.seq (.region [⟨(some 4), none, (.prim .mov [(.const (.str []))])⟩] [4])
  (.seq (.region [⟨(some 5), none, (.prim .mov [(.tmp 0)])⟩,
    ⟨(some 6), none, (.prim .mov [(.tmp 1)])⟩,
    ⟨(some 7), none, (.call 66 1 [(.tmp 6)] [])⟩,
    ⟨(some 8), none, (.prim (.bin .add) [(.const (.str [72])), (.tmp 7)])⟩,
    ⟨(some 9), none, (.call 47 1 [(.tmp 5), (.tmp 8)] [])⟩,
    ⟨(some 4), none, (.prim .mov [(.tmp 9)])⟩] [0, 1, 5, 6, 7, 8, 9])
  .ret)), [4], []⟩
theorem c41 : compile Try.prog sg 41 = some F41 := by kernel_rfl


/-- vmfleet/vmfleetref24.Heartbeat -/
def F42 : VFunc := ⟨10,
  (.seq (.region [⟨(some 4), none, (.prim .mov [(.const (.str []))])⟩] [4])
  (.seq (.region [⟨(some 5), none, (.prim .mov [(.tmp 0)])⟩,
    ⟨(some 6), none, (.prim .mov [(.tmp 1)])⟩,
    ⟨(some 7), none, (.call 67 1 [(.tmp 6)] [])⟩,
    ⟨(some 8), none, (.prim (.bin .add) [(.const (.str [72])), (.tmp 7)])⟩,
    ⟨(some 9), none, (.call 49 1 [(.tmp 5), (.tmp 8)] [])⟩,
    ⟨(some 4), none, (.prim .mov [(.tmp 9)])⟩] [0, 1, 5, 6, 7, 8, 9])
  .ret)), [4], []⟩
theorem c42 : compile Try.prog sg 42 = some F42 := by kernel_rfl


/-- vmfleet/eventlog.Seal -/
def F47 : VFunc := ⟨15,
  (.seq (.region [⟨(some 4), none, (.prim .mov [(.const (.str []))])⟩] [4])
  (.seq (.region [⟨(some 6), none, (.prim .mov [(.tmp 0)])⟩,
    ⟨(some 7), none, (.call 66 1 [(.tmp 6)] [])⟩,
    ⟨(some 8), none, (.prim .mov [(.tmp 1)])⟩,
    ⟨(some 9), none, (.call 71 1 [(.tmp 8)] [])⟩,
    ⟨(some 10), none, (.prim (.bin .add) [(.tmp 7), (.tmp 9)])⟩,
    ⟨(some 5), none, (.prim .mov [(.tmp 10)])⟩] [0, 1, 6, 7, 8, 9, 10])
  (.seq (.region [⟨(some 11), none, (.prim .mov [(.tmp 5)])⟩,
    ⟨(some 12), none, (.prim .mov [(.tmp 5)])⟩,
    ⟨(some 13), none, (.call 72 1 [(.tmp 12)] [])⟩,
    ⟨(some 14), none, (.prim (.bin .add) [(.tmp 11), (.tmp 13)])⟩,
    ⟨(some 4), none, (.prim .mov [(.tmp 14)])⟩] [5, 11, 12, 13, 14])
  .ret))), [4], []⟩
theorem c47 : compile Try.prog sg 47 = some F47 := by kernel_rfl


/-- vmfleet/eventlog.Open -/
def F48 : VFunc := ⟨41,
  (.seq (.region [⟨(some 2), none, (.prim .mov [(.const (.int .u64 0))])⟩,
    ⟨(some 3), none, (.prim .mov [(.const (.str []))])⟩,
    ⟨(some 4), none, (.prim .mov [(.const (.int .i64 0))])⟩] [2, 3, 4])
  (.seq (.region [⟨(some 8), none, (.prim .mov [(.tmp 0)])⟩,
    ⟨(some 9), none, (.prim (.build [(.str []), (.bool false)] [0, 1]) [(.tmp 8), (.const (.bool true))])⟩,
    ⟨(some 10), none, (.prim .mov [(.tmp 9)])⟩,
    ⟨(some 5), none, (.prim .mov [(.const (.ptr []))])⟩] [8, 9])
  (.seq (.region [⟨(some 11), none, (.prim .mov [(.tmp 5)])⟩,
    ⟨(some 12), none, (.call 73 1 [(.deref 10 (some 11))] [(10, (some 11))])⟩,
    ⟨(some 13), none, (.prim .mov [(.tmp 5)])⟩,
    ⟨(some 14), none, (.call 74 1 [(.deref 10 (some 13))] [(10, (some 13))])⟩,
    ⟨(some 6), none, (.prim .mov [(.tmp 12)])⟩,
    ⟨(some 7), none, (.prim .mov [(.tmp 14)])⟩] [11, 12, 13, 14])
  (.seq (.seq (.region [⟨(some 15), none, (.prim .mov [(.tmp 5)])⟩,
    ⟨(some 16), none, (.prim .mov [(.tmp 15)])⟩,
    ⟨(some 17), none, (.prim (.fptr 1) [(.tmp 16)])⟩,
    ⟨(some 18), none, (.prim .load [(.tmp 10), (.tmp 17)])⟩,
    ⟨(some 19), none, (.prim (.un .not) [(.tmp 18)])⟩,
    ⟨(some 20), none, (.prim .mov [(.tmp 19)])⟩,
    ⟨(some 21), (some (20, false)), (.prim .mov [(.tmp 5)])⟩,
    ⟨(some 22), (some (20, false)), (.prim .mov [(.tmp 21)])⟩,
    ⟨(some 23), (some (20, false)), (.prim (.fptr 0) [(.tmp 22)])⟩,
    ⟨(some 24), (some (20, false)), (.prim .load [(.tmp 10), (.tmp 23)])⟩,
    ⟨(some 25), (some (20, false)), (.prim .len [(.tmp 24)])⟩,
    ⟨(some 26), (some (20, false)), (.prim (.bin .neq) [(.tmp 25), (.const (.int .i64 8))])⟩,
    ⟨(some 27), none, (.pick (.tmp 20) (.const (.bool true)) (.tmp 26))⟩] [15, 16, 17, 18, 19, 20, 21, 22, 23, 24, 25, 26])
  (.cond (.tmp 27)
  (.seq (.region [⟨(some 2), none, (.prim .mov [(.const (.int .u64 0))])⟩,
    ⟨(some 3), none, (.prim .mov [(.const (.str []))])⟩,
    ⟨(some 4), none, (.prim .mov [(.const (.int .i64 1900))])⟩] [0, 5, 6, 7, 10, 27])
  .ret)
  .skip))
  (.seq (.seq (.region [⟨(some 28), none, (.prim .mov [(.tmp 5)])⟩,
    ⟨(some 29), none, (.prim .mov [(.tmp 28)])⟩,
    ⟨(some 30), none, (.prim (.fptr 0) [(.tmp 29)])⟩,
    ⟨(some 31), none, (.prim .load [(.tmp 10), (.tmp 30)])⟩,
    ⟨(some 32), none, (.prim .mov [(.tmp 0)])⟩,
    ⟨(some 33), none, (.prim .mov [(.tmp 0)])⟩,
    ⟨(some 34), none, (.prim .len [(.tmp 33)])⟩,
    ⟨(some 35), none, (.prim (.bin .sub) [(.tmp 34), (.const (.int .i64 8))])⟩,
    ⟨(some 36), none, (.prim (.sl false true) [(.tmp 32), (.tmp 35)])⟩,
    ⟨(some 37), none, (.call 72 1 [(.tmp 36)] [])⟩,
    ⟨(some 38), none, (.prim (.bin .neq) [(.tmp 31), (.tmp 37)])⟩] [0, 5, 10, 27, 28, 29, 30, 31, 32, 33, 34, 35, 36, 37])
  (.cond (.tmp 38)
  (.seq (.region [⟨(some 2), none, (.prim .mov [(.const (.int .u64 0))])⟩,
    ⟨(some 3), none, (.prim .mov [(.const (.str []))])⟩,
    ⟨(some 4), none, (.prim .mov [(.const (.int .i64 1903))])⟩] [6, 7, 38])
  .ret)
  .skip))
  (.seq (.region [⟨(some 39), none, (.prim .mov [(.tmp 6)])⟩,
    ⟨(some 40), none, (.prim .mov [(.tmp 7)])⟩,
    ⟨(some 2), none, (.prim .mov [(.tmp 39)])⟩,
    ⟨(some 3), none, (.prim .mov [(.tmp 40)])⟩,
    ⟨(some 4), none, (.prim .mov [(.const (.int .i64 0))])⟩] [6, 7, 38, 39, 40])
  .ret)))))), [2, 3, 4], []⟩
theorem c48 : compile Try.prog sg 48 = some F48 := by kernel_rfl


/-- vmfleet/vmfleetref19.Seal -/
def F49 : VFunc := ⟨20,
  (.seq (.region [⟨(some 4), none, (.prim .mov [(.const (.str []))])⟩] [4])
  (.seq (.region [⟨(some 6), none, (.prim .mov [(.tmp 0)])⟩,
    ⟨(some 7), none, (.call 67 1 [(.tmp 6)] [])⟩,
    ⟨(some 8), none, (.prim .mov [(.tmp 1)])⟩,
    ⟨(some 9), none, (.prim .len [(.tmp 8)])⟩,
    ⟨(some 10), none, (.prim (.toInt .u64) [(.tmp 9)])⟩,
    ⟨(some 11), none, (.call 67 1 [(.tmp 10)] [])⟩,
    ⟨(some 12), none, (.prim (.bin .add) [(.tmp 7), (.tmp 11)])⟩,
    ⟨(some 13), none, (.prim .mov [(.tmp 1)])⟩,
    ⟨(some 14), none, (.prim (.bin .add) [(.tmp 12), (.tmp 13)])⟩,
    ⟨(some 5), none, (.prim .mov [(.tmp 14)])⟩] [0, 1, 6, 7, 8, 9, 10, 11, 12, 13, 14])
  (.seq (.region [⟨(some 15), none, (.prim .mov [(.tmp 5)])⟩,
    ⟨(some 16), none, (.prim .mov [(.tmp 5)])⟩,
    ⟨(some 17), none, (.call 76 1 [(.const (.int .u64 14695981039346656037)), (.tmp 16)] [])⟩,
    ⟨(some 18), none, (.call 75 1 [(.tmp 17)] [])⟩,
    ⟨(some 19), none, (.prim (.bin .add) [(.tmp 15), (.tmp 18)])⟩,
    ⟨(some 4), none, (.prim .mov [(.tmp 19)])⟩] [5, 15, 16, 17, 18, 19])
  .ret))), [4], []⟩
theorem c49 : compile Try.prog sg 49 = some F49 := by kernel_rfl


/-- vmfleet/vmfleetref19.Open -/
def F50 : VFunc := ⟨43,
  (.seq (.region [⟨(some 2), none, (.prim .mov [(.const (.int .u64 0))])⟩,
    ⟨(some 3), none, (.prim .mov [(.const (.str []))])⟩,
    ⟨(some 4), none, (.prim .mov [(.const (.int .i64 0))])⟩] [2, 3, 4])
  (.seq (.region [⟨(some 8), none, (.prim .mov [(.tmp 0)])⟩,
    ⟨(some 9), none, (.prim (.build [(.str []), (.bool false)] [0]) [(.tmp 8)])⟩,
    ⟨(some 10), none, (.prim .mov [(.tmp 9)])⟩,
    ⟨(some 5), none, (.prim .mov [(.const (.ptr []))])⟩] [8, 9])
  (.seq (.region [⟨(some 11), none, (.prim .mov [(.tmp 5)])⟩,
    ⟨(some 12), none, (.call 77 1 [(.deref 10 (some 11))] [(10, (some 11))])⟩,
    ⟨(some 6), none, (.prim .mov [(.tmp 12)])⟩] [11, 12])
  (.seq (.region [⟨(some 13), none, (.prim .mov [(.tmp 5)])⟩,
    ⟨(some 14), none, (.prim .mov [(.tmp 5)])⟩,
    ⟨(some 15), none, (.call 77 1 [(.deref 10 (some 14))] [(10, (some 14))])⟩,
    ⟨(some 16), none, (.call 78 1 [(.deref 10 (some 13)), (.tmp 15)] [(10, (some 13))])⟩,
    ⟨(some 7), none, (.prim .mov [(.tmp 16)])⟩] [13, 14, 15, 16])
  (.seq (.seq (.region [⟨(some 17), none, (.prim .mov [(.tmp 5)])⟩,
    ⟨(some 18), none, (.prim .mov [(.tmp 17)])⟩,
    ⟨(some 19), none, (.prim (.fptr 1) [(.tmp 18)])⟩,
    ⟨(some 20), none, (.prim .load [(.tmp 10), (.tmp 19)])⟩,
    ⟨(some 21), none, (.prim .mov [(.tmp 20)])⟩,
    ⟨(some 22), (some (21, false)), (.prim .mov [(.tmp 5)])⟩,
    ⟨(some 23), (some (21, false)), (.prim .mov [(.tmp 22)])⟩,
    ⟨(some 24), (some (21, false)), (.prim (.fptr 0) [(.tmp 23)])⟩,
    ⟨(some 25), (some (21, false)), (.prim .load [(.tmp 10), (.tmp 24)])⟩,
    ⟨(some 26), (some (21, false)), (.prim .len [(.tmp 25)])⟩,
    ⟨(some 27), (some (21, false)), (.prim (.bin .neq) [(.tmp 26), (.const (.int .i64 8))])⟩,
    ⟨(some 28), none, (.pick (.tmp 21) (.const (.bool true)) (.tmp 27))⟩] [17, 18, 19, 20, 21, 22, 23, 24, 25, 26, 27])
  (.cond (.tmp 28)
  (.seq (.region [⟨(some 2), none, (.prim .mov [(.const (.int .u64 0))])⟩,
    ⟨(some 3), none, (.prim .mov [(.const (.str []))])⟩,
    ⟨(some 4), none, (.prim .mov [(.const (.int .i64 1900))])⟩] [0, 5, 6, 7, 10, 28])
  .ret)
  .skip))
  (.seq (.seq (.region [⟨(some 29), none, (.prim .mov [(.tmp 0)])⟩,
    ⟨(some 30), none, (.prim .mov [(.tmp 0)])⟩,
    ⟨(some 31), none, (.prim .len [(.tmp 30)])⟩,
    ⟨(some 32), none, (.prim (.bin .sub) [(.tmp 31), (.const (.int .i64 8))])⟩,
    ⟨(some 33), none, (.prim (.sl false true) [(.tmp 29), (.tmp 32)])⟩,
    ⟨(some 34), none, (.call 76 1 [(.const (.int .u64 14695981039346656037)), (.tmp 33)] [])⟩,
    ⟨(some 35), none, (.call 75 1 [(.tmp 34)] [])⟩,
    ⟨(some 36), none, (.prim .mov [(.tmp 5)])⟩,
    ⟨(some 37), none, (.prim .mov [(.tmp 36)])⟩,
    ⟨(some 38), none, (.prim (.fptr 0) [(.tmp 37)])⟩,
    ⟨(some 39), none, (.prim .load [(.tmp 10), (.tmp 38)])⟩,
    ⟨(some 40), none, (.prim (.bin .neq) [(.tmp 35), (.tmp 39)])⟩] [0, 5, 10, 28, 29, 30, 31, 32, 33, 34, 35, 36, 37, 38, 39])
  (.cond (.tmp 40)
  (.seq (.region [⟨(some 2), none, (.prim .mov [(.const (.int .u64 0))])⟩,
    ⟨(some 3), none, (.prim .mov [(.const (.str []))])⟩,
    ⟨(some 4), none, (.prim .mov [(.const (.int .i64 1903))])⟩] [6, 7, 40])
  .ret)
  .skip))
  (.seq (.region [⟨(some 41), none, (.prim .mov [(.tmp 6)])⟩,
    ⟨(some 42), none, (.prim .mov [(.tmp 7)])⟩,
    ⟨(some 2), none, (.prim .mov [(.tmp 41)])⟩,
    ⟨(some 3), none, (.prim .mov [(.tmp 42)])⟩,
    ⟨(some 4), none, (.prim .mov [(.const (.int .i64 0))])⟩] [6, 7, 40, 41, 42])
  .ret))))))), [2, 3, 4], []⟩
theorem c50 : compile Try.prog sg 50 = some F50 := by kernel_rfl

def kL63x2 : List Nat := [1, 2, 3, 4, 6, 7, 8, 9, 12, 13, 14, 15, 16, 17, 18, 19, 20, 21, 22, 23, 24, 25, 26, 27, 28, 29, 30, 31, 32, 33, 34, 35, 36, 37, 38, 39, 40, 41, 42]
def L63x2 : VCode := (.seq (.region [⟨(some 12), none, (.prim (.bin .lss) [(.tmp 11), (.tmp 10)])⟩] [])
  (.seq (.cond (.tmp 12)
  .skip
  (.seq (.region [] [0, 1, 2, 3, 4, 5, 6, 7, 8, 9, 10, 11, 12, 13, 14, 15, 16, 17, 18, 19, 20, 21, 22, 23, 24, 25, 26, 27, 28, 29, 30, 31, 32, 33, 34, 35, 36, 37, 38, 39, 40, 41, 42])
  (.exit 0)))
  (.seq (.block 1 (.seq (.region [⟨(some 13), none, (.prim .mov [(.tmp 11)])⟩,
    ⟨(some 6), none, (.prim .mov [(.tmp 13)])⟩] [12, 13])
  (.seq (.region [⟨(some 14), none, (.prim .mov [(.tmp 0)])⟩,
    ⟨(some 15), none, (.prim .mov [(.tmp 6)])⟩,
    ⟨(some 16), none, (.prim .index [(.tmp 14), (.tmp 15)])⟩,
    ⟨(some 7), none, (.prim .mov [(.tmp 16)])⟩] [14, 15, 16])
  (.seq (.seq (.region [⟨(some 17), none, (.prim .mov [(.tmp 6)])⟩,
    ⟨(some 18), none, (.prim (.bin .eql) [(.tmp 17), (.const (.int .i64 9))])⟩,
    ⟨(some 19), none, (.prim .mov [(.tmp 18)])⟩,
    ⟨(some 20), (some (19, true)), (.prim .mov [(.tmp 7)])⟩,
    ⟨(some 21), (some (19, true)), (.prim (.bin .gtr) [(.tmp 20), (.const (.int .u8 1))])⟩,
    ⟨(some 22), none, (.pick (.tmp 19) (.tmp 21) (.const (.bool false)))⟩] [17, 18, 19])
  (.cond (.tmp 22)
  (.seq (.region [⟨(some 2), none, (.prim .mov [(.const (.int .u64 0))])⟩,
    ⟨(some 3), none, (.prim .mov [(.const (.int .i64 0))])⟩,
    ⟨(some 4), none, (.prim .mov [(.const (.bool false))])⟩] [0, 5, 6, 7, 10, 11, 20, 21, 22])
  .ret)
  .skip))
  (.seq (.region [⟨(some 23), none, (.prim .mov [(.tmp 5)])⟩,
    ⟨(some 24), none, (.prim .mov [(.tmp 7)])⟩,
    ⟨(some 25), none, (.prim (.bin .and) [(.tmp 24), (.const (.int .u8 127))])⟩,
    ⟨(some 26), none, (.prim (.toInt .u64) [(.tmp 25)])⟩,
    ⟨(some 27), none, (.prim .mov [(.tmp 6)])⟩,
    ⟨(some 28), none, (.prim (.bin .mul) [(.const (.int .i64 7)), (.tmp 27)])⟩,
    ⟨(some 29), none, (.prim (.bin .shl) [(.tmp 26), (.tmp 28)])⟩,
    ⟨(some 30), none, (.prim (.bin .or) [(.tmp 23), (.tmp 29)])⟩,
    ⟨(some 5), none, (.prim .mov [(.tmp 30)])⟩] [22, 23, 24, 25, 26, 27, 28, 29, 30])
  (.seq (.region [⟨(some 31), none, (.prim .mov [(.tmp 7)])⟩,
    ⟨(some 32), none, (.prim (.bin .lss) [(.tmp 31), (.const (.int .u8 128))])⟩] [31])
  (.cond (.tmp 32)
  (.seq (.seq (.region [⟨(some 33), none, (.prim .mov [(.tmp 7)])⟩,
    ⟨(some 34), none, (.prim (.bin .eql) [(.tmp 33), (.const (.int .u8 0))])⟩,
    ⟨(some 35), none, (.prim .mov [(.tmp 34)])⟩,
    ⟨(some 36), (some (35, true)), (.prim .mov [(.tmp 6)])⟩,
    ⟨(some 37), (some (35, true)), (.prim (.bin .gtr) [(.tmp 36), (.const (.int .i64 0))])⟩,
    ⟨(some 38), none, (.pick (.tmp 35) (.tmp 37) (.const (.bool false)))⟩] [0, 7, 10, 11, 20, 21, 32, 33, 34, 35, 36, 37])
  (.cond (.tmp 38)
  (.seq (.region [⟨(some 2), none, (.prim .mov [(.const (.int .u64 0))])⟩,
    ⟨(some 3), none, (.prim .mov [(.const (.int .i64 0))])⟩,
    ⟨(some 4), none, (.prim .mov [(.const (.bool false))])⟩] [5, 6, 38])
  .ret)
  .skip))
  (.seq (.region [⟨(some 39), none, (.prim .mov [(.tmp 5)])⟩,
    ⟨(some 40), none, (.prim .mov [(.tmp 6)])⟩,
    ⟨(some 41), none, (.prim (.bin .add) [(.tmp 40), (.const (.int .i64 1))])⟩,
    ⟨(some 2), none, (.prim .mov [(.tmp 39)])⟩,
    ⟨(some 3), none, (.prim .mov [(.tmp 41)])⟩,
    ⟨(some 4), none, (.prim .mov [(.const (.bool true))])⟩] [5, 6, 38, 39, 40, 41])
  .ret))
  .skip)))))))
  (.region [⟨(some 42), none, (.prim (.bin .add) [(.tmp 11), (.const (.int .i64 1))])⟩,
    ⟨(some 11), none, (.prim .mov [(.tmp 42)])⟩] [6, 7, 32, 42]))))
def A63x1 : VCode := (.seq (.region [⟨(some 8), none, (.prim .mov [(.tmp 0)])⟩,
    ⟨(some 9), none, (.prim .len [(.tmp 8)])⟩,
    ⟨(some 10), none, (.prim .minI [(.tmp 9), (.const (.int .i64 10))])⟩,
    ⟨(some 11), none, (.prim .mov [(.const (.int .i64 0))])⟩] [8, 9])
  (.block 0 (.loop kL63x2 L63x2)))
def B63x1 : VCode := (.seq (.region [⟨(some 2), none, (.prim .mov [(.const (.int .u64 0))])⟩,
    ⟨(some 3), none, (.prim .mov [(.const (.int .i64 0))])⟩,
    ⟨(some 4), none, (.prim .mov [(.const (.bool false))])⟩] [])
  .ret)

/-- vmfleet/bits.Uvarint -/
def F63 : VFunc := ⟨43,
  (.seq (.region [⟨(some 2), none, (.prim .mov [(.const (.int .u64 0))])⟩,
    ⟨(some 3), none, (.prim .mov [(.const (.int .i64 0))])⟩,
    ⟨(some 4), none, (.prim .mov [(.const (.bool false))])⟩] [2, 3, 4])
  (.seq (.region [⟨(some 5), none, (.prim .mov [(.const (.int .u64 0))])⟩] [])
  (.seq A63x1
  B63x1))), [2, 3, 4], []⟩
theorem c63 : compile Try.prog sg 63 = some F63 := by kernel_rfl


/-- vmfleet/vmfleetref24.opened -/
def F64 : VFunc := ⟨32,
  (.seq (.region [⟨(some 4), none, (.prim .mov [(.const (.int .u64 0))])⟩,
    ⟨(some 5), none, (.prim .mov [(.const (.str []))])⟩,
    ⟨(some 6), none, (.prim .mov [(.const (.bool false))])⟩] [4, 5, 6])
  (.seq (.region [⟨(some 11), none, (.prim .mov [(.tmp 0)])⟩,
    ⟨(some 12), none, (.call 50 3 [(.tmp 11)] [])⟩,
    ⟨(some 10), none, (.prim .mov [(.tmp 12)])⟩,
    ⟨(some 13), none, (.prim (.ext 0) [(.tmp 10)])⟩,
    ⟨(some 14), none, (.prim (.ext 1) [(.tmp 10)])⟩,
    ⟨(some 15), none, (.prim (.ext 2) [(.tmp 10)])⟩,
    ⟨(some 7), none, (.prim .mov [(.tmp 13)])⟩,
    ⟨(some 8), none, (.prim .mov [(.tmp 14)])⟩,
    ⟨(some 9), none, (.prim .mov [(.tmp 15)])⟩] [0, 10, 11, 12, 13, 14, 15])
  (.seq (.seq (.region [⟨(some 16), none, (.prim .mov [(.tmp 9)])⟩,
    ⟨(some 17), none, (.prim (.bin .neq) [(.tmp 16), (.const (.int .i64 0))])⟩,
    ⟨(some 18), none, (.prim .mov [(.tmp 17)])⟩,
    ⟨(some 19), (some (18, false)), (.prim .mov [(.tmp 8)])⟩,
    ⟨(some 20), (some (18, false)), (.prim .len [(.tmp 19)])⟩,
    ⟨(some 21), (some (18, false)), (.prim (.bin .eql) [(.tmp 20), (.const (.int .i64 0))])⟩,
    ⟨(some 22), none, (.pick (.tmp 18) (.const (.bool true)) (.tmp 21))⟩,
    ⟨(some 23), none, (.prim .mov [(.tmp 22)])⟩,
    ⟨(some 24), (some (23, false)), (.prim .mov [(.tmp 8)])⟩,
    ⟨(some 25), (some (23, false)), (.prim .index [(.tmp 24), (.const (.int .i64 0))])⟩,
    ⟨(some 26), (some (23, false)), (.prim .mov [(.tmp 1)])⟩,
    ⟨(some 27), (some (23, false)), (.prim (.bin .neq) [(.tmp 25), (.tmp 26)])⟩,
    ⟨(some 28), none, (.pick (.tmp 23) (.const (.bool true)) (.tmp 27))⟩] [1, 9, 16, 17, 18, 19, 20, 21, 22, 23, 24, 25, 26, 27])
  (.cond (.tmp 28)
  (.seq (.region [⟨(some 4), none, (.prim .mov [(.const (.int .u64 0))])⟩,
    ⟨(some 5), none, (.prim .mov [(.const (.str []))])⟩,
    ⟨(some 6), none, (.prim .mov [(.const (.bool false))])⟩] [7, 8, 28])
  .ret)
  .skip))
  (.seq (.region [⟨(some 29), none, (.prim .mov [(.tmp 7)])⟩,
    ⟨(some 30), none, (.prim .mov [(.tmp 8)])⟩,
    ⟨(some 31), none, (.prim (.sl true false) [(.tmp 30), (.const (.int .i64 1))])⟩,
    ⟨(some 4), none, (.prim .mov [(.tmp 29)])⟩,
    ⟨(some 5), none, (.prim .mov [(.tmp 31)])⟩,
    ⟨(some 6), none, (.prim .mov [(.const (.bool true))])⟩] [7, 8, 28, 29, 30, 31])
  .ret)))), [4, 5, 6], []⟩
theorem c64 : compile Try.prog sg 64 = some F64 := by kernel_rfl


/-- vmfleet/vmfleetref24.whole -/
def F65 : VFunc := ⟨21,
  (.seq (.region [⟨(some 2), none, (.prim .mov [(.const (.int .u64 0))])⟩,
    ⟨(some 3), none, (.prim .mov [(.const (.bool false))])⟩] [2, 3])
  (.seq (.region [⟨(some 8), none, (.prim .mov [(.tmp 0)])⟩,
    ⟨(some 9), none, (.call 90 3 [(.tmp 8)] [])⟩,
    ⟨(some 7), none, (.prim .mov [(.tmp 9)])⟩,
    ⟨(some 10), none, (.prim (.ext 0) [(.tmp 7)])⟩,
    ⟨(some 11), none, (.prim (.ext 1) [(.tmp 7)])⟩,
    ⟨(some 12), none, (.prim (.ext 2) [(.tmp 7)])⟩,
    ⟨(some 4), none, (.prim .mov [(.tmp 10)])⟩,
    ⟨(some 5), none, (.prim .mov [(.tmp 11)])⟩,
    ⟨(some 6), none, (.prim .mov [(.tmp 12)])⟩] [7, 8, 9, 10, 11, 12])
  (.seq (.region [⟨(some 13), none, (.prim .mov [(.tmp 4)])⟩,
    ⟨(some 14), none, (.prim .mov [(.tmp 6)])⟩,
    ⟨(some 15), none, (.prim .mov [(.tmp 14)])⟩,
    ⟨(some 16), (some (15, true)), (.prim .mov [(.tmp 5)])⟩,
    ⟨(some 17), (some (15, true)), (.prim .mov [(.tmp 0)])⟩,
    ⟨(some 18), (some (15, true)), (.prim .len [(.tmp 17)])⟩,
    ⟨(some 19), (some (15, true)), (.prim (.bin .eql) [(.tmp 16), (.tmp 18)])⟩,
    ⟨(some 20), none, (.pick (.tmp 15) (.tmp 19) (.const (.bool false)))⟩,
    ⟨(some 2), none, (.prim .mov [(.tmp 13)])⟩,
    ⟨(some 3), none, (.prim .mov [(.tmp 20)])⟩] [0, 4, 5, 6, 13, 14, 15, 16, 17, 18, 19, 20])
  .ret))), [2, 3], []⟩
theorem c65 : compile Try.prog sg 65 = some F65 := by kernel_rfl

def kL66x2 : List Nat := [1, 2, 4, 5, 6, 7, 8, 9, 10, 11, 12, 13, 14, 15, 16, 17, 18, 19]
def L66x2 : VCode := (.seq (.seq (.region [⟨(some 4), none, (.prim .mov [(.tmp 0)])⟩,
    ⟨(some 5), none, (.prim (.bin .geq) [(.tmp 4), (.const (.int .u64 128))])⟩] [4])
  (.cond (.tmp 5)
  .skip
  (.seq (.region [] [1, 2, 4, 5, 6, 7, 8, 9, 10, 11, 12, 13, 14, 15, 16, 17, 18, 19])
  (.exit 0))))
  (.block 1 (.seq (.region [⟨(some 6), none, (.prim .mov [(.tmp 3)])⟩,
    ⟨(some 7), none, (.prim .mov [(.tmp 0)])⟩,
    ⟨(some 8), none, (.prim (.toInt .u8) [(.tmp 7)])⟩,
    ⟨(some 9), none, (.prim (.bin .or) [(.tmp 8), (.const (.int .u8 128))])⟩,
    ⟨(some 10), none, (.prim (.buildSl (.int .u8 0) 1 [0]) [(.tmp 9)])⟩,
    ⟨(some 11), none, (.prim (.app 1) [(.tmp 6), (.tmp 10)])⟩,
    ⟨(some 3), none, (.prim .mov [(.tmp 11)])⟩] [5, 7, 8, 9, 10, 11])
  (.region [⟨(some 12), none, (.prim .mov [(.tmp 0)])⟩,
    ⟨(some 13), none, (.prim (.bin .shr) [(.tmp 12), (.const (.int .u64 7))])⟩,
    ⟨(some 0), none, (.prim .mov [(.tmp 13)])⟩] [12, 13]))))
def A66x1 : VCode := (.block 0 (.loop kL66x2 L66x2))
def B66x1 : VCode := (.seq (.region [⟨(some 14), none, (.prim .mov [(.tmp 3)])⟩,
    ⟨(some 15), none, (.prim .mov [(.tmp 0)])⟩,
    ⟨(some 16), none, (.prim (.toInt .u8) [(.tmp 15)])⟩,
    ⟨(some 17), none, (.prim (.buildSl (.int .u8 0) 1 [0]) [(.tmp 16)])⟩,
    ⟨(some 18), none, (.prim (.app 1) [(.tmp 14), (.tmp 17)])⟩,
    ⟨(some 19), none, (.prim .toStr [(.tmp 18)])⟩,
    ⟨(some 2), none, (.prim .mov [(.tmp 19)])⟩] [0, 3, 15, 16, 17, 18, 19])
  .ret)

/-- vmfleet/bits.PutUvarint -/
def F66 : VFunc := ⟨20,
  (.seq (.region [⟨(some 2), none, (.prim .mov [(.const (.str []))])⟩] [2])
  (.seq (.region [⟨(some 3), none, (.prim .mov [(.const (.slice true []))])⟩] [])
  (.seq A66x1
  B66x1))), [2], []⟩
theorem c66 : compile Try.prog sg 66 = some F66 := by kernel_rfl

def kL67x2 : List Nat := [1, 2, 4, 5, 6, 7, 8, 9, 10, 11, 12, 13, 14, 15, 16, 17, 18, 19, 20]
def L67x2 : VCode := (.seq (.seq (.region [⟨(some 4), none, (.prim .mov [(.tmp 0)])⟩,
    ⟨(some 5), none, (.prim (.bin .geq) [(.tmp 4), (.const (.int .u64 128))])⟩] [4])
  (.cond (.tmp 5)
  .skip
  (.seq (.region [] [1, 2, 4, 5, 6, 7, 8, 9, 10, 11, 12, 13, 14, 15, 16, 17, 18, 19, 20])
  (.exit 0))))
  (.block 1 (.seq (.region [⟨(some 6), none, (.prim .mov [(.tmp 3)])⟩,
    ⟨(some 7), none, (.prim .mov [(.tmp 0)])⟩,
    ⟨(some 8), none, (.prim (.bin .and) [(.tmp 7), (.const (.int .u64 127))])⟩,
    ⟨(some 9), none, (.prim (.toInt .u8) [(.tmp 8)])⟩,
    ⟨(some 10), none, (.prim (.bin .or) [(.tmp 9), (.const (.int .u8 128))])⟩,
    ⟨(some 11), none, (.prim (.buildSl (.int .u8 0) 1 [0]) [(.tmp 10)])⟩,
    ⟨(some 12), none, (.prim (.app 1) [(.tmp 6), (.tmp 11)])⟩,
    ⟨(some 3), none, (.prim .mov [(.tmp 12)])⟩] [5, 7, 8, 9, 10, 11, 12])
  (.region [⟨(some 13), none, (.prim .mov [(.tmp 0)])⟩,
    ⟨(some 14), none, (.prim (.bin .shr) [(.tmp 13), (.const (.int .u64 7))])⟩,
    ⟨(some 0), none, (.prim .mov [(.tmp 14)])⟩] [13, 14]))))
def A67x1 : VCode := (.block 0 (.loop kL67x2 L67x2))
def B67x1 : VCode := (.seq (.region [⟨(some 15), none, (.prim .mov [(.tmp 3)])⟩,
    ⟨(some 16), none, (.prim .mov [(.tmp 0)])⟩,
    ⟨(some 17), none, (.prim (.toInt .u8) [(.tmp 16)])⟩,
    ⟨(some 18), none, (.prim (.buildSl (.int .u8 0) 1 [0]) [(.tmp 17)])⟩,
    ⟨(some 19), none, (.prim (.app 1) [(.tmp 15), (.tmp 18)])⟩,
    ⟨(some 20), none, (.prim .toStr [(.tmp 19)])⟩,
    ⟨(some 2), none, (.prim .mov [(.tmp 20)])⟩] [0, 3, 16, 17, 18, 19, 20])
  .ret)

/-- vmfleet/vmfleetref1.PutUvarint -/
def F67 : VFunc := ⟨21,
  (.seq (.region [⟨(some 2), none, (.prim .mov [(.const (.str []))])⟩] [2])
  (.seq (.region [⟨(some 3), none, (.prim .mov [(.const (.slice true []))])⟩] [])
  (.seq A67x1
  B67x1))), [2], []⟩
theorem c67 : compile Try.prog sg 67 = some F67 := by kernel_rfl


/-- vmfleet/eventlog.text -/
def F71 : VFunc := ⟨9,
  (.seq (.region [⟨(some 2), none, (.prim .mov [(.const (.str []))])⟩] [2])
  (.seq (.region [⟨(some 3), none, (.prim .mov [(.tmp 0)])⟩,
    ⟨(some 4), none, (.prim .len [(.tmp 3)])⟩,
    ⟨(some 5), none, (.prim (.toInt .u64) [(.tmp 4)])⟩,
    ⟨(some 6), none, (.call 66 1 [(.tmp 5)] [])⟩,
    ⟨(some 7), none, (.prim .mov [(.tmp 0)])⟩,
    ⟨(some 8), none, (.prim (.bin .add) [(.tmp 6), (.tmp 7)])⟩,
    ⟨(some 2), none, (.prim .mov [(.tmp 8)])⟩] [0, 3, 4, 5, 6, 7, 8])
  .ret)), [2], []⟩
theorem c71 : compile Try.prog sg 71 = some F71 := by kernel_rfl

def kL72x2 : List Nat := [0, 1, 2, 5, 6, 7, 8, 9, 12, 13, 14, 15, 16, 17, 18, 19, 20, 21, 22, 23, 24, 25]
def L72x2 : VCode := (.seq (.region [⟨(some 12), none, (.prim (.bin .lss) [(.tmp 11), (.tmp 10)])⟩] [])
  (.seq (.cond (.tmp 12)
  .skip
  (.seq (.region [] [0, 1, 2, 3, 5, 6, 7, 8, 9, 10, 11, 12, 13, 14, 15, 16, 17, 18, 19, 20, 21, 22, 23, 24, 25])
  (.exit 0)))
  (.seq (.block 1 (.seq (.region [⟨(some 13), none, (.prim .mov [(.tmp 11)])⟩,
    ⟨(some 5), none, (.prim .mov [(.tmp 13)])⟩] [12, 13])
  (.region [⟨(some 14), none, (.prim .mov [(.tmp 4)])⟩,
    ⟨(some 15), none, (.prim .mov [(.tmp 5)])⟩,
    ⟨(some 16), none, (.prim .mov [(.tmp 3)])⟩,
    ⟨(some 17), none, (.prim .mov [(.tmp 5)])⟩,
    ⟨(some 18), none, (.prim (.bin .mul) [(.const (.int .i64 8)), (.tmp 17)])⟩,
    ⟨(some 19), none, (.prim (.bin .sub) [(.const (.int .i64 56)), (.tmp 18)])⟩,
    ⟨(some 20), none, (.prim (.bin .shr) [(.tmp 16), (.tmp 19)])⟩,
    ⟨(some 21), none, (.prim (.toInt .u8) [(.tmp 20)])⟩,
    ⟨(some 22), none, (.prim (.iptr []) [(.tmp 14), (.tmp 15)])⟩,
    ⟨none, none, (.store 4 (some 22) (.tmp 21))⟩] [5, 15, 16, 17, 18, 19, 20, 21, 22])))
  (.region [⟨(some 23), none, (.prim (.bin .add) [(.tmp 11), (.const (.int .i64 1))])⟩,
    ⟨(some 11), none, (.prim .mov [(.tmp 23)])⟩] [23]))))
def A72x1 : VCode := (.seq (.region [⟨(some 9), none, (.prim .mov [(.tmp 4)])⟩,
    ⟨(some 10), none, (.prim .len [(.tmp 9)])⟩,
    ⟨(some 11), none, (.prim .mov [(.const (.int .i64 0))])⟩] [9])
  (.block 0 (.loop kL72x2 L72x2)))
def B72x1 : VCode := (.seq (.region [⟨(some 24), none, (.prim .mov [(.tmp 4)])⟩,
    ⟨(some 25), none, (.prim .toStr [(.tmp 24)])⟩,
    ⟨(some 2), none, (.prim .mov [(.tmp 25)])⟩] [4, 24, 25])
  .ret)

/-- vmfleet/eventlog.sum -/
def F72 : VFunc := ⟨26,
  (.seq (.region [⟨(some 2), none, (.prim .mov [(.const (.str []))])⟩] [2])
  (.seq (.region [⟨(some 6), none, (.prim .mov [(.tmp 0)])⟩,
    ⟨(some 7), none, (.call 94 1 [(.const (.int .u64 14695981039346656037)), (.tmp 6)] [])⟩,
    ⟨(some 3), none, (.prim .mov [(.tmp 7)])⟩] [0, 6, 7])
  (.seq (.region [⟨(some 8), none, (.prim (.mkSl (.int .u8 0) 1) [(.const (.int .i64 8)), (.const (.int .i64 8))])⟩,
    ⟨(some 4), none, (.prim .mov [(.tmp 8)])⟩] [8])
  (.seq A72x1
  B72x1)))), [2], []⟩
theorem c72 : compile Try.prog sg 72 = some F72 := by kernel_rfl


/-- (*vmfleet/eventlog.reader).number -/
def F73 : VFunc := ⟨35,
  (.seq (.region [⟨(some 2), none, (.prim .mov [(.const (.int .u64 0))])⟩] [2])
  (.seq (.region [⟨(some 7), none, (.prim .mov [(.const (.ptr []))])⟩,
    ⟨(some 8), none, (.prim .mov [(.tmp 7)])⟩,
    ⟨(some 9), none, (.prim (.fptr 0) [(.tmp 8)])⟩,
    ⟨(some 10), none, (.prim .load [(.tmp 0), (.tmp 9)])⟩,
    ⟨(some 11), none, (.call 63 3 [(.tmp 10)] [])⟩,
    ⟨(some 6), none, (.prim .mov [(.tmp 11)])⟩,
    ⟨(some 12), none, (.prim (.ext 0) [(.tmp 6)])⟩,
    ⟨(some 13), none, (.prim (.ext 1) [(.tmp 6)])⟩,
    ⟨(some 14), none, (.prim (.ext 2) [(.tmp 6)])⟩,
    ⟨(some 3), none, (.prim .mov [(.tmp 12)])⟩,
    ⟨(some 4), none, (.prim .mov [(.tmp 13)])⟩,
    ⟨(some 5), none, (.prim .mov [(.tmp 14)])⟩] [6, 7, 8, 9, 10, 11, 12, 13, 14])
  (.seq (.region [⟨(some 15), none, (.prim .mov [(.const (.ptr []))])⟩,
    ⟨(some 16), none, (.prim .mov [(.const (.ptr []))])⟩,
    ⟨(some 17), none, (.prim .mov [(.tmp 16)])⟩,
    ⟨(some 18), none, (.prim (.fptr 1) [(.tmp 17)])⟩,
    ⟨(some 19), none, (.prim .load [(.tmp 0), (.tmp 18)])⟩,
    ⟨(some 20), none, (.prim .mov [(.tmp 19)])⟩,
    ⟨(some 21), (some (20, true)), (.prim .mov [(.tmp 5)])⟩,
    ⟨(some 22), none, (.pick (.tmp 20) (.tmp 21) (.const (.bool false)))⟩,
    ⟨(some 23), none, (.prim .mov [(.tmp 15)])⟩,
    ⟨(some 24), none, (.prim (.fptr 1) [(.tmp 23)])⟩,
    ⟨none, none, (.store 0 (some 24) (.tmp 22))⟩] [5, 15, 16, 17, 18, 19, 20, 21, 22, 23, 24])
  (.seq (.region [⟨(some 25), none, (.prim .mov [(.const (.ptr []))])⟩,
    ⟨(some 26), none, (.prim .mov [(.const (.ptr []))])⟩,
    ⟨(some 27), none, (.prim .mov [(.tmp 26)])⟩,
    ⟨(some 28), none, (.prim (.fptr 0) [(.tmp 27)])⟩,
    ⟨(some 29), none, (.prim .load [(.tmp 0), (.tmp 28)])⟩,
    ⟨(some 30), none, (.prim .mov [(.tmp 4)])⟩,
    ⟨(some 31), none, (.prim (.sl true false) [(.tmp 29), (.tmp 30)])⟩,
    ⟨(some 32), none, (.prim .mov [(.tmp 25)])⟩,
    ⟨(some 33), none, (.prim (.fptr 0) [(.tmp 32)])⟩,
    ⟨none, none, (.store 0 (some 33) (.tmp 31))⟩] [4, 25, 26, 27, 28, 29, 30, 31, 32, 33])
  (.seq (.region [⟨(some 34), none, (.prim .mov [(.tmp 3)])⟩,
    ⟨(some 2), none, (.prim .mov [(.tmp 34)])⟩] [3, 34])
  .ret))))), [2], [0]⟩
theorem c73 : compile Try.prog sg 73 = some F73 := by kernel_rfl


/-- (*vmfleet/eventlog.reader).text -/
def F74 : VFunc := ⟨34,
  (.seq (.region [⟨(some 2), none, (.prim .mov [(.const (.str []))])⟩] [2])
  (.seq (.region [⟨(some 5), none, (.prim .mov [(.const (.ptr []))])⟩,
    ⟨(some 6), none, (.call 73 1 [(.deref 0 (some 5))] [(0, (some 5))])⟩,
    ⟨(some 3), none, (.prim .mov [(.tmp 6)])⟩] [5, 6])
  (.seq (.seq (.region [⟨(some 7), none, (.prim .mov [(.tmp 3)])⟩,
    ⟨(some 8), none, (.prim .mov [(.const (.ptr []))])⟩,
    ⟨(some 9), none, (.prim .mov [(.tmp 8)])⟩,
    ⟨(some 10), none, (.prim (.fptr 0) [(.tmp 9)])⟩,
    ⟨(some 11), none, (.prim .load [(.tmp 0), (.tmp 10)])⟩,
    ⟨(some 12), none, (.prim .len [(.tmp 11)])⟩,
    ⟨(some 13), none, (.prim (.toInt .u64) [(.tmp 12)])⟩,
    ⟨(some 14), none, (.prim (.bin .gtr) [(.tmp 7), (.tmp 13)])⟩] [7, 8, 9, 10, 11, 12, 13])
  (.cond (.tmp 14)
  (.seq (.region [⟨(some 15), none, (.prim .mov [(.const (.ptr []))])⟩,
    ⟨(some 16), none, (.prim .mov [(.tmp 15)])⟩,
    ⟨(some 17), none, (.prim (.fptr 1) [(.tmp 16)])⟩,
    ⟨none, none, (.store 0 (some 17) (.const (.bool false)))⟩] [3, 14, 15, 16, 17])
  (.seq (.region [⟨(some 2), none, (.prim .mov [(.const (.str []))])⟩] [])
  .ret))
  .skip))
  (.seq (.region [⟨(some 18), none, (.prim .mov [(.const (.ptr []))])⟩,
    ⟨(some 19), none, (.prim .mov [(.tmp 18)])⟩,
    ⟨(some 20), none, (.prim (.fptr 0) [(.tmp 19)])⟩,
    ⟨(some 21), none, (.prim .load [(.tmp 0), (.tmp 20)])⟩,
    ⟨(some 22), none, (.prim .mov [(.tmp 3)])⟩,
    ⟨(some 23), none, (.prim (.sl false true) [(.tmp 21), (.tmp 22)])⟩,
    ⟨(some 4), none, (.prim .mov [(.tmp 23)])⟩] [14, 18, 19, 20, 21, 22, 23])
  (.seq (.region [⟨(some 24), none, (.prim .mov [(.const (.ptr []))])⟩,
    ⟨(some 25), none, (.prim .mov [(.const (.ptr []))])⟩,
    ⟨(some 26), none, (.prim .mov [(.tmp 25)])⟩,
    ⟨(some 27), none, (.prim (.fptr 0) [(.tmp 26)])⟩,
    ⟨(some 28), none, (.prim .load [(.tmp 0), (.tmp 27)])⟩,
    ⟨(some 29), none, (.prim .mov [(.tmp 3)])⟩,
    ⟨(some 30), none, (.prim (.sl true false) [(.tmp 28), (.tmp 29)])⟩,
    ⟨(some 31), none, (.prim .mov [(.tmp 24)])⟩,
    ⟨(some 32), none, (.prim (.fptr 0) [(.tmp 31)])⟩,
    ⟨none, none, (.store 0 (some 32) (.tmp 30))⟩] [3, 24, 25, 26, 27, 28, 29, 30, 31, 32])
  (.seq (.region [⟨(some 33), none, (.prim .mov [(.tmp 4)])⟩,
    ⟨(some 2), none, (.prim .mov [(.tmp 33)])⟩] [4, 33])
  .ret)))))), [2], [0]⟩
theorem c74 : compile Try.prog sg 74 = some F74 := by kernel_rfl

def kL75x2 : List Nat := [1, 2, 5, 6, 7, 8, 9, 10, 11, 12, 13, 14, 15, 16, 17, 18]
def L75x2 : VCode := (.seq (.seq (.region [⟨(some 5), none, (.prim .mov [(.tmp 4)])⟩,
    ⟨(some 6), none, (.prim (.bin .geq) [(.tmp 5), (.const (.int .i64 0))])⟩] [5])
  (.cond (.tmp 6)
  .skip
  (.seq (.region [] [0, 1, 2, 4, 5, 6, 7, 8, 9, 10, 11, 12, 13, 14, 15, 16, 17, 18])
  (.exit 0))))
  (.seq (.block 1 (.region [⟨(some 9), none, (.prim .mov [(.tmp 3)])⟩,
    ⟨(some 10), none, (.prim .mov [(.tmp 0)])⟩,
    ⟨(some 11), none, (.prim .mov [(.tmp 4)])⟩,
    ⟨(some 12), none, (.prim (.toInt .u64) [(.tmp 11)])⟩,
    ⟨(some 13), none, (.prim (.bin .shr) [(.tmp 10), (.tmp 12)])⟩,
    ⟨(some 14), none, (.prim (.toInt .u8) [(.tmp 13)])⟩,
    ⟨(some 15), none, (.prim (.buildSl (.int .u8 0) 1 [0]) [(.tmp 14)])⟩,
    ⟨(some 16), none, (.prim (.app 1) [(.tmp 9), (.tmp 15)])⟩,
    ⟨(some 3), none, (.prim .mov [(.tmp 16)])⟩] [6, 10, 11, 12, 13, 14, 15, 16]))
  (.region [⟨(some 7), none, (.prim .mov [(.tmp 4)])⟩,
    ⟨(some 8), none, (.prim (.bin .sub) [(.tmp 7), (.const (.int .i64 8))])⟩,
    ⟨(some 4), none, (.prim .mov [(.tmp 8)])⟩] [7, 8])))
def A75x1 : VCode := (.seq (.region [⟨(some 4), none, (.prim .mov [(.const (.int .i64 56))])⟩] [])
  (.block 0 (.loop kL75x2 L75x2)))
def B75x1 : VCode := (.seq (.region [⟨(some 17), none, (.prim .mov [(.tmp 3)])⟩,
    ⟨(some 18), none, (.prim .toStr [(.tmp 17)])⟩,
    ⟨(some 2), none, (.prim .mov [(.tmp 18)])⟩] [3, 17, 18])
  .ret)

/-- vmfleet/vmfleetref19.eight -/
def F75 : VFunc := ⟨19,
  (.seq (.region [⟨(some 2), none, (.prim .mov [(.const (.str []))])⟩] [2])
  (.seq (.region [⟨(some 3), none, (.prim .mov [(.const (.slice true []))])⟩] [])
  (.seq A75x1
  B75x1))), [2], []⟩
theorem c75 : compile Try.prog sg 75 = some F75 := by kernel_rfl

def kL76x2 : List Nat := [2, 3, 4, 6, 7, 8, 9, 10, 11, 12, 13, 14, 15, 16, 17, 18, 19]
def L76x2 : VCode := (.seq (.seq (.region [⟨(some 6), none, (.prim .mov [(.tmp 5)])⟩,
    ⟨(some 7), none, (.prim .mov [(.tmp 1)])⟩,
    ⟨(some 8), none, (.prim .len [(.tmp 7)])⟩,
    ⟨(some 9), none, (.prim (.bin .lss) [(.tmp 6), (.tmp 8)])⟩] [6, 7, 8])
  (.cond (.tmp 9)
  .skip
  (.seq (.region [] [1, 2, 3, 4, 5, 6, 7, 8, 9, 10, 11, 12, 13, 14, 15, 16, 17, 18, 19])
  (.exit 0))))
  (.seq (.block 1 (.region [⟨(some 12), none, (.prim .mov [(.tmp 0)])⟩,
    ⟨(some 13), none, (.prim .mov [(.tmp 1)])⟩,
    ⟨(some 14), none, (.prim .mov [(.tmp 5)])⟩,
    ⟨(some 15), none, (.prim .index [(.tmp 13), (.tmp 14)])⟩,
    ⟨(some 16), none, (.prim (.toInt .u64) [(.tmp 15)])⟩,
    ⟨(some 17), none, (.prim (.bin .xor) [(.tmp 12), (.tmp 16)])⟩,
    ⟨(some 18), none, (.prim (.bin .mul) [(.tmp 17), (.const (.int .u64 1099511628211))])⟩,
    ⟨(some 0), none, (.prim .mov [(.tmp 18)])⟩] [9, 12, 13, 14, 15, 16, 17, 18]))
  (.region [⟨(some 10), none, (.prim .mov [(.tmp 5)])⟩,
    ⟨(some 11), none, (.prim (.bin .add) [(.tmp 10), (.const (.int .i64 1))])⟩,
    ⟨(some 5), none, (.prim .mov [(.tmp 11)])⟩] [10, 11])))
def A76x1 : VCode := (.seq (.region [⟨(some 5), none, (.prim .mov [(.const (.int .i64 0))])⟩] [])
  (.block 0 (.loop kL76x2 L76x2)))
def B76x1 : VCode := (.seq (.region [⟨(some 19), none, (.prim .mov [(.tmp 0)])⟩,
    ⟨(some 4), none, (.prim .mov [(.tmp 19)])⟩] [0, 19])
  .ret)

/-- vmfleet/vmfleetref1.Hash -/
def F76 : VFunc := ⟨20,
  (.seq (.region [⟨(some 4), none, (.prim .mov [(.const (.int .u64 0))])⟩] [4])
  (.seq A76x1
  B76x1)), [4], []⟩
theorem c76 : compile Try.prog sg 76 = some F76 := by kernel_rfl


/-- (*vmfleet/vmfleetref19.reader).number -/
def F77 : VFunc := ⟨36,
  (.seq (.region [⟨(some 2), none, (.prim .mov [(.const (.int .u64 0))])⟩] [2])
  (.seq (.region [⟨(some 7), none, (.prim .mov [(.const (.ptr []))])⟩,
    ⟨(some 8), none, (.prim .mov [(.tmp 7)])⟩,
    ⟨(some 9), none, (.prim (.fptr 0) [(.tmp 8)])⟩,
    ⟨(some 10), none, (.prim .load [(.tmp 0), (.tmp 9)])⟩,
    ⟨(some 11), none, (.call 90 3 [(.tmp 10)] [])⟩,
    ⟨(some 6), none, (.prim .mov [(.tmp 11)])⟩,
    ⟨(some 12), none, (.prim (.ext 0) [(.tmp 6)])⟩,
    ⟨(some 13), none, (.prim (.ext 1) [(.tmp 6)])⟩,
    ⟨(some 14), none, (.prim (.ext 2) [(.tmp 6)])⟩,
    ⟨(some 3), none, (.prim .mov [(.tmp 12)])⟩,
    ⟨(some 4), none, (.prim .mov [(.tmp 13)])⟩,
    ⟨(some 5), none, (.prim .mov [(.tmp 14)])⟩] [6, 7, 8, 9, 10, 11, 12, 13, 14])
  (.seq (.seq (.region [⟨(some 15), none, (.prim .mov [(.const (.ptr []))])⟩,
    ⟨(some 16), none, (.prim .mov [(.tmp 15)])⟩,
    ⟨(some 17), none, (.prim (.fptr 1) [(.tmp 16)])⟩,
    ⟨(some 18), none, (.prim .load [(.tmp 0), (.tmp 17)])⟩,
    ⟨(some 19), none, (.prim .mov [(.tmp 18)])⟩,
    ⟨(some 20), (some (19, false)), (.prim .mov [(.tmp 5)])⟩,
    ⟨(some 21), (some (19, false)), (.prim (.un .not) [(.tmp 20)])⟩,
    ⟨(some 22), none, (.pick (.tmp 19) (.const (.bool true)) (.tmp 21))⟩] [5, 15, 16, 17, 18, 19, 20, 21])
  (.cond (.tmp 22)
  (.seq (.region [⟨(some 23), none, (.prim .mov [(.const (.ptr []))])⟩,
    ⟨(some 24), none, (.prim .mov [(.tmp 23)])⟩,
    ⟨(some 25), none, (.prim (.fptr 1) [(.tmp 24)])⟩,
    ⟨none, none, (.store 0 (some 25) (.const (.bool true)))⟩] [3, 4, 22, 23, 24, 25])
  (.seq (.region [⟨(some 2), none, (.prim .mov [(.const (.int .u64 0))])⟩] [])
  .ret))
  .skip))
  (.seq (.region [⟨(some 26), none, (.prim .mov [(.const (.ptr []))])⟩,
    ⟨(some 27), none, (.prim .mov [(.const (.ptr []))])⟩,
    ⟨(some 28), none, (.prim .mov [(.tmp 27)])⟩,
    ⟨(some 29), none, (.prim (.fptr 0) [(.tmp 28)])⟩,
    ⟨(some 30), none, (.prim .load [(.tmp 0), (.tmp 29)])⟩,
    ⟨(some 31), none, (.prim .mov [(.tmp 4)])⟩,
    ⟨(some 32), none, (.prim (.sl true false) [(.tmp 30), (.tmp 31)])⟩,
    ⟨(some 33), none, (.prim .mov [(.tmp 26)])⟩,
    ⟨(some 34), none, (.prim (.fptr 0) [(.tmp 33)])⟩,
    ⟨none, none, (.store 0 (some 34) (.tmp 32))⟩] [4, 22, 26, 27, 28, 29, 30, 31, 32, 33, 34])
  (.seq (.region [⟨(some 35), none, (.prim .mov [(.tmp 3)])⟩,
    ⟨(some 2), none, (.prim .mov [(.tmp 35)])⟩] [3, 35])
  .ret))))), [2], [0]⟩
theorem c77 : compile Try.prog sg 77 = some F77 := by kernel_rfl


/-- (*vmfleet/vmfleetref19.reader).bytes -/
def F78 : VFunc := ⟨39,
  (.seq (.region [⟨(some 4), none, (.prim .mov [(.const (.str []))])⟩] [4])
  (.seq (.seq (.region [⟨(some 6), none, (.prim .mov [(.const (.ptr []))])⟩,
    ⟨(some 7), none, (.prim .mov [(.tmp 6)])⟩,
    ⟨(some 8), none, (.prim (.fptr 1) [(.tmp 7)])⟩,
    ⟨(some 9), none, (.prim .load [(.tmp 0), (.tmp 8)])⟩,
    ⟨(some 10), none, (.prim .mov [(.tmp 9)])⟩,
    ⟨(some 11), (some (10, false)), (.prim .mov [(.tmp 1)])⟩,
    ⟨(some 12), (some (10, false)), (.prim .mov [(.const (.ptr []))])⟩,
    ⟨(some 13), (some (10, false)), (.prim .mov [(.tmp 12)])⟩,
    ⟨(some 14), (some (10, false)), (.prim (.fptr 0) [(.tmp 13)])⟩,
    ⟨(some 15), (some (10, false)), (.prim .load [(.tmp 0), (.tmp 14)])⟩,
    ⟨(some 16), (some (10, false)), (.prim .len [(.tmp 15)])⟩,
    ⟨(some 17), (some (10, false)), (.prim (.toInt .u64) [(.tmp 16)])⟩,
    ⟨(some 18), (some (10, false)), (.prim (.bin .gtr) [(.tmp 11), (.tmp 17)])⟩,
    ⟨(some 19), none, (.pick (.tmp 10) (.const (.bool true)) (.tmp 18))⟩] [6, 7, 8, 9, 10, 11, 12, 13, 14, 15, 16, 17, 18])
  (.cond (.tmp 19)
  (.seq (.region [⟨(some 20), none, (.prim .mov [(.const (.ptr []))])⟩,
    ⟨(some 21), none, (.prim .mov [(.tmp 20)])⟩,
    ⟨(some 22), none, (.prim (.fptr 1) [(.tmp 21)])⟩,
    ⟨none, none, (.store 0 (some 22) (.const (.bool true)))⟩] [1, 19, 20, 21, 22])
  (.seq (.region [⟨(some 4), none, (.prim .mov [(.const (.str []))])⟩] [])
  .ret))
  .skip))
  (.seq (.region [⟨(some 23), none, (.prim .mov [(.const (.ptr []))])⟩,
    ⟨(some 24), none, (.prim .mov [(.tmp 23)])⟩,
    ⟨(some 25), none, (.prim (.fptr 0) [(.tmp 24)])⟩,
    ⟨(some 26), none, (.prim .load [(.tmp 0), (.tmp 25)])⟩,
    ⟨(some 27), none, (.prim .mov [(.tmp 1)])⟩,
    ⟨(some 28), none, (.prim (.sl false true) [(.tmp 26), (.tmp 27)])⟩,
    ⟨(some 5), none, (.prim .mov [(.tmp 28)])⟩] [19, 23, 24, 25, 26, 27, 28])
  (.seq (.region [⟨(some 29), none, (.prim .mov [(.const (.ptr []))])⟩,
    ⟨(some 30), none, (.prim .mov [(.const (.ptr []))])⟩,
    ⟨(some 31), none, (.prim .mov [(.tmp 30)])⟩,
    ⟨(some 32), none, (.prim (.fptr 0) [(.tmp 31)])⟩,
    ⟨(some 33), none, (.prim .load [(.tmp 0), (.tmp 32)])⟩,
    ⟨(some 34), none, (.prim .mov [(.tmp 1)])⟩,
    ⟨(some 35), none, (.prim (.sl true false) [(.tmp 33), (.tmp 34)])⟩,
    ⟨(some 36), none, (.prim .mov [(.tmp 29)])⟩,
    ⟨(some 37), none, (.prim (.fptr 0) [(.tmp 36)])⟩,
    ⟨none, none, (.store 0 (some 37) (.tmp 35))⟩] [1, 29, 30, 31, 32, 33, 34, 35, 36, 37])
  (.seq (.region [⟨(some 38), none, (.prim .mov [(.tmp 5)])⟩,
    ⟨(some 4), none, (.prim .mov [(.tmp 38)])⟩] [5, 38])
  .ret))))), [4], [0]⟩
theorem c78 : compile Try.prog sg 78 = some F78 := by kernel_rfl

def kL90x2 : List Nat := [1, 2, 3, 4, 7, 8, 9, 10, 11, 12, 13, 14, 15, 16, 17, 18, 19, 20, 21, 22, 23, 24, 25, 26, 27, 28, 29, 30, 31, 32, 33, 34, 35, 36, 37, 38, 39, 40, 41, 42, 43, 44, 45, 46]
def L90x2 : VCode := (.seq (.seq (.region [⟨(some 8), none, (.prim .mov [(.tmp 6)])⟩,
    ⟨(some 9), none, (.prim .mov [(.tmp 0)])⟩,
    ⟨(some 10), none, (.prim .len [(.tmp 9)])⟩,
    ⟨(some 11), none, (.prim (.bin .lss) [(.tmp 8), (.tmp 10)])⟩,
    ⟨(some 12), none, (.prim .mov [(.tmp 11)])⟩,
    ⟨(some 13), (some (12, true)), (.prim .mov [(.tmp 6)])⟩,
    ⟨(some 14), (some (12, true)), (.prim (.bin .lss) [(.tmp 13), (.const (.int .i64 10))])⟩,
    ⟨(some 15), none, (.pick (.tmp 12) (.tmp 14) (.const (.bool false)))⟩] [8, 9, 10, 11, 12])
  (.cond (.tmp 15)
  .skip
  (.seq (.region [] [0, 1, 2, 3, 4, 5, 6, 7, 8, 9, 10, 11, 12, 13, 14, 15, 16, 17, 18, 19, 20, 21, 22, 23, 24, 25, 26, 27, 28, 29, 30, 31, 32, 33, 34, 35, 36, 37, 38, 39, 40, 41, 42, 43, 44, 45, 46])
  (.exit 0))))
  (.seq (.block 1 (.seq (.region [⟨(some 18), none, (.prim .mov [(.tmp 0)])⟩,
    ⟨(some 19), none, (.prim .mov [(.tmp 6)])⟩,
    ⟨(some 20), none, (.prim .index [(.tmp 18), (.tmp 19)])⟩,
    ⟨(some 21), none, (.prim (.toInt .u64) [(.tmp 20)])⟩,
    ⟨(some 7), none, (.prim .mov [(.tmp 21)])⟩] [15, 18, 19, 20, 21])
  (.seq (.seq (.region [⟨(some 22), none, (.prim .mov [(.tmp 6)])⟩,
    ⟨(some 23), none, (.prim (.bin .eql) [(.tmp 22), (.const (.int .i64 9))])⟩,
    ⟨(some 24), none, (.prim .mov [(.tmp 23)])⟩,
    ⟨(some 25), (some (24, true)), (.prim .mov [(.tmp 7)])⟩,
    ⟨(some 26), (some (24, true)), (.prim (.bin .gtr) [(.tmp 25), (.const (.int .u64 1))])⟩,
    ⟨(some 27), none, (.pick (.tmp 24) (.tmp 26) (.const (.bool false)))⟩] [22, 23, 24])
  (.cond (.tmp 27)
  (.seq (.region [⟨(some 2), none, (.prim .mov [(.const (.int .u64 0))])⟩,
    ⟨(some 3), none, (.prim .mov [(.const (.int .i64 0))])⟩,
    ⟨(some 4), none, (.prim .mov [(.const (.bool false))])⟩] [0, 5, 6, 7, 13, 14, 25, 26, 27])
  .ret)
  .skip))
  (.seq (.region [⟨(some 28), none, (.prim .mov [(.tmp 5)])⟩,
    ⟨(some 29), none, (.prim .mov [(.tmp 7)])⟩,
    ⟨(some 30), none, (.prim (.bin .and) [(.tmp 29), (.const (.int .u64 127))])⟩,
    ⟨(some 31), none, (.prim .mov [(.tmp 6)])⟩,
    ⟨(some 32), none, (.prim (.bin .mul) [(.const (.int .i64 7)), (.tmp 31)])⟩,
    ⟨(some 33), none, (.prim (.toInt .u64) [(.tmp 32)])⟩,
    ⟨(some 34), none, (.prim (.bin .shl) [(.tmp 30), (.tmp 33)])⟩,
    ⟨(some 35), none, (.prim (.bin .or) [(.tmp 28), (.tmp 34)])⟩,
    ⟨(some 5), none, (.prim .mov [(.tmp 35)])⟩] [27, 28, 29, 30, 31, 32, 33, 34, 35])
  (.seq (.region [⟨(some 36), none, (.prim .mov [(.tmp 7)])⟩,
    ⟨(some 37), none, (.prim (.bin .lss) [(.tmp 36), (.const (.int .u64 128))])⟩] [36])
  (.cond (.tmp 37)
  (.seq (.seq (.region [⟨(some 38), none, (.prim .mov [(.tmp 6)])⟩,
    ⟨(some 39), none, (.prim (.bin .gtr) [(.tmp 38), (.const (.int .i64 0))])⟩,
    ⟨(some 40), none, (.prim .mov [(.tmp 39)])⟩,
    ⟨(some 41), (some (40, true)), (.prim .mov [(.tmp 7)])⟩,
    ⟨(some 42), (some (40, true)), (.prim (.bin .eql) [(.tmp 41), (.const (.int .u64 0))])⟩,
    ⟨(some 43), none, (.pick (.tmp 40) (.tmp 42) (.const (.bool false)))⟩] [0, 7, 13, 14, 25, 26, 37, 38, 39, 40, 41, 42])
  (.cond (.tmp 43)
  (.seq (.region [⟨(some 2), none, (.prim .mov [(.const (.int .u64 0))])⟩,
    ⟨(some 3), none, (.prim .mov [(.const (.int .i64 0))])⟩,
    ⟨(some 4), none, (.prim .mov [(.const (.bool false))])⟩] [5, 6, 43])
  .ret)
  .skip))
  (.seq (.region [⟨(some 44), none, (.prim .mov [(.tmp 5)])⟩,
    ⟨(some 45), none, (.prim .mov [(.tmp 6)])⟩,
    ⟨(some 46), none, (.prim (.bin .add) [(.tmp 45), (.const (.int .i64 1))])⟩,
    ⟨(some 2), none, (.prim .mov [(.tmp 44)])⟩,
    ⟨(some 3), none, (.prim .mov [(.tmp 46)])⟩,
    ⟨(some 4), none, (.prim .mov [(.const (.bool true))])⟩] [5, 6, 43, 44, 45, 46])
  .ret))
  .skip))))))
  (.region [⟨(some 16), none, (.prim .mov [(.tmp 6)])⟩,
    ⟨(some 17), none, (.prim (.bin .add) [(.tmp 16), (.const (.int .i64 1))])⟩,
    ⟨(some 6), none, (.prim .mov [(.tmp 17)])⟩] [7, 16, 17, 37])))
def A90x1 : VCode := (.seq (.region [⟨(some 6), none, (.prim .mov [(.const (.int .i64 0))])⟩] [])
  (.block 0 (.loop kL90x2 L90x2)))
def B90x1 : VCode := (.seq (.region [⟨(some 2), none, (.prim .mov [(.const (.int .u64 0))])⟩,
    ⟨(some 3), none, (.prim .mov [(.const (.int .i64 0))])⟩,
    ⟨(some 4), none, (.prim .mov [(.const (.bool false))])⟩] [])
  .ret)

/-- vmfleet/vmfleetref1.Uvarint -/
def F90 : VFunc := ⟨47,
  (.seq (.region [⟨(some 2), none, (.prim .mov [(.const (.int .u64 0))])⟩,
    ⟨(some 3), none, (.prim .mov [(.const (.int .i64 0))])⟩,
    ⟨(some 4), none, (.prim .mov [(.const (.bool false))])⟩] [2, 3, 4])
  (.seq (.region [⟨(some 5), none, (.prim .mov [(.const (.int .u64 0))])⟩] [])
  (.seq A90x1
  B90x1))), [2, 3, 4], []⟩
theorem c90 : compile Try.prog sg 90 = some F90 := by kernel_rfl

def kL94x2 : List Nat := [2, 3, 4, 5, 6, 9, 10, 11, 12, 13, 14, 15, 16, 17, 18, 19]
def L94x2 : VCode := (.seq (.region [⟨(some 9), none, (.prim (.bin .lss) [(.tmp 8), (.tmp 7)])⟩] [])
  (.seq (.cond (.tmp 9)
  .skip
  (.seq (.region [] [1, 2, 3, 4, 5, 6, 7, 8, 9, 10, 11, 12, 13, 14, 15, 16, 17, 18, 19])
  (.exit 0)))
  (.seq (.block 1 (.seq (.region [⟨(some 10), none, (.prim .mov [(.tmp 8)])⟩,
    ⟨(some 5), none, (.prim .mov [(.tmp 10)])⟩] [9, 10])
  (.region [⟨(some 11), none, (.prim .mov [(.tmp 0)])⟩,
    ⟨(some 12), none, (.prim .mov [(.tmp 1)])⟩,
    ⟨(some 13), none, (.prim .mov [(.tmp 5)])⟩,
    ⟨(some 14), none, (.prim .index [(.tmp 12), (.tmp 13)])⟩,
    ⟨(some 15), none, (.prim (.toInt .u64) [(.tmp 14)])⟩,
    ⟨(some 16), none, (.prim (.bin .xor) [(.tmp 11), (.tmp 15)])⟩,
    ⟨(some 17), none, (.prim (.bin .mul) [(.tmp 16), (.const (.int .u64 1099511628211))])⟩,
    ⟨(some 0), none, (.prim .mov [(.tmp 17)])⟩] [5, 11, 12, 13, 14, 15, 16, 17])))
  (.region [⟨(some 18), none, (.prim (.bin .add) [(.tmp 8), (.const (.int .i64 1))])⟩,
    ⟨(some 8), none, (.prim .mov [(.tmp 18)])⟩] [18]))))
def A94x1 : VCode := (.seq (.region [⟨(some 6), none, (.prim .mov [(.tmp 1)])⟩,
    ⟨(some 7), none, (.prim .len [(.tmp 6)])⟩,
    ⟨(some 8), none, (.prim .mov [(.const (.int .i64 0))])⟩] [6])
  (.block 0 (.loop kL94x2 L94x2)))
def B94x1 : VCode := (.seq (.region [⟨(some 19), none, (.prim .mov [(.tmp 0)])⟩,
    ⟨(some 4), none, (.prim .mov [(.tmp 19)])⟩] [0, 19])
  .ret)

/-- vmfleet/bits.Hash -/
def F94 : VFunc := ⟨20,
  (.seq (.region [⟨(some 4), none, (.prim .mov [(.const (.int .u64 0))])⟩] [4])
  (.seq A94x1
  B94x1)), [4], []⟩
theorem c94 : compile Try.prog sg 94 = some F94 := by kernel_rfl

noncomputable def T : Nat → Option VFunc := fun f => compile Try.prog sg f
/-! vmfleet/vmfleetlaw27.HeartTells -/
theorem f6 (t0 t1 t2 t3 t4 : PV) {rs : List PV} (h : (Option.bind (chk t0 fun a0 => Prim.run .mov [a0]) fun t5 =>
  Option.bind (Prim.run .mov [(.bool false)]) fun t10 =>
  Option.bind (chk t4 fun a0 => Prim.run .mov [a0]) fun t25 =>
  Option.bind (chk t25 fun a0 => Prim.run .len [a0]) fun t26 =>
  Option.bind (chk t26 fun a0 => Prim.run (.bin .gtr) [a0, (.int .i64 200)]) fun t27 =>
  chk t27 fun c0 => isB c0
 (Option.bind (Option.bind (Ans T 28 []) fun rs => retV 1 rs) fun t28 =>
  Option.bind (chk t28 fun a0 => Prim.run .mov [a0]) fun t10 =>
  allDef [t10])
 (Option.bind (chk t1 fun a0 => Prim.run .mov [a0]) fun t30 =>
  Option.bind (chk t30 fun a0 => Option.bind (Ans T 29 [a0]) fun rs => retV 2 rs) fun t31 =>
  Option.bind (chk t31 fun a0 => Prim.run .mov [a0]) fun t29 =>
  Option.bind (chk t29 fun a0 => Prim.run (.ext 0) [a0]) fun t32 =>
  Option.bind (chk t29 fun a0 => Prim.run (.ext 1) [a0]) fun t33 =>
  Option.bind (Prim.run .mov [(.agg [(.int .i64 0), (.int .i64 0), (.int .u64 0)])]) fun t11 =>
  chk t32 fun a0 => chk t11 fun y0 => Option.bind (setP [] y0 a0) fun t11 =>
  Option.bind (chk t33 fun a0 => Prim.run .mov [a0]) fun t12 =>
  Option.bind (chk t1 fun a0 => Prim.run .mov [a0]) fun t35 =>
  Option.bind (chk t35 fun a0 => Option.bind (Ans T 30 [a0]) fun rs => retV 2 rs) fun t36 =>
  Option.bind (chk t36 fun a0 => Prim.run .mov [a0]) fun t34 =>
  Option.bind (chk t34 fun a0 => Prim.run (.ext 0) [a0]) fun t37 =>
  Option.bind (chk t34 fun a0 => Prim.run (.ext 1) [a0]) fun t38 =>
  Option.bind (Prim.run .mov [(.agg [(.int .i64 0), (.int .i64 0), (.int .u64 0)])]) fun t13 =>
  chk t37 fun a0 => chk t13 fun y0 => Option.bind (setP [] y0 a0) fun t13 =>
  Option.bind (chk t38 fun a0 => Prim.run .mov [a0]) fun t14 =>
  Option.bind (chk t5 fun a0 => Prim.run .load [a0, (.ptr [])]) fun t40 =>
  Option.bind (chk t2 fun a0 => Prim.run .mov [a0]) fun t41 =>
  Option.bind (chk t40 fun a0 => chk t41 fun a1 => Option.bind (Ans T 31 [a0, a1]) fun rs => retV 2 rs) fun t42 =>
  Option.bind (chk t42 fun a0 => Prim.run .mov [a0]) fun t39 =>
  Option.bind (chk t39 fun a0 => Prim.run (.ext 0) [a0]) fun t43 =>
  Option.bind (chk t39 fun a0 => Prim.run (.ext 1) [a0]) fun t44 =>
  Option.bind (Prim.run .mov [(.agg [(.int .i64 0), (.int .i64 0), (.int .u64 0)])]) fun t15 =>
  chk t43 fun a0 => chk t15 fun y0 => Option.bind (setP [] y0 a0) fun t15 =>
  Option.bind (chk t44 fun a0 => Prim.run .mov [a0]) fun t16 =>
  Option.bind (chk t5 fun a0 => Prim.run .load [a0, (.ptr [])]) fun t46 =>
  Option.bind (chk t2 fun a0 => Prim.run .mov [a0]) fun t47 =>
  Option.bind (chk t46 fun a0 => chk t47 fun a1 => Option.bind (Ans T 32 [a0, a1]) fun rs => retV 2 rs) fun t48 =>
  Option.bind (chk t48 fun a0 => Prim.run .mov [a0]) fun t45 =>
  Option.bind (chk t45 fun a0 => Prim.run (.ext 0) [a0]) fun t49 =>
  Option.bind (chk t45 fun a0 => Prim.run (.ext 1) [a0]) fun t50 =>
  Option.bind (Prim.run .mov [(.agg [(.int .i64 0), (.int .i64 0), (.int .u64 0)])]) fun t17 =>
  chk t49 fun a0 => chk t17 fun y0 => Option.bind (setP [] y0 a0) fun t17 =>
  Option.bind (chk t50 fun a0 => Prim.run .mov [a0]) fun t18 =>
  Option.bind (chk t4 fun a0 => Prim.run .mov [a0]) fun t52 =>
  Option.bind (chk t52 fun a0 => Option.bind (Ans T 33 [a0]) fun rs => retV 3 rs) fun t53 =>
  Option.bind (chk t53 fun a0 => Prim.run .mov [a0]) fun t51 =>
  Option.bind (chk t51 fun a0 => Prim.run (.ext 0) [a0]) fun t54 =>
  Option.bind (chk t51 fun a0 => Prim.run (.ext 1) [a0]) fun t55 =>
  Option.bind (chk t51 fun a0 => Prim.run (.ext 2) [a0]) fun t56 =>
  Option.bind (chk t54 fun a0 => Prim.run .mov [a0]) fun t19 =>
  Option.bind (chk t55 fun a0 => Prim.run .mov [a0]) fun t20 =>
  Option.bind (chk t56 fun a0 => Prim.run .mov [a0]) fun t21 =>
  Option.bind (chk t4 fun a0 => Prim.run .mov [a0]) fun t58 =>
  Option.bind (chk t58 fun a0 => Option.bind (Ans T 34 [a0]) fun rs => retV 3 rs) fun t59 =>
  Option.bind (chk t59 fun a0 => Prim.run .mov [a0]) fun t57 =>
  Option.bind (chk t57 fun a0 => Prim.run (.ext 0) [a0]) fun t60 =>
  Option.bind (chk t57 fun a0 => Prim.run (.ext 1) [a0]) fun t61 =>
  Option.bind (chk t57 fun a0 => Prim.run (.ext 2) [a0]) fun t62 =>
  Option.bind (chk t60 fun a0 => Prim.run .mov [a0]) fun t22 =>
  Option.bind (chk t61 fun a0 => Prim.run .mov [a0]) fun t23 =>
  Option.bind (chk t62 fun a0 => Prim.run .mov [a0]) fun t24 =>
  Option.bind (chk t5 fun a0 => Prim.run .load [a0, (.ptr [])]) fun t63 =>
  Option.bind (chk t63 fun a0 => Option.bind (Ans T 35 [a0]) fun rs => retV 1 rs) fun t64 =>
  Option.bind (chk t5 fun a0 => Prim.run .load [a0, (.ptr [])]) fun t65 =>
  Option.bind (chk t65 fun a0 => Option.bind (Ans T 36 [a0]) fun rs => retV 1 rs) fun t66 =>
  Option.bind (chk t64 fun a0 => chk t66 fun a1 => Prim.run (.eqv false (.bool false)) [a0, a1]) fun t67 =>
  Option.bind (chk t67 fun a0 => Prim.run .mov [a0]) fun t68 =>
  Option.bind (grd t68 true (chk t11 fun a0 => Prim.run .load [a0, (.ptr [])])) fun t69 =>
  Option.bind (grd t68 true (chk t13 fun a0 => Prim.run .load [a0, (.ptr [])])) fun t70 =>
  Option.bind (grd t68 true (chk t69 fun a0 => chk t70 fun a1 => Prim.run (.eqv false (.agg [(.int .i64 0), (.int .i64 0), (.int .u64 0)])) [a0, a1])) fun t71 =>
  Option.bind (chk t68 fun a0 => isB a0 (chk t71 fun a1 => some a1) (some (.bool false))) fun t72 =>
  Option.bind (chk t72 fun a0 => Prim.run .mov [a0]) fun t73 =>
  Option.bind (grd t73 true (chk t12 fun a0 => Prim.run .mov [a0])) fun t74 =>
  Option.bind (grd t73 true (chk t14 fun a0 => Prim.run .mov [a0])) fun t75 =>
  Option.bind (grd t73 true (chk t74 fun a0 => chk t75 fun a1 => Prim.run (.eqv false (.bool false)) [a0, a1])) fun t76 =>
  Option.bind (chk t73 fun a0 => isB a0 (chk t76 fun a1 => some a1) (some (.bool false))) fun t77 =>
  Option.bind (chk t77 fun a0 => Prim.run .mov [a0]) fun t78 =>
  Option.bind (grd t78 true (chk t5 fun a0 => Prim.run .load [a0, (.ptr [])])) fun t79 =>
  Option.bind (grd t78 true (chk t79 fun a0 => Option.bind (Ans T 37 [a0]) fun rs => retV 1 rs)) fun t80 =>
  Option.bind (grd t78 true (chk t5 fun a0 => Prim.run .load [a0, (.ptr [])])) fun t81 =>
  Option.bind (grd t78 true (chk t81 fun a0 => Option.bind (Ans T 38 [a0]) fun rs => retV 1 rs)) fun t82 =>
  Option.bind (grd t78 true (chk t80 fun a0 => chk t82 fun a1 => Prim.run (.eqv false (.agg [(.int .i64 0), (.int .i64 0), (.int .u64 0)])) [a0, a1])) fun t83 =>
  Option.bind (chk t78 fun a0 => isB a0 (chk t83 fun a1 => some a1) (some (.bool false))) fun t84 =>
  Option.bind (chk t84 fun a0 => Prim.run .mov [a0]) fun t85 =>
  Option.bind (grd t85 true (chk t15 fun a0 => Prim.run .load [a0, (.ptr [])])) fun t86 =>
  Option.bind (grd t85 true (chk t17 fun a0 => Prim.run .load [a0, (.ptr [])])) fun t87 =>
  Option.bind (grd t85 true (chk t86 fun a0 => chk t87 fun a1 => Prim.run (.eqv false (.agg [(.int .i64 0), (.int .i64 0), (.int .u64 0)])) [a0, a1])) fun t88 =>
  Option.bind (chk t85 fun a0 => isB a0 (chk t88 fun a1 => some a1) (some (.bool false))) fun t89 =>
  Option.bind (chk t89 fun a0 => Prim.run .mov [a0]) fun t90 =>
  Option.bind (grd t90 true (chk t16 fun a0 => Prim.run .mov [a0])) fun t91 =>
  Option.bind (grd t90 true (chk t18 fun a0 => Prim.run .mov [a0])) fun t92 =>
  Option.bind (grd t90 true (chk t91 fun a0 => chk t92 fun a1 => Prim.run (.eqv false (.bool false)) [a0, a1])) fun t93 =>
  Option.bind (chk t90 fun a0 => isB a0 (chk t93 fun a1 => some a1) (some (.bool false))) fun t94 =>
  Option.bind (chk t94 fun a0 => Prim.run .mov [a0]) fun t95 =>
  Option.bind (grd t95 true (chk t5 fun a0 => Prim.run .load [a0, (.ptr [])])) fun t96 =>
  Option.bind (grd t95 true (chk t96 fun a0 => Option.bind (Ans T 39 [a0]) fun rs => retV 1 rs)) fun t97 =>
  Option.bind (grd t95 true (chk t5 fun a0 => Prim.run .load [a0, (.ptr [])])) fun t98 =>
  Option.bind (grd t95 true (chk t98 fun a0 => Option.bind (Ans T 40 [a0]) fun rs => retV 1 rs)) fun t99 =>
  Option.bind (grd t95 true (chk t97 fun a0 => chk t99 fun a1 => Prim.run (.eqv false (.bool false)) [a0, a1])) fun t100 =>
  Option.bind (chk t95 fun a0 => isB a0 (chk t100 fun a1 => some a1) (some (.bool false))) fun t101 =>
  Option.bind (chk t101 fun a0 => Prim.run .mov [a0]) fun t102 =>
  Option.bind (grd t102 true (chk t2 fun a0 => Prim.run .mov [a0])) fun t103 =>
  Option.bind (grd t102 true (chk t3 fun a0 => Prim.run .mov [a0])) fun t104 =>
  Option.bind (grd t102 true (chk t103 fun a0 => chk t104 fun a1 => Option.bind (Ans T 41 [a0, a1]) fun rs => retV 1 rs)) fun t105 =>
  Option.bind (grd t102 true (chk t2 fun a0 => Prim.run .mov [a0])) fun t106 =>
  Option.bind (grd t102 true (chk t3 fun a0 => Prim.run .mov [a0])) fun t107 =>
  Option.bind (grd t102 true (chk t106 fun a0 => chk t107 fun a1 => Option.bind (Ans T 42 [a0, a1]) fun rs => retV 1 rs)) fun t108 =>
  Option.bind (grd t102 true (chk t105 fun a0 => chk t108 fun a1 => Prim.run (.bin .eql) [a0, a1])) fun t109 =>
  Option.bind (chk t102 fun a0 => isB a0 (chk t109 fun a1 => some a1) (some (.bool false))) fun t110 =>
  Option.bind (chk t110 fun a0 => Prim.run .mov [a0]) fun t111 =>
  Option.bind (grd t111 true (chk t19 fun a0 => Prim.run .mov [a0])) fun t112 =>
  Option.bind (grd t111 true (chk t22 fun a0 => Prim.run .mov [a0])) fun t113 =>
  Option.bind (grd t111 true (chk t112 fun a0 => chk t113 fun a1 => Prim.run (.bin .eql) [a0, a1])) fun t114 =>
  Option.bind (chk t111 fun a0 => isB a0 (chk t114 fun a1 => some a1) (some (.bool false))) fun t115 =>
  Option.bind (chk t115 fun a0 => Prim.run .mov [a0]) fun t116 =>
  Option.bind (grd t116 true (chk t20 fun a0 => Prim.run .mov [a0])) fun t117 =>
  Option.bind (grd t116 true (chk t23 fun a0 => Prim.run .mov [a0])) fun t118 =>
  Option.bind (grd t116 true (chk t117 fun a0 => chk t118 fun a1 => Prim.run (.bin .eql) [a0, a1])) fun t119 =>
  Option.bind (chk t116 fun a0 => isB a0 (chk t119 fun a1 => some a1) (some (.bool false))) fun t120 =>
  Option.bind (chk t120 fun a0 => Prim.run .mov [a0]) fun t121 =>
  Option.bind (grd t121 true (chk t21 fun a0 => Prim.run .mov [a0])) fun t122 =>
  Option.bind (grd t121 true (chk t24 fun a0 => Prim.run .mov [a0])) fun t123 =>
  Option.bind (grd t121 true (chk t122 fun a0 => chk t123 fun a1 => Prim.run (.eqv false (.bool false)) [a0, a1])) fun t124 =>
  Option.bind (chk t121 fun a0 => isB a0 (chk t124 fun a1 => some a1) (some (.bool false))) fun t125 =>
  Option.bind (chk t125 fun a0 => Prim.run .mov [a0]) fun t126 =>
  Option.bind (grd t126 true (Option.bind (Ans T 28 []) fun rs => retV 1 rs)) fun t127 =>
  Option.bind (chk t126 fun a0 => isB a0 (chk t127 fun a1 => some a1) (some (.bool false))) fun t128 =>
  Option.bind (chk t128 fun a0 => Prim.run .mov [a0]) fun t10 =>
  allDef [t10])) = some rs) : Ans T 6 [t0, t1, t2, t3, t4] = some rs := call_of (T := T) c6 (Eq.trans (by kernel_rfl) h)
/-! vmfleet/vmfleetlaw27.HeartLimit -/
noncomputable def WL7x2 (t0 t1 t2 t3 t9 t10 t11 : PV) (K : RK) : Option (List PV) := loopK T kL7x2 L7x2 [t0, t1, t2, t3, .undef, .undef, .undef, .undef, .undef, t9, t10, t11, .undef, .undef, .undef, .undef, .undef, .undef, .undef, .undef, .undef, .undef, .undef, .undef, .undef, .undef, .undef, .undef, .undef, .undef, .undef, .undef, .undef, .undef, .undef, .undef, .undef, .undef, .undef, .undef, .undef, .undef, .undef, .undef, .undef, .undef, .undef, .undef, .undef, .undef, .undef, .undef, .undef, .undef, .undef, .undef, .undef, .undef, .undef, .undef, .undef, .undef, .undef, .undef, .undef, .undef, .undef, .undef, .undef, .undef, .undef, .undef, .undef, .undef, .undef, .undef, .undef, .undef, .undef, .undef, .undef, .undef, .undef, .undef, .undef, .undef, .undef, .undef, .undef, .undef, .undef] K
theorem oL7x2 (t0 t1 t2 t3 t9 t10 t11 : PV) (K : RK) {a : List PV} (h : (Option.bind (chk t11 fun a0 => Prim.run .mov [a0]) fun t45 =>
  Option.bind (chk t1 fun a0 => Prim.run .mov [a0]) fun t46 =>
  Option.bind (chk t45 fun a0 => chk t46 fun a1 => Prim.run (.bin .lss) [a0, a1]) fun t47 =>
  chk t47 fun c0 => isB c0
 (Option.bind (chk t9 fun a0 => Prim.run .load [a0, (.ptr [])]) fun t50 =>
  Option.bind (chk t50 fun a0 => Option.bind (Ans T 39 [a0]) fun rs => retV 1 rs) fun t51 =>
  Option.bind (chk t11 fun a0 => Prim.run .mov [a0]) fun t52 =>
  Option.bind (chk t0 fun a0 => Prim.run .mov [a0]) fun t53 =>
  Option.bind (chk t52 fun a0 => chk t53 fun a1 => Prim.run (.bin .geq) [a0, a1]) fun t54 =>
  Option.bind (chk t51 fun a0 => chk t54 fun a1 => Prim.run (.eqv true (.bool false)) [a0, a1]) fun t55 =>
  chk t55 fun c0 => isB c0
 (Option.bind (Prim.run .mov [(.bool false)]) fun t8 =>
  K (.ret, [.undef, .undef, .undef, .undef, .undef, .undef, .undef, .undef, t8, .undef, .undef, .undef, .undef, .undef, .undef, .undef, .undef, .undef, .undef, .undef, .undef, .undef, .undef, .undef, .undef, .undef, .undef, .undef, .undef, .undef, .undef, .undef, .undef, .undef, .undef, .undef, .undef, .undef, .undef, .undef, .undef, .undef, .undef, .undef, .undef, .undef, .undef, .undef, .undef, .undef, .undef, .undef, .undef, .undef, .undef, .undef, .undef, .undef, .undef, .undef, .undef, .undef, .undef, .undef, .undef, .undef, .undef, .undef, .undef, .undef, .undef, .undef, .undef, .undef, .undef, .undef, .undef, .undef, .undef, .undef, .undef, .undef, .undef, .undef, .undef, .undef, .undef, .undef, .undef, .undef, .undef]))
 (Option.bind (chk t9 fun a0 => Prim.run .load [a0, (.ptr [])]) fun t56 =>
  Option.bind (chk t56 fun a0 => Option.bind (Ans T 37 [a0]) fun rs => retV 1 rs) fun t57 =>
  chk t57 fun a0 => chk t9 fun y0 => Option.bind (setP [] y0 a0) fun t9 =>
  Option.bind (chk t11 fun a0 => Prim.run .mov [a0]) fun t58 =>
  Option.bind (chk t3 fun a0 => Prim.run .mov [a0]) fun t59 =>
  Option.bind (chk t59 fun a0 => Prim.run .len [a0]) fun t60 =>
  Option.bind (chk t58 fun a0 => chk t60 fun a1 => Prim.run (.bin .lss) [a0, a1]) fun t61 =>
  chk t61 fun c0 => isB c0
 (Option.bind (chk t9 fun a0 => Prim.run .load [a0, (.ptr [])]) fun t63 =>
  Option.bind (chk t3 fun a0 => Prim.run .mov [a0]) fun t64 =>
  Option.bind (chk t11 fun a0 => Prim.run .mov [a0]) fun t65 =>
  Option.bind (chk t64 fun a0 => chk t65 fun a1 => Prim.run (.iptr []) [a0, a1]) fun t66 =>
  Option.bind (chk t64 fun a0 => chk t66 fun a1 => Prim.run .load [a0, a1]) fun t67 =>
  Option.bind (chk t2 fun a0 => Prim.run .mov [a0]) fun t68 =>
  Option.bind (chk t67 fun a0 => chk t68 fun a1 => Prim.run .minI [a0, a1]) fun t69 =>
  Option.bind (chk t63 fun a0 => chk t69 fun a1 => Option.bind (Ans T 31 [a0, a1]) fun rs => retV 2 rs) fun t70 =>
  Option.bind (chk t70 fun a0 => Prim.run .mov [a0]) fun t62 =>
  Option.bind (chk t62 fun a0 => Prim.run (.ext 0) [a0]) fun t71 =>
  Option.bind (chk t62 fun a0 => Prim.run (.ext 1) [a0]) fun t72 =>
  Option.bind (Prim.run .mov [(.agg [(.int .i64 0), (.int .i64 0), (.int .u64 0)])]) fun t12 =>
  chk t71 fun a0 => chk t12 fun y0 => Option.bind (setP [] y0 a0) fun t12 =>
  Option.bind (chk t72 fun a0 => Prim.run .mov [a0]) fun t13 =>
  Option.bind (chk t13 fun a0 => Prim.run .mov [a0]) fun t73 =>
  Option.bind (chk t73 fun a0 => Prim.run .mov [a0]) fun t74 =>
  Option.bind (grd t74 false (chk t12 fun a0 => Prim.run .load [a0, (.ptr [])])) fun t75 =>
  Option.bind (grd t74 false (chk t9 fun a0 => Prim.run .load [a0, (.ptr [])])) fun t76 =>
  Option.bind (grd t74 false (chk t75 fun a0 => chk t76 fun a1 => Prim.run (.eqv true (.agg [(.int .i64 0), (.int .i64 0), (.int .u64 0)])) [a0, a1])) fun t77 =>
  Option.bind (chk t74 fun a0 => isB a0 (some (.bool true)) (chk t77 fun a1 => some a1)) fun t78 =>
  chk t78 fun c0 => isB c0
 (Option.bind (Prim.run .mov [(.bool false)]) fun t8 =>
  K (.ret, [.undef, .undef, .undef, .undef, .undef, .undef, .undef, .undef, t8, .undef, .undef, .undef, .undef, .undef, .undef, .undef, .undef, .undef, .undef, .undef, .undef, .undef, .undef, .undef, .undef, .undef, .undef, .undef, .undef, .undef, .undef, .undef, .undef, .undef, .undef, .undef, .undef, .undef, .undef, .undef, .undef, .undef, .undef, .undef, .undef, .undef, .undef, .undef, .undef, .undef, .undef, .undef, .undef, .undef, .undef, .undef, .undef, .undef, .undef, .undef, .undef, .undef, .undef, .undef, .undef, .undef, .undef, .undef, .undef, .undef, .undef, .undef, .undef, .undef, .undef, .undef, .undef, .undef, .undef, .undef, .undef, .undef, .undef, .undef, .undef, .undef, .undef, .undef, .undef, .undef, .undef]))
 (Option.bind (chk t11 fun a0 => Prim.run .mov [a0]) fun t48 =>
  Option.bind (chk t48 fun a0 => Prim.run (.bin .add) [a0, (.int .i64 1)]) fun t49 =>
  Option.bind (chk t49 fun a0 => Prim.run .mov [a0]) fun t11 =>
  WL7x2 t0 t1 t2 t3 t9 t10 t11 K))
 (Option.bind (chk t11 fun a0 => Prim.run .mov [a0]) fun t48 =>
  Option.bind (chk t48 fun a0 => Prim.run (.bin .add) [a0, (.int .i64 1)]) fun t49 =>
  Option.bind (chk t49 fun a0 => Prim.run .mov [a0]) fun t11 =>
  WL7x2 t0 t1 t2 t3 t9 t10 t11 K)))
 (K (.exit 0, [t0, t1, .undef, .undef, .undef, .undef, .undef, .undef, .undef, t9, t10, .undef, .undef, .undef, .undef, .undef, .undef, .undef, .undef, .undef, .undef, .undef, .undef, .undef, .undef, .undef, .undef, .undef, .undef, .undef, .undef, .undef, .undef, .undef, .undef, .undef, .undef, .undef, .undef, .undef, .undef, .undef, .undef, .undef, .undef, .undef, .undef, .undef, .undef, .undef, .undef, .undef, .undef, .undef, .undef, .undef, .undef, .undef, .undef, .undef, .undef, .undef, .undef, .undef, .undef, .undef, .undef, .undef, .undef, .undef, .undef, .undef, .undef, .undef, .undef, .undef, .undef, .undef, .undef, .undef, .undef, .undef, .undef, .undef, .undef, .undef, .undef, .undef, .undef, .undef, .undef]))) = some a) : WL7x2 t0 t1 t2 t3 t9 t10 t11 K = some a := loopK_of (Eq.trans (by kernel_rfl) h)
@[simp] theorem aL7x2 (t0 t1 t2 t3 t4 t5 t6 t7 t8 t9 t10 t11 t12 t13 t14 t15 t16 t17 t18 t19 t20 t21 t22 t23 t24 t25 t26 t27 t28 t29 t30 t31 t32 t33 t34 t35 t36 t37 t38 t39 t40 t41 t42 t43 t44 t45 t46 t47 t48 t49 t50 t51 t52 t53 t54 t55 t56 t57 t58 t59 t60 t61 t62 t63 t64 t65 t66 t67 t68 t69 t70 t71 t72 t73 t74 t75 t76 t77 t78 t79 t80 t81 t82 t83 t84 t85 t86 t87 t88 t89 t90 : PV) (K : RK) : againK T kL7x2 L7x2 K (.normal, [t0, t1, t2, t3, t4, t5, t6, t7, t8, t9, t10, t11, t12, t13, t14, t15, t16, t17, t18, t19, t20, t21, t22, t23, t24, t25, t26, t27, t28, t29, t30, t31, t32, t33, t34, t35, t36, t37, t38, t39, t40, t41, t42, t43, t44, t45, t46, t47, t48, t49, t50, t51, t52, t53, t54, t55, t56, t57, t58, t59, t60, t61, t62, t63, t64, t65, t66, t67, t68, t69, t70, t71, t72, t73, t74, t75, t76, t77, t78, t79, t80, t81, t82, t83, t84, t85, t86, t87, t88, t89, t90]) = WL7x2 t0 t1 t2 t3 t9 t10 t11 K := by kernel_rfl
@[simp] theorem lA7x1 (t0 t1 t2 t3 t9 t10 : PV) (K : RK) : denK T A7x1 [t0, t1, t2, t3, .undef, .undef, .undef, .undef, .undef, t9, t10, .undef, .undef, .undef, .undef, .undef, .undef, .undef, .undef, .undef, .undef, .undef, .undef, .undef, .undef, .undef, .undef, .undef, .undef, .undef, .undef, .undef, .undef, .undef, .undef, .undef, .undef, .undef, .undef, .undef, .undef, .undef, .undef, .undef, .undef, .undef, .undef, .undef, .undef, .undef, .undef, .undef, .undef, .undef, .undef, .undef, .undef, .undef, .undef, .undef, .undef, .undef, .undef, .undef, .undef, .undef, .undef, .undef, .undef, .undef, .undef, .undef, .undef, .undef, .undef, .undef, .undef, .undef, .undef, .undef, .undef, .undef, .undef, .undef, .undef, .undef, .undef, .undef, .undef, .undef, .undef] K =
  Option.bind (Prim.run .mov [(.int .i64 0)]) fun t11 =>
  WL7x2 t0 t1 t2 t3 t9 t10 t11 (blockK 0 K) := by kernel_rfl
@[simp] theorem lB7x1 (t0 t1 t9 t10 : PV) (K : RK) : denK T B7x1 [t0, t1, .undef, .undef, .undef, .undef, .undef, .undef, .undef, t9, t10, .undef, .undef, .undef, .undef, .undef, .undef, .undef, .undef, .undef, .undef, .undef, .undef, .undef, .undef, .undef, .undef, .undef, .undef, .undef, .undef, .undef, .undef, .undef, .undef, .undef, .undef, .undef, .undef, .undef, .undef, .undef, .undef, .undef, .undef, .undef, .undef, .undef, .undef, .undef, .undef, .undef, .undef, .undef, .undef, .undef, .undef, .undef, .undef, .undef, .undef, .undef, .undef, .undef, .undef, .undef, .undef, .undef, .undef, .undef, .undef, .undef, .undef, .undef, .undef, .undef, .undef, .undef, .undef, .undef, .undef, .undef, .undef, .undef, .undef, .undef, .undef, .undef, .undef, .undef, .undef] K =
  Option.bind (chk t10 fun a0 => Prim.run .mov [a0]) fun t79 =>
  Option.bind (chk t79 fun a0 => Prim.run .mov [a0]) fun t80 =>
  Option.bind (grd t80 true (chk t9 fun a0 => Prim.run .load [a0, (.ptr [])])) fun t81 =>
  Option.bind (grd t80 true (chk t81 fun a0 => Option.bind (Ans T 39 [a0]) fun rs => retV 1 rs)) fun t82 =>
  Option.bind (grd t80 true (chk t1 fun a0 => Prim.run .mov [a0])) fun t83 =>
  Option.bind (grd t80 true (chk t0 fun a0 => Prim.run .mov [a0])) fun t84 =>
  Option.bind (grd t80 true (chk t83 fun a0 => chk t84 fun a1 => Prim.run (.bin .geq) [a0, a1])) fun t85 =>
  Option.bind (grd t80 true (chk t82 fun a0 => chk t85 fun a1 => Prim.run (.eqv false (.bool false)) [a0, a1])) fun t86 =>
  Option.bind (chk t80 fun a0 => isB a0 (chk t86 fun a1 => some a1) (some (.bool false))) fun t87 =>
  Option.bind (chk t87 fun a0 => Prim.run .mov [a0]) fun t88 =>
  Option.bind (grd t88 true (Option.bind (Ans T 28 []) fun rs => retV 1 rs)) fun t89 =>
  Option.bind (chk t88 fun a0 => isB a0 (chk t89 fun a1 => some a1) (some (.bool false))) fun t90 =>
  Option.bind (chk t90 fun a0 => Prim.run .mov [a0]) fun t8 =>
  K (.ret, [.undef, .undef, .undef, .undef, .undef, .undef, .undef, .undef, t8, .undef, .undef, .undef, .undef, .undef, .undef, .undef, .undef, .undef, .undef, .undef, .undef, .undef, .undef, .undef, .undef, .undef, .undef, .undef, .undef, .undef, .undef, .undef, .undef, .undef, .undef, .undef, .undef, .undef, .undef, .undef, .undef, .undef, .undef, .undef, .undef, .undef, .undef, .undef, .undef, .undef, .undef, .undef, .undef, .undef, .undef, .undef, .undef, .undef, .undef, .undef, .undef, .undef, .undef, .undef, .undef, .undef, .undef, .undef, .undef, .undef, .undef, .undef, .undef, .undef, .undef, .undef, .undef, .undef, .undef, .undef, .undef, .undef, .undef, .undef, .undef, .undef, .undef, .undef, .undef, .undef, .undef]) := by kernel_rfl
theorem f7 (t0 t1 t2 t3 : PV) {rs : List PV} (h : (Option.bind (Prim.run .mov [(.bool false)]) fun t8 =>
  Option.bind (chk t0 fun a0 => Prim.run .mov [a0]) fun t14 =>
  Option.bind (chk t14 fun a0 => Prim.run (.bin .lss) [a0, (.int .i64 1)]) fun t15 =>
  Option.bind (chk t15 fun a0 => Prim.run .mov [a0]) fun t16 =>
  Option.bind (grd t16 false (chk t0 fun a0 => Prim.run .mov [a0])) fun t17 =>
  Option.bind (grd t16 false (chk t17 fun a0 => Prim.run (.bin .gtr) [a0, (.int .i64 20)])) fun t18 =>
  Option.bind (chk t16 fun a0 => isB a0 (some (.bool true)) (chk t18 fun a1 => some a1)) fun t19 =>
  Option.bind (chk t19 fun a0 => Prim.run .mov [a0]) fun t20 =>
  Option.bind (grd t20 false (chk t1 fun a0 => Prim.run .mov [a0])) fun t21 =>
  Option.bind (grd t20 false (chk t21 fun a0 => Prim.run (.bin .lss) [a0, (.int .i64 0)])) fun t22 =>
  Option.bind (chk t20 fun a0 => isB a0 (some (.bool true)) (chk t22 fun a1 => some a1)) fun t23 =>
  Option.bind (chk t23 fun a0 => Prim.run .mov [a0]) fun t24 =>
  Option.bind (grd t24 false (chk t1 fun a0 => Prim.run .mov [a0])) fun t25 =>
  Option.bind (grd t24 false (chk t25 fun a0 => Prim.run (.bin .gtr) [a0, (.int .i64 60)])) fun t26 =>
  Option.bind (chk t24 fun a0 => isB a0 (some (.bool true)) (chk t26 fun a1 => some a1)) fun t27 =>
  Option.bind (chk t27 fun a0 => Prim.run .mov [a0]) fun t28 =>
  Option.bind (grd t28 false (chk t3 fun a0 => Prim.run .mov [a0])) fun t29 =>
  Option.bind (grd t28 false (chk t29 fun a0 => Prim.run .len [a0])) fun t30 =>
  Option.bind (grd t28 false (chk t30 fun a0 => Prim.run (.bin .gtr) [a0, (.int .i64 60)])) fun t31 =>
  Option.bind (chk t28 fun a0 => isB a0 (some (.bool true)) (chk t31 fun a1 => some a1)) fun t32 =>
  chk t32 fun c0 => isB c0
 (Option.bind (Option.bind (Ans T 28 []) fun rs => retV 1 rs) fun t33 =>
  Option.bind (chk t33 fun a0 => Prim.run .mov [a0]) fun t8 =>
  allDef [t8])
 (Option.bind (chk t0 fun a0 => Prim.run .mov [a0]) fun t35 =>
  Option.bind (chk t35 fun a0 => Option.bind (Ans T 29 [a0]) fun rs => retV 2 rs) fun t36 =>
  Option.bind (chk t36 fun a0 => Prim.run .mov [a0]) fun t34 =>
  Option.bind (chk t34 fun a0 => Prim.run (.ext 0) [a0]) fun t37 =>
  Option.bind (chk t34 fun a0 => Prim.run (.ext 1) [a0]) fun t38 =>
  Option.bind (Prim.run .mov [(.agg [(.int .i64 0), (.int .i64 0), (.int .u64 0)])]) fun t9 =>
  chk t37 fun a0 => chk t9 fun y0 => Option.bind (setP [] y0 a0) fun t9 =>
  Option.bind (chk t38 fun a0 => Prim.run .mov [a0]) fun t10 =>
  Option.bind (chk t9 fun a0 => Prim.run .load [a0, (.ptr [])]) fun t40 =>
  Option.bind (chk t2 fun a0 => Prim.run .mov [a0]) fun t41 =>
  Option.bind (chk t40 fun a0 => chk t41 fun a1 => Option.bind (Ans T 31 [a0, a1]) fun rs => retV 2 rs) fun t42 =>
  Option.bind (chk t42 fun a0 => Prim.run .mov [a0]) fun t39 =>
  Option.bind (chk t39 fun a0 => Prim.run (.ext 0) [a0]) fun t43 =>
  Option.bind (chk t39 fun a0 => Prim.run (.ext 1) [a0]) fun t44 =>
  chk t43 fun a0 => chk t9 fun y0 => Option.bind (setP [] y0 a0) fun t9 =>
  denK T A7x1 [t0, t1, t2, t3, .undef, .undef, .undef, .undef, .undef, t9, t10, .undef, .undef, .undef, .undef, .undef, .undef, .undef, .undef, .undef, .undef, .undef, .undef, .undef, .undef, .undef, .undef, .undef, .undef, .undef, .undef, .undef, .undef, .undef, .undef, .undef, .undef, .undef, .undef, .undef, .undef, .undef, .undef, .undef, .undef, .undef, .undef, .undef, .undef, .undef, .undef, .undef, .undef, .undef, .undef, .undef, .undef, .undef, .undef, .undef, .undef, .undef, .undef, .undef, .undef, .undef, .undef, .undef, .undef, .undef, .undef, .undef, .undef, .undef, .undef, .undef, .undef, .undef, .undef, .undef, .undef, .undef, .undef, .undef, .undef, .undef, .undef, .undef, .undef, .undef, .undef] (seqK T B7x1 (endK [8])))) = some rs) : Ans T 7 [t0, t1, t2, t3] = some rs := call_of (T := T) c7 (Eq.trans (by kernel_rfl) h)
/-! vmfleet/vmfleetlaw27.HeartAlive -/
@[simp] theorem lA8x4 (t0 t1 t5 t6 t7 t8 t9 t32 : PV) (K : RK) : denK T A8x4 [t0, t1, .undef, .undef, .undef, t5, t6, t7, t8, t9, .undef, .undef, .undef, .undef, .undef, .undef, .undef, .undef, .undef, .undef, .undef, .undef, .undef, .undef, .undef, .undef, .undef, .undef, .undef, .undef, .undef, .undef, t32, .undef, .undef, .undef, .undef, .undef, .undef, .undef, .undef, .undef, .undef, .undef, .undef, .undef, .undef, .undef, .undef, .undef, .undef, .undef, .undef, .undef, .undef, .undef, .undef, .undef, .undef, .undef, .undef, .undef, .undef, .undef, .undef, .undef, .undef, .undef, .undef, .undef, .undef, .undef, .undef, .undef, .undef, .undef, .undef, .undef, .undef, .undef] K =
  Option.bind (chk t1 fun a0 => Prim.run .mov [a0]) fun t35 =>
  Option.bind (chk t9 fun a0 => Prim.run .mov [a0]) fun t36 =>
  Option.bind (chk t35 fun a0 => chk t36 fun a1 => Prim.run (.iptr []) [a0, a1]) fun t37 =>
  Option.bind (chk t35 fun a0 => chk t37 fun a1 => Prim.run .load [a0, a1]) fun t38 =>
  Option.bind (chk t38 fun a0 => Option.bind (Ans T 21 [a0, (.int .i64 4)]) fun rs => retV 1 rs) fun t39 =>
  Option.bind (chk t39 fun a0 => Prim.run (.bin .eql) [a0, (.int .i64 0)]) fun t40 =>
  chk t40 fun c0 => isB c0
 (Option.bind (chk t7 fun a0 => Prim.run .mov [a0]) fun t41 =>
  Option.bind (chk t41 fun a0 => Prim.run (.bin .add) [a0, (.int .u64 1)]) fun t42 =>
  Option.bind (chk t1 fun a0 => Prim.run .mov [a0]) fun t43 =>
  Option.bind (chk t9 fun a0 => Prim.run .mov [a0]) fun t44 =>
  Option.bind (chk t43 fun a0 => chk t44 fun a1 => Prim.run (.iptr []) [a0, a1]) fun t45 =>
  Option.bind (chk t43 fun a0 => chk t45 fun a1 => Prim.run .load [a0, a1]) fun t46 =>
  Option.bind (chk t46 fun a0 => Prim.run (.bin .quo) [a0, (.int .i64 4)]) fun t47 =>
  Option.bind (chk t47 fun a0 => Option.bind (Ans T 21 [a0, (.int .i64 3)]) fun rs => retV 1 rs) fun t48 =>
  Option.bind (chk t48 fun a0 => Prim.run (.toInt .u64) [a0]) fun t49 =>
  Option.bind (chk t42 fun a0 => chk t49 fun a1 => Prim.run (.bin .add) [a0, a1]) fun t50 =>
  Option.bind (chk t50 fun a0 => Prim.run .mov [a0]) fun t7 =>
  Option.bind (chk t5 fun a0 => Prim.run .load [a0, (.ptr [])]) fun t52 =>
  Option.bind (chk t7 fun a0 => Prim.run .mov [a0]) fun t53 =>
  Option.bind (chk t52 fun a0 => chk t53 fun a1 => Option.bind (Ans T 31 [a0, a1]) fun rs => retV 2 rs) fun t54 =>
  Option.bind (chk t54 fun a0 => Prim.run .mov [a0]) fun t51 =>
  Option.bind (chk t51 fun a0 => Prim.run (.ext 0) [a0]) fun t55 =>
  Option.bind (chk t51 fun a0 => Prim.run (.ext 1) [a0]) fun t56 =>
  Option.bind (Prim.run .mov [(.agg [(.int .i64 0), (.int .i64 0), (.int .u64 0)])]) fun t10 =>
  chk t55 fun a0 => chk t10 fun y0 => Option.bind (setP [] y0 a0) fun t10 =>
  Option.bind (chk t56 fun a0 => Prim.run .mov [a0]) fun t11 =>
  Option.bind (chk t11 fun a0 => Prim.run .mov [a0]) fun t57 =>
  Option.bind (chk t57 fun a0 => Prim.run (.un .not) [a0]) fun t58 =>
  chk t58 fun c0 => isB c0
 (Option.bind (Prim.run .mov [(.bool false)]) fun t4 =>
  K (.ret, [.undef, .undef, .undef, .undef, t4, .undef, .undef, .undef, .undef, .undef, .undef, .undef, .undef, .undef, .undef, .undef, .undef, .undef, .undef, .undef, .undef, .undef, .undef, .undef, .undef, .undef, .undef, .undef, .undef, .undef, .undef, .undef, .undef, .undef, .undef, .undef, .undef, .undef, .undef, .undef, .undef, .undef, .undef, .undef, .undef, .undef, .undef, .undef, .undef, .undef, .undef, .undef, .undef, .undef, .undef, .undef, .undef, .undef, .undef, .undef, .undef, .undef, .undef, .undef, .undef, .undef, .undef, .undef, .undef, .undef, .undef, .undef, .undef, .undef, .undef, .undef, .undef, .undef, .undef, .undef]))
 (Option.bind (chk t10 fun a0 => Prim.run .load [a0, (.ptr [])]) fun t59 =>
  chk t59 fun a0 => chk t5 fun y0 => Option.bind (setP [] y0 a0) fun t5 =>
  Option.bind (Prim.run .mov [(.int .i64 0)]) fun t8 =>
  K (.normal, [t0, t1, .undef, .undef, .undef, t5, t6, t7, t8, t9, .undef, .undef, .undef, .undef, .undef, .undef, .undef, .undef, .undef, .undef, .undef, .undef, .undef, .undef, .undef, .undef, .undef, .undef, .undef, .undef, .undef, .undef, .undef, .undef, .undef, .undef, .undef, .undef, .undef, .undef, .undef, .undef, .undef, .undef, .undef, .undef, .undef, .undef, .undef, .undef, .undef, .undef, .undef, .undef, .undef, .undef, .undef, .undef, .undef, .undef, .undef, .undef, .undef, .undef, .undef, .undef, .undef, .undef, .undef, .undef, .undef, .undef, .undef, .undef, .undef, .undef, .undef, .undef, .undef, .undef])))
 (Option.bind (chk t5 fun a0 => Prim.run .load [a0, (.ptr [])]) fun t60 =>
  Option.bind (chk t60 fun a0 => Option.bind (Ans T 37 [a0]) fun rs => retV 1 rs) fun t61 =>
  chk t61 fun a0 => chk t5 fun y0 => Option.bind (setP [] y0 a0) fun t5 =>
  Option.bind (chk t8 fun a0 => Prim.run .mov [a0]) fun t62 =>
  Option.bind (chk t62 fun a0 => Prim.run (.bin .add) [a0, (.int .i64 1)]) fun t63 =>
  Option.bind (chk t63 fun a0 => Prim.run .mov [a0]) fun t8 =>
  K (.normal, [t0, t1, .undef, .undef, .undef, t5, t6, t7, t8, t9, .undef, .undef, .undef, .undef, .undef, .undef, .undef, .undef, .undef, .undef, .undef, .undef, .undef, .undef, .undef, .undef, .undef, .undef, .undef, .undef, .undef, .undef, .undef, .undef, .undef, .undef, .undef, .undef, .undef, .undef, .undef, .undef, .undef, .undef, .undef, .undef, .undef, .undef, .undef, .undef, .undef, .undef, .undef, .undef, .undef, .undef, .undef, .undef, .undef, .undef, .undef, .undef, .undef, .undef, .undef, .undef, .undef, .undef, .undef, .undef, .undef, .undef, .undef, .undef, .undef, .undef, .undef, .undef, .undef, .undef])) := by kernel_rfl
@[simp] theorem lB8x4 (t0 t1 t5 t6 t7 t8 t9 : PV) (K : RK) : denK T B8x4 [t0, t1, .undef, .undef, .undef, t5, t6, t7, t8, t9, .undef, .undef, .undef, .undef, .undef, .undef, .undef, .undef, .undef, .undef, .undef, .undef, .undef, .undef, .undef, .undef, .undef, .undef, .undef, .undef, .undef, .undef, .undef, .undef, .undef, .undef, .undef, .undef, .undef, .undef, .undef, .undef, .undef, .undef, .undef, .undef, .undef, .undef, .undef, .undef, .undef, .undef, .undef, .undef, .undef, .undef, .undef, .undef, .undef, .undef, .undef, .undef, .undef, .undef, .undef, .undef, .undef, .undef, .undef, .undef, .undef, .undef, .undef, .undef, .undef, .undef, .undef, .undef, .undef, .undef] K =
  Option.bind (chk t5 fun a0 => Prim.run .load [a0, (.ptr [])]) fun t64 =>
  Option.bind (chk t64 fun a0 => Option.bind (Ans T 39 [a0]) fun rs => retV 1 rs) fun t65 =>
  Option.bind (chk t8 fun a0 => Prim.run .mov [a0]) fun t66 =>
  Option.bind (chk t0 fun a0 => Prim.run .mov [a0]) fun t67 =>
  Option.bind (chk t66 fun a0 => chk t67 fun a1 => Prim.run (.bin .geq) [a0, a1]) fun t68 =>
  Option.bind (chk t65 fun a0 => chk t68 fun a1 => Prim.run (.eqv true (.bool false)) [a0, a1]) fun t69 =>
  Option.bind (chk t69 fun a0 => Prim.run .mov [a0]) fun t70 =>
  Option.bind (grd t70 false (Prim.run (.fptr 2) [(.ptr [])])) fun t71 =>
  Option.bind (grd t70 false (chk t5 fun a0 => chk t71 fun a1 => Prim.run .load [a0, a1])) fun t72 =>
  Option.bind (grd t70 false (chk t7 fun a0 => Prim.run .mov [a0])) fun t73 =>
  Option.bind (grd t70 false (chk t72 fun a0 => chk t73 fun a1 => Prim.run (.bin .neq) [a0, a1])) fun t74 =>
  Option.bind (chk t70 fun a0 => isB a0 (some (.bool true)) (chk t74 fun a1 => some a1)) fun t75 =>
  chk t75 fun c0 => isB c0
 (Option.bind (Prim.run .mov [(.bool false)]) fun t4 =>
  K (.ret, [.undef, .undef, .undef, .undef, t4, .undef, .undef, .undef, .undef, .undef, .undef, .undef, .undef, .undef, .undef, .undef, .undef, .undef, .undef, .undef, .undef, .undef, .undef, .undef, .undef, .undef, .undef, .undef, .undef, .undef, .undef, .undef, .undef, .undef, .undef, .undef, .undef, .undef, .undef, .undef, .undef, .undef, .undef, .undef, .undef, .undef, .undef, .undef, .undef, .undef, .undef, .undef, .undef, .undef, .undef, .undef, .undef, .undef, .undef, .undef, .undef, .undef, .undef, .undef, .undef, .undef, .undef, .undef, .undef, .undef, .undef, .undef, .undef, .undef, .undef, .undef, .undef, .undef, .undef, .undef]))
 (K (.normal, [t0, t1, .undef, .undef, .undef, t5, t6, t7, t8, t9, .undef, .undef, .undef, .undef, .undef, .undef, .undef, .undef, .undef, .undef, .undef, .undef, .undef, .undef, .undef, .undef, .undef, .undef, .undef, .undef, .undef, .undef, .undef, .undef, .undef, .undef, .undef, .undef, .undef, .undef, .undef, .undef, .undef, .undef, .undef, .undef, .undef, .undef, .undef, .undef, .undef, .undef, .undef, .undef, .undef, .undef, .undef, .undef, .undef, .undef, .undef, .undef, .undef, .undef, .undef, .undef, .undef, .undef, .undef, .undef, .undef, t71, t72, t73, t74, t75, .undef, .undef, .undef, .undef])) := by kernel_rfl
@[simp] theorem lA8x3 (t0 t1 t5 t6 t7 t8 t9 t32 : PV) (K : RK) : denK T A8x3 [t0, t1, .undef, .undef, .undef, t5, t6, t7, t8, t9, .undef, .undef, .undef, .undef, .undef, .undef, .undef, .undef, .undef, .undef, .undef, .undef, .undef, .undef, .undef, .undef, .undef, .undef, .undef, .undef, .undef, .undef, t32, .undef, .undef, .undef, .undef, .undef, .undef, .undef, .undef, .undef, .undef, .undef, .undef, .undef, .undef, .undef, .undef, .undef, .undef, .undef, .undef, .undef, .undef, .undef, .undef, .undef, .undef, .undef, .undef, .undef, .undef, .undef, .undef, .undef, .undef, .undef, .undef, .undef, .undef, .undef, .undef, .undef, .undef, .undef, .undef, .undef, .undef, .undef] K =
  denK T A8x4 [t0, t1, .undef, .undef, .undef, t5, t6, t7, t8, t9, .undef, .undef, .undef, .undef, .undef, .undef, .undef, .undef, .undef, .undef, .undef, .undef, .undef, .undef, .undef, .undef, .undef, .undef, .undef, .undef, .undef, .undef, t32, .undef, .undef, .undef, .undef, .undef, .undef, .undef, .undef, .undef, .undef, .undef, .undef, .undef, .undef, .undef, .undef, .undef, .undef, .undef, .undef, .undef, .undef, .undef, .undef, .undef, .undef, .undef, .undef, .undef, .undef, .undef, .undef, .undef, .undef, .undef, .undef, .undef, .undef, .undef, .undef, .undef, .undef, .undef, .undef, .undef, .undef, .undef] (seqK T B8x4 (blockK 1 K)) := by kernel_rfl
@[simp] theorem lB8x3 (t0 t1 t5 t6 t7 t8 t9 t71 t72 t73 t74 t75 : PV) (K : RK) : denK T B8x3 [t0, t1, .undef, .undef, .undef, t5, t6, t7, t8, t9, .undef, .undef, .undef, .undef, .undef, .undef, .undef, .undef, .undef, .undef, .undef, .undef, .undef, .undef, .undef, .undef, .undef, .undef, .undef, .undef, .undef, .undef, .undef, .undef, .undef, .undef, .undef, .undef, .undef, .undef, .undef, .undef, .undef, .undef, .undef, .undef, .undef, .undef, .undef, .undef, .undef, .undef, .undef, .undef, .undef, .undef, .undef, .undef, .undef, .undef, .undef, .undef, .undef, .undef, .undef, .undef, .undef, .undef, .undef, .undef, .undef, t71, t72, t73, t74, t75, .undef, .undef, .undef, .undef] K =
  Option.bind (chk t9 fun a0 => Prim.run .mov [a0]) fun t33 =>
  Option.bind (chk t33 fun a0 => Prim.run (.bin .add) [a0, (.int .i64 1)]) fun t34 =>
  Option.bind (chk t34 fun a0 => Prim.run .mov [a0]) fun t9 =>
  K (.normal, [t0, t1, .undef, .undef, .undef, t5, t6, t7, t8, t9, .undef, .undef, .undef, .undef, .undef, .undef, .undef, .undef, .undef, .undef, .undef, .undef, .undef, .undef, .undef, .undef, .undef, .undef, .undef, .undef, .undef, .undef, .undef, .undef, .undef, .undef, .undef, .undef, .undef, .undef, .undef, .undef, .undef, .undef, .undef, .undef, .undef, .undef, .undef, .undef, .undef, .undef, .undef, .undef, .undef, .undef, .undef, .undef, .undef, .undef, .undef, .undef, .undef, .undef, .undef, .undef, .undef, .undef, .undef, .undef, .undef, t71, t72, t73, t74, .undef, .undef, .undef, .undef, .undef]) := by kernel_rfl
noncomputable def WL8x2 (t0 t1 t5 t6 t7 t8 t9 : PV) (K : RK) : Option (List PV) := loopK T kL8x2 L8x2 [t0, t1, .undef, .undef, .undef, t5, t6, t7, t8, t9, .undef, .undef, .undef, .undef, .undef, .undef, .undef, .undef, .undef, .undef, .undef, .undef, .undef, .undef, .undef, .undef, .undef, .undef, .undef, .undef, .undef, .undef, .undef, .undef, .undef, .undef, .undef, .undef, .undef, .undef, .undef, .undef, .undef, .undef, .undef, .undef, .undef, .undef, .undef, .undef, .undef, .undef, .undef, .undef, .undef, .undef, .undef, .undef, .undef, .undef, .undef, .undef, .undef, .undef, .undef, .undef, .undef, .undef, .undef, .undef, .undef, .undef, .undef, .undef, .undef, .undef, .undef, .undef, .undef, .undef] K
theorem oL8x2 (t0 t1 t5 t6 t7 t8 t9 : PV) (K : RK) {a : List PV} (h : (Option.bind (chk t9 fun a0 => Prim.run .mov [a0]) fun t29 =>
  Option.bind (chk t1 fun a0 => Prim.run .mov [a0]) fun t30 =>
  Option.bind (chk t30 fun a0 => Prim.run .len [a0]) fun t31 =>
  Option.bind (chk t29 fun a0 => chk t31 fun a1 => Prim.run (.bin .lss) [a0, a1]) fun t32 =>
  chk t32 fun c0 => isB c0
 (denK T A8x3 [t0, t1, .undef, .undef, .undef, t5, t6, t7, t8, t9, .undef, .undef, .undef, .undef, .undef, .undef, .undef, .undef, .undef, .undef, .undef, .undef, .undef, .undef, .undef, .undef, .undef, .undef, .undef, .undef, .undef, .undef, t32, .undef, .undef, .undef, .undef, .undef, .undef, .undef, .undef, .undef, .undef, .undef, .undef, .undef, .undef, .undef, .undef, .undef, .undef, .undef, .undef, .undef, .undef, .undef, .undef, .undef, .undef, .undef, .undef, .undef, .undef, .undef, .undef, .undef, .undef, .undef, .undef, .undef, .undef, .undef, .undef, .undef, .undef, .undef, .undef, .undef, .undef, .undef] (seqK T B8x3 (againK T kL8x2 L8x2 K)))
 (K (.exit 0, [.undef, .undef, .undef, .undef, .undef, .undef, t6, .undef, .undef, .undef, .undef, .undef, .undef, .undef, .undef, .undef, .undef, .undef, .undef, .undef, .undef, .undef, .undef, .undef, .undef, .undef, .undef, .undef, .undef, .undef, .undef, .undef, .undef, .undef, .undef, .undef, .undef, .undef, .undef, .undef, .undef, .undef, .undef, .undef, .undef, .undef, .undef, .undef, .undef, .undef, .undef, .undef, .undef, .undef, .undef, .undef, .undef, .undef, .undef, .undef, .undef, .undef, .undef, .undef, .undef, .undef, .undef, .undef, .undef, .undef, .undef, .undef, .undef, .undef, .undef, .undef, .undef, .undef, .undef, .undef]))) = some a) : WL8x2 t0 t1 t5 t6 t7 t8 t9 K = some a := loopK_of (Eq.trans (by kernel_rfl) h)
@[simp] theorem aL8x2 (t0 t1 t2 t3 t4 t5 t6 t7 t8 t9 t10 t11 t12 t13 t14 t15 t16 t17 t18 t19 t20 t21 t22 t23 t24 t25 t26 t27 t28 t29 t30 t31 t32 t33 t34 t35 t36 t37 t38 t39 t40 t41 t42 t43 t44 t45 t46 t47 t48 t49 t50 t51 t52 t53 t54 t55 t56 t57 t58 t59 t60 t61 t62 t63 t64 t65 t66 t67 t68 t69 t70 t71 t72 t73 t74 t75 t76 t77 t78 t79 : PV) (K : RK) : againK T kL8x2 L8x2 K (.normal, [t0, t1, t2, t3, t4, t5, t6, t7, t8, t9, t10, t11, t12, t13, t14, t15, t16, t17, t18, t19, t20, t21, t22, t23, t24, t25, t26, t27, t28, t29, t30, t31, t32, t33, t34, t35, t36, t37, t38, t39, t40, t41, t42, t43, t44, t45, t46, t47, t48, t49, t50, t51, t52, t53, t54, t55, t56, t57, t58, t59, t60, t61, t62, t63, t64, t65, t66, t67, t68, t69, t70, t71, t72, t73, t74, t75, t76, t77, t78, t79]) = WL8x2 t0 t1 t5 t6 t7 t8 t9 K := by kernel_rfl
@[simp] theorem lA8x1 (t0 t1 t5 t6 t7 t8 : PV) (K : RK) : denK T A8x1 [t0, t1, .undef, .undef, .undef, t5, t6, t7, t8, .undef, .undef, .undef, .undef, .undef, .undef, .undef, .undef, .undef, .undef, .undef, .undef, .undef, .undef, .undef, .undef, .undef, .undef, .undef, .undef, .undef, .undef, .undef, .undef, .undef, .undef, .undef, .undef, .undef, .undef, .undef, .undef, .undef, .undef, .undef, .undef, .undef, .undef, .undef, .undef, .undef, .undef, .undef, .undef, .undef, .undef, .undef, .undef, .undef, .undef, .undef, .undef, .undef, .undef, .undef, .undef, .undef, .undef, .undef, .undef, .undef, .undef, .undef, .undef, .undef, .undef, .undef, .undef, .undef, .undef, .undef] K =
  Option.bind (Prim.run .mov [(.int .i64 0)]) fun t9 =>
  WL8x2 t0 t1 t5 t6 t7 t8 t9 (blockK 0 K) := by kernel_rfl
@[simp] theorem lB8x1 (t6 : PV) (K : RK) : denK T B8x1 [.undef, .undef, .undef, .undef, .undef, .undef, t6, .undef, .undef, .undef, .undef, .undef, .undef, .undef, .undef, .undef, .undef, .undef, .undef, .undef, .undef, .undef, .undef, .undef, .undef, .undef, .undef, .undef, .undef, .undef, .undef, .undef, .undef, .undef, .undef, .undef, .undef, .undef, .undef, .undef, .undef, .undef, .undef, .undef, .undef, .undef, .undef, .undef, .undef, .undef, .undef, .undef, .undef, .undef, .undef, .undef, .undef, .undef, .undef, .undef, .undef, .undef, .undef, .undef, .undef, .undef, .undef, .undef, .undef, .undef, .undef, .undef, .undef, .undef, .undef, .undef, .undef, .undef, .undef, .undef] K =
  Option.bind (chk t6 fun a0 => Prim.run .mov [a0]) fun t76 =>
  Option.bind (chk t76 fun a0 => Prim.run .mov [a0]) fun t77 =>
  Option.bind (grd t77 true (Option.bind (Ans T 28 []) fun rs => retV 1 rs)) fun t78 =>
  Option.bind (chk t77 fun a0 => isB a0 (chk t78 fun a1 => some a1) (some (.bool false))) fun t79 =>
  Option.bind (chk t79 fun a0 => Prim.run .mov [a0]) fun t4 =>
  K (.ret, [.undef, .undef, .undef, .undef, t4, .undef, .undef, .undef, .undef, .undef, .undef, .undef, .undef, .undef, .undef, .undef, .undef, .undef, .undef, .undef, .undef, .undef, .undef, .undef, .undef, .undef, .undef, .undef, .undef, .undef, .undef, .undef, .undef, .undef, .undef, .undef, .undef, .undef, .undef, .undef, .undef, .undef, .undef, .undef, .undef, .undef, .undef, .undef, .undef, .undef, .undef, .undef, .undef, .undef, .undef, .undef, .undef, .undef, .undef, .undef, .undef, .undef, .undef, .undef, .undef, .undef, .undef, .undef, .undef, .undef, .undef, .undef, .undef, .undef, .undef, .undef, .undef, .undef, .undef, .undef]) := by kernel_rfl
theorem f8 (t0 t1 : PV) {rs : List PV} (h : (Option.bind (Prim.run .mov [(.bool false)]) fun t4 =>
  Option.bind (chk t0 fun a0 => Prim.run .mov [a0]) fun t12 =>
  Option.bind (chk t12 fun a0 => Prim.run (.bin .lss) [a0, (.int .i64 1)]) fun t13 =>
  Option.bind (chk t13 fun a0 => Prim.run .mov [a0]) fun t14 =>
  Option.bind (grd t14 false (chk t0 fun a0 => Prim.run .mov [a0])) fun t15 =>
  Option.bind (grd t14 false (chk t15 fun a0 => Prim.run (.bin .gtr) [a0, (.int .i64 20)])) fun t16 =>
  Option.bind (chk t14 fun a0 => isB a0 (some (.bool true)) (chk t16 fun a1 => some a1)) fun t17 =>
  Option.bind (chk t17 fun a0 => Prim.run .mov [a0]) fun t18 =>
  Option.bind (grd t18 false (chk t1 fun a0 => Prim.run .mov [a0])) fun t19 =>
  Option.bind (grd t18 false (chk t19 fun a0 => Prim.run .len [a0])) fun t20 =>
  Option.bind (grd t18 false (chk t20 fun a0 => Prim.run (.bin .gtr) [a0, (.int .i64 100)])) fun t21 =>
  Option.bind (chk t18 fun a0 => isB a0 (some (.bool true)) (chk t21 fun a1 => some a1)) fun t22 =>
  chk t22 fun c0 => isB c0
 (Option.bind (Option.bind (Ans T 28 []) fun rs => retV 1 rs) fun t23 =>
  Option.bind (chk t23 fun a0 => Prim.run .mov [a0]) fun t4 =>
  allDef [t4])
 (Option.bind (chk t0 fun a0 => Prim.run .mov [a0]) fun t25 =>
  Option.bind (chk t25 fun a0 => Option.bind (Ans T 29 [a0]) fun rs => retV 2 rs) fun t26 =>
  Option.bind (chk t26 fun a0 => Prim.run .mov [a0]) fun t24 =>
  Option.bind (chk t24 fun a0 => Prim.run (.ext 0) [a0]) fun t27 =>
  Option.bind (chk t24 fun a0 => Prim.run (.ext 1) [a0]) fun t28 =>
  Option.bind (Prim.run .mov [(.agg [(.int .i64 0), (.int .i64 0), (.int .u64 0)])]) fun t5 =>
  chk t27 fun a0 => chk t5 fun y0 => Option.bind (setP [] y0 a0) fun t5 =>
  Option.bind (chk t28 fun a0 => Prim.run .mov [a0]) fun t6 =>
  Option.bind (Prim.run .mov [(.int .u64 0)]) fun t7 =>
  Option.bind (Prim.run .mov [(.int .i64 0)]) fun t8 =>
  denK T A8x1 [t0, t1, .undef, .undef, .undef, t5, t6, t7, t8, .undef, .undef, .undef, .undef, .undef, .undef, .undef, .undef, .undef, .undef, .undef, .undef, .undef, .undef, .undef, .undef, .undef, .undef, .undef, .undef, .undef, .undef, .undef, .undef, .undef, .undef, .undef, .undef, .undef, .undef, .undef, .undef, .undef, .undef, .undef, .undef, .undef, .undef, .undef, .undef, .undef, .undef, .undef, .undef, .undef, .undef, .undef, .undef, .undef, .undef, .undef, .undef, .undef, .undef, .undef, .undef, .undef, .undef, .undef, .undef, .undef, .undef, .undef, .undef, .undef, .undef, .undef, .undef, .undef, .undef, .undef] (seqK T B8x1 (endK [4])))) = some rs) : Ans T 8 [t0, t1] = some rs := call_of (T := T) c8 (Eq.trans (by kernel_rfl) h)
/-! vmfleet/vmfleetlaw27.HeartPackets -/
theorem f9 (t0 t1 t2 : PV) {rs : List PV} (h : (Option.bind (Prim.run .mov [(.bool false)]) fun t6 =>
  Option.bind (chk t0 fun a0 => Prim.run .mov [a0]) fun t16 =>
  Option.bind (chk t1 fun a0 => Prim.run .mov [a0]) fun t17 =>
  Option.bind (chk t16 fun a0 => chk t17 fun a1 => Option.bind (Ans T 41 [a0, a1]) fun rs => retV 1 rs) fun t18 =>
  Option.bind (chk t18 fun a0 => Prim.run .mov [a0]) fun t7 =>
  Option.bind (chk t7 fun a0 => Prim.run .mov [a0]) fun t20 =>
  Option.bind (chk t20 fun a0 => Option.bind (Ans T 33 [a0]) fun rs => retV 3 rs) fun t21 =>
  Option.bind (chk t21 fun a0 => Prim.run .mov [a0]) fun t19 =>
  Option.bind (chk t19 fun a0 => Prim.run (.ext 0) [a0]) fun t22 =>
  Option.bind (chk t19 fun a0 => Prim.run (.ext 1) [a0]) fun t23 =>
  Option.bind (chk t19 fun a0 => Prim.run (.ext 2) [a0]) fun t24 =>
  Option.bind (chk t22 fun a0 => Prim.run .mov [a0]) fun t8 =>
  Option.bind (chk t23 fun a0 => Prim.run .mov [a0]) fun t9 =>
  Option.bind (chk t24 fun a0 => Prim.run .mov [a0]) fun t10 =>
  Option.bind (chk t10 fun a0 => Prim.run .mov [a0]) fun t25 =>
  Option.bind (chk t25 fun a0 => Prim.run (.un .not) [a0]) fun t26 =>
  Option.bind (chk t26 fun a0 => Prim.run .mov [a0]) fun t27 =>
  Option.bind (grd t27 false (chk t8 fun a0 => Prim.run .mov [a0])) fun t28 =>
  Option.bind (grd t27 false (chk t0 fun a0 => Prim.run .mov [a0])) fun t29 =>
  Option.bind (grd t27 false (chk t28 fun a0 => chk t29 fun a1 => Prim.run (.bin .neq) [a0, a1])) fun t30 =>
  Option.bind (chk t27 fun a0 => isB a0 (some (.bool true)) (chk t30 fun a1 => some a1)) fun t31 =>
  Option.bind (chk t31 fun a0 => Prim.run .mov [a0]) fun t32 =>
  Option.bind (grd t32 false (chk t9 fun a0 => Prim.run .mov [a0])) fun t33 =>
  Option.bind (grd t32 false (chk t1 fun a0 => Prim.run .mov [a0])) fun t34 =>
  Option.bind (grd t32 false (chk t33 fun a0 => chk t34 fun a1 => Prim.run (.bin .neq) [a0, a1])) fun t35 =>
  Option.bind (chk t32 fun a0 => isB a0 (some (.bool true)) (chk t35 fun a1 => some a1)) fun t36 =>
  Option.bind (chk t36 fun a0 => Prim.run .mov [a0]) fun t37 =>
  Option.bind (grd t37 false (chk t7 fun a0 => Prim.run .mov [a0])) fun t38 =>
  Option.bind (grd t37 false (chk t38 fun a0 => Prim.run .len [a0])) fun t39 =>
  Option.bind (grd t37 false (chk t39 fun a0 => Prim.run (.bin .eql) [a0, (.int .i64 0)])) fun t40 =>
  Option.bind (chk t37 fun a0 => isB a0 (some (.bool true)) (chk t40 fun a1 => some a1)) fun t41 =>
  chk t41 fun c0 => isB c0
 (Option.bind (Prim.run .mov [(.bool false)]) fun t6 =>
  allDef [t6])
 (Option.bind (chk t7 fun a0 => Prim.run .mov [a0]) fun t42 =>
  Option.bind (chk t42 fun a0 => Prim.run .toBytes [a0]) fun t43 =>
  Option.bind (chk t43 fun a0 => Prim.run .mov [a0]) fun t11 =>
  Option.bind (chk t2 fun a0 => Prim.run .mov [a0]) fun t44 =>
  Option.bind (chk t11 fun a0 => Prim.run .mov [a0]) fun t45 =>
  Option.bind (chk t45 fun a0 => Prim.run .len [a0]) fun t46 =>
  Option.bind (chk t46 fun a1 => Prim.run (.bin .mul) [(.int .i64 8), a1]) fun t47 =>
  Option.bind (chk t44 fun a0 => chk t47 fun a1 => Option.bind (Ans T 21 [a0, a1]) fun rs => retV 1 rs) fun t48 =>
  Option.bind (chk t48 fun a0 => Prim.run .mov [a0]) fun t12 =>
  Option.bind (chk t11 fun a0 => Prim.run .mov [a0]) fun t49 =>
  Option.bind (chk t12 fun a0 => Prim.run .mov [a0]) fun t50 =>
  Option.bind (chk t50 fun a0 => Prim.run (.bin .quo) [a0, (.int .i64 8)]) fun t51 =>
  Option.bind (chk t11 fun a0 => Prim.run .mov [a0]) fun t52 =>
  Option.bind (chk t12 fun a0 => Prim.run .mov [a0]) fun t53 =>
  Option.bind (chk t53 fun a0 => Prim.run (.bin .quo) [a0, (.int .i64 8)]) fun t54 =>
  Option.bind (chk t52 fun a0 => chk t54 fun a1 => Prim.run (.iptr []) [a0, a1]) fun t55 =>
  Option.bind (chk t11 fun a0 => chk t55 fun a1 => Prim.run .load [a0, a1]) fun t56 =>
  Option.bind (chk t12 fun a0 => Prim.run .mov [a0]) fun t57 =>
  Option.bind (chk t57 fun a0 => Prim.run (.bin .rem) [a0, (.int .i64 8)]) fun t58 =>
  Option.bind (chk t58 fun a0 => Prim.run (.toInt .u64) [a0]) fun t59 =>
  Option.bind (chk t59 fun a1 => Prim.run (.bin .shl) [(.int .u8 1), a1]) fun t60 =>
  Option.bind (chk t56 fun a0 => chk t60 fun a1 => Prim.run (.bin .xor) [a0, a1]) fun t61 =>
  Option.bind (chk t49 fun a0 => chk t51 fun a1 => Prim.run (.iptr []) [a0, a1]) fun t62 =>
  chk t61 fun a0 => asPath t62 fun q0 => chk t11 fun y0 => Option.bind (setP q0 y0 a0) fun t11 =>
  Option.bind (chk t11 fun a0 => Prim.run .mov [a0]) fun t64 =>
  Option.bind (chk t64 fun a0 => Prim.run .toStr [a0]) fun t65 =>
  Option.bind (chk t65 fun a0 => Option.bind (Ans T 33 [a0]) fun rs => retV 3 rs) fun t66 =>
  Option.bind (chk t66 fun a0 => Prim.run .mov [a0]) fun t63 =>
  Option.bind (chk t63 fun a0 => Prim.run (.ext 0) [a0]) fun t67 =>
  Option.bind (chk t63 fun a0 => Prim.run (.ext 1) [a0]) fun t68 =>
  Option.bind (chk t63 fun a0 => Prim.run (.ext 2) [a0]) fun t69 =>
  Option.bind (chk t67 fun a0 => Prim.run .mov [a0]) fun t13 =>
  Option.bind (chk t68 fun a0 => Prim.run .mov [a0]) fun t14 =>
  Option.bind (chk t69 fun a0 => Prim.run .mov [a0]) fun t15 =>
  Option.bind (chk t15 fun a0 => Prim.run .mov [a0]) fun t70 =>
  Option.bind (chk t70 fun a0 => Prim.run (.un .not) [a0]) fun t71 =>
  Option.bind (chk t71 fun a0 => Prim.run .mov [a0]) fun t72 =>
  Option.bind (grd t72 true (Option.bind (Ans T 28 []) fun rs => retV 1 rs)) fun t73 =>
  Option.bind (chk t72 fun a0 => isB a0 (chk t73 fun a1 => some a1) (some (.bool false))) fun t74 =>
  Option.bind (chk t74 fun a0 => Prim.run .mov [a0]) fun t6 =>
  allDef [t6])) = some rs) : Ans T 9 [t0, t1, t2] = some rs := call_of (T := T) c9 (Eq.trans (by kernel_rfl) h)
/-! vmfleet/vmfleetmake.Round -/
theorem f21 (t0 t1 : PV) {rs : List PV} (h : (Option.bind (Prim.run .mov [(.int .i64 0)]) fun t4 =>
  Option.bind (chk t0 fun a0 => Prim.run .mov [a0]) fun t6 =>
  Option.bind (chk t1 fun a0 => Prim.run .mov [a0]) fun t7 =>
  Option.bind (chk t6 fun a0 => chk t7 fun a1 => Prim.run (.bin .rem) [a0, a1]) fun t8 =>
  Option.bind (chk t8 fun a0 => Prim.run .mov [a0]) fun t5 =>
  Option.bind (chk t5 fun a0 => Prim.run .mov [a0]) fun t9 =>
  Option.bind (chk t9 fun a0 => Prim.run (.bin .lss) [a0, (.int .i64 0)]) fun t10 =>
  chk t10 fun c0 => isB c0
 (Option.bind (chk t5 fun a0 => Prim.run .mov [a0]) fun t11 =>
  Option.bind (chk t1 fun a0 => Prim.run .mov [a0]) fun t12 =>
  Option.bind (chk t11 fun a0 => chk t12 fun a1 => Prim.run (.bin .add) [a0, a1]) fun t13 =>
  Option.bind (chk t13 fun a0 => Prim.run .mov [a0]) fun t5 =>
  Option.bind (chk t5 fun a0 => Prim.run .mov [a0]) fun t14 =>
  Option.bind (chk t14 fun a0 => Prim.run .mov [a0]) fun t4 =>
  allDef [t4])
 (Option.bind (chk t5 fun a0 => Prim.run .mov [a0]) fun t14 =>
  Option.bind (chk t14 fun a0 => Prim.run .mov [a0]) fun t4 =>
  allDef [t4])) = some rs) : Ans T 21 [t0, t1] = some rs := call_of (T := T) c21 (Eq.trans (by kernel_rfl) h)
/-! vmfleet/vmfleetlaw27.awake -/
theorem f28 {rs : List PV} (h : (Option.bind (Prim.run .mov [(.bool false)]) fun t0 =>
  Option.bind (Option.bind (Ans T 29 [(.int .i64 2)]) fun rs => retV 2 rs) fun t9 =>
  Option.bind (chk t9 fun a0 => Prim.run .mov [a0]) fun t8 =>
  Option.bind (chk t8 fun a0 => Prim.run (.ext 0) [a0]) fun t10 =>
  Option.bind (chk t8 fun a0 => Prim.run (.ext 1) [a0]) fun t11 =>
  Option.bind (Prim.run .mov [(.agg [(.int .i64 0), (.int .i64 0), (.int .u64 0)])]) fun t1 =>
  chk t10 fun a0 => chk t1 fun y0 => Option.bind (setP [] y0 a0) fun t1 =>
  Option.bind (chk t11 fun a0 => Prim.run .mov [a0]) fun t2 =>
  Option.bind (chk t1 fun a0 => Prim.run .load [a0, (.ptr [])]) fun t12 =>
  Option.bind (chk t12 fun a0 => Option.bind (Ans T 37 [a0]) fun rs => retV 1 rs) fun t13 =>
  Option.bind (chk t13 fun a0 => Option.bind (Ans T 37 [a0]) fun rs => retV 1 rs) fun t14 =>
  chk t14 fun a0 => chk t1 fun y0 => Option.bind (setP [] y0 a0) fun t1 =>
  Option.bind (chk t1 fun a0 => Prim.run .load [a0, (.ptr [])]) fun t15 =>
  Option.bind (chk t15 fun a0 => Option.bind (Ans T 39 [a0]) fun rs => retV 1 rs) fun t16 =>
  Option.bind (chk t16 fun a0 => Prim.run .mov [a0]) fun t3 =>
  Option.bind (chk t1 fun a0 => Prim.run .load [a0, (.ptr [])]) fun t18 =>
  Option.bind (chk t18 fun a0 => Option.bind (Ans T 31 [a0, (.int .u64 1)]) fun rs => retV 2 rs) fun t19 =>
  Option.bind (chk t19 fun a0 => Prim.run .mov [a0]) fun t17 =>
  Option.bind (chk t17 fun a0 => Prim.run (.ext 0) [a0]) fun t20 =>
  Option.bind (chk t17 fun a0 => Prim.run (.ext 1) [a0]) fun t21 =>
  chk t20 fun a0 => chk t1 fun y0 => Option.bind (setP [] y0 a0) fun t1 =>
  Option.bind (chk t21 fun a0 => Prim.run .mov [a0]) fun t4 =>
  Option.bind (Option.bind (Ans T 41 [(.int .u64 7), (.int .u64 300)]) fun rs => retV 1 rs) fun t23 =>
  Option.bind (chk t23 fun a0 => Option.bind (Ans T 33 [a0]) fun rs => retV 3 rs) fun t24 =>
  Option.bind (chk t24 fun a0 => Prim.run .mov [a0]) fun t22 =>
  Option.bind (chk t22 fun a0 => Prim.run (.ext 0) [a0]) fun t25 =>
  Option.bind (chk t22 fun a0 => Prim.run (.ext 1) [a0]) fun t26 =>
  Option.bind (chk t22 fun a0 => Prim.run (.ext 2) [a0]) fun t27 =>
  Option.bind (chk t25 fun a0 => Prim.run .mov [a0]) fun t5 =>
  Option.bind (chk t26 fun a0 => Prim.run .mov [a0]) fun t6 =>
  Option.bind (chk t27 fun a0 => Prim.run .mov [a0]) fun t7 =>
  Option.bind (chk t2 fun a0 => Prim.run .mov [a0]) fun t28 =>
  Option.bind (chk t28 fun a0 => Prim.run .mov [a0]) fun t29 =>
  Option.bind (grd t29 true (chk t3 fun a0 => Prim.run .mov [a0])) fun t30 =>
  Option.bind (chk t29 fun a0 => isB a0 (chk t30 fun a1 => some a1) (some (.bool false))) fun t31 =>
  Option.bind (chk t31 fun a0 => Prim.run .mov [a0]) fun t32 =>
  Option.bind (grd t32 true (chk t4 fun a0 => Prim.run .mov [a0])) fun t33 =>
  Option.bind (chk t32 fun a0 => isB a0 (chk t33 fun a1 => some a1) (some (.bool false))) fun t34 =>
  Option.bind (chk t34 fun a0 => Prim.run .mov [a0]) fun t35 =>
  Option.bind (grd t35 true (chk t1 fun a0 => Prim.run .load [a0, (.ptr [])])) fun t36 =>
  Option.bind (grd t35 true (chk t36 fun a0 => Option.bind (Ans T 39 [a0]) fun rs => retV 1 rs)) fun t37 =>
  Option.bind (grd t35 true (chk t37 fun a0 => Prim.run (.un .not) [a0])) fun t38 =>
  Option.bind (chk t35 fun a0 => isB a0 (chk t38 fun a1 => some a1) (some (.bool false))) fun t39 =>
  Option.bind (chk t39 fun a0 => Prim.run .mov [a0]) fun t40 =>
  Option.bind (grd t40 true (chk t5 fun a0 => Prim.run .mov [a0])) fun t41 =>
  Option.bind (grd t40 true (chk t41 fun a0 => Prim.run (.bin .eql) [a0, (.int .u64 7)])) fun t42 =>
  Option.bind (chk t40 fun a0 => isB a0 (chk t42 fun a1 => some a1) (some (.bool false))) fun t43 =>
  Option.bind (chk t43 fun a0 => Prim.run .mov [a0]) fun t44 =>
  Option.bind (grd t44 true (chk t6 fun a0 => Prim.run .mov [a0])) fun t45 =>
  Option.bind (grd t44 true (chk t45 fun a0 => Prim.run (.bin .eql) [a0, (.int .u64 300)])) fun t46 =>
  Option.bind (chk t44 fun a0 => isB a0 (chk t46 fun a1 => some a1) (some (.bool false))) fun t47 =>
  Option.bind (chk t47 fun a0 => Prim.run .mov [a0]) fun t48 =>
  Option.bind (grd t48 true (chk t7 fun a0 => Prim.run .mov [a0])) fun t49 =>
  Option.bind (chk t48 fun a0 => isB a0 (chk t49 fun a1 => some a1) (some (.bool false))) fun t50 =>
  Option.bind (chk t50 fun a0 => Prim.run .mov [a0]) fun t0 =>
  allDef [t0]) = some rs) : Ans T 28 [] = some rs := call_of (T := T) c28 (Eq.trans (by kernel_rfl) h)
/-! vmfleet/heartbeat.New -/
theorem f29 (t0 : PV) {rs : List PV} (h : (Option.bind (Prim.run .mov [(.agg [(.int .i64 0), (.int .i64 0), (.int .u64 0)])]) fun t2 =>
  Option.bind (Prim.run .mov [(.bool false)]) fun t3 =>
  Option.bind (chk t0 fun a0 => Prim.run .mov [a0]) fun t5 =>
  Option.bind (chk t5 fun a0 => Prim.run (.build [(.int .i64 0), (.int .i64 0), (.int .u64 0)] [0]) [a0]) fun t6 =>
  Option.bind (Prim.run .mov [(.agg [(.int .i64 0), (.int .i64 0), (.int .u64 0)])]) fun t4 =>
  chk t6 fun a0 => chk t4 fun y0 => Option.bind (setP [] y0 a0) fun t4 =>
  Option.bind (chk t4 fun a0 => Prim.run .load [a0, (.ptr [])]) fun t7 =>
  Option.bind (chk t7 fun a0 => Option.bind (Ans T 35 [a0]) fun rs => retV 1 rs) fun t8 =>
  Option.bind (chk t8 fun a0 => Prim.run (.un .not) [a0]) fun t9 =>
  chk t9 fun c0 => isB c0
 (Option.bind (Prim.run (.build [(.int .i64 0), (.int .i64 0), (.int .u64 0)] []) []) fun t10 =>
  chk t10 fun a0 => chk t2 fun y0 => Option.bind (setP [] y0 a0) fun t2 =>
  Option.bind (Prim.run .mov [(.bool false)]) fun t3 =>
  allDef [t2, t3])
 (Option.bind (chk t4 fun a0 => Prim.run .load [a0, (.ptr [])]) fun t11 =>
  chk t11 fun a0 => chk t2 fun y0 => Option.bind (setP [] y0 a0) fun t2 =>
  Option.bind (Prim.run .mov [(.bool true)]) fun t3 =>
  allDef [t2, t3])) = some rs) : Ans T 29 [t0] = some rs := call_of (T := T) c29 (Eq.trans (by kernel_rfl) h)
/-! vmfleet/vmfleetref24.NewDetector -/
theorem f30 (t0 : PV) {rs : List PV} (h : (Option.bind (Prim.run .mov [(.agg [(.int .i64 0), (.int .i64 0), (.int .u64 0)])]) fun t2 =>
  Option.bind (Prim.run .mov [(.bool false)]) fun t3 =>
  Option.bind (chk t0 fun a0 => Prim.run .mov [a0]) fun t5 =>
  Option.bind (chk t5 fun a0 => Prim.run (.build [(.int .i64 0), (.int .i64 0), (.int .u64 0)] [0]) [a0]) fun t6 =>
  Option.bind (Prim.run .mov [(.agg [(.int .i64 0), (.int .i64 0), (.int .u64 0)])]) fun t4 =>
  chk t6 fun a0 => chk t4 fun y0 => Option.bind (setP [] y0 a0) fun t4 =>
  Option.bind (chk t4 fun a0 => Prim.run .load [a0, (.ptr [])]) fun t7 =>
  Option.bind (chk t7 fun a0 => Option.bind (Ans T 36 [a0]) fun rs => retV 1 rs) fun t8 =>
  Option.bind (chk t8 fun a0 => Prim.run (.un .not) [a0]) fun t9 =>
  chk t9 fun c0 => isB c0
 (Option.bind (Prim.run (.build [(.int .i64 0), (.int .i64 0), (.int .u64 0)] []) []) fun t10 =>
  chk t10 fun a0 => chk t2 fun y0 => Option.bind (setP [] y0 a0) fun t2 =>
  Option.bind (Prim.run .mov [(.bool false)]) fun t3 =>
  allDef [t2, t3])
 (Option.bind (chk t4 fun a0 => Prim.run .load [a0, (.ptr [])]) fun t11 =>
  chk t11 fun a0 => chk t2 fun y0 => Option.bind (setP [] y0 a0) fun t2 =>
  Option.bind (Prim.run .mov [(.bool true)]) fun t3 =>
  allDef [t2, t3])) = some rs) : Ans T 30 [t0] = some rs := call_of (T := T) c30 (Eq.trans (by kernel_rfl) h)
/-! vmfleet/heartbeat.Beat -/
theorem f31 (t0 t1 : PV) {rs : List PV} (h : (Option.bind (chk t0 fun a0 => Prim.run .mov [a0]) fun t2 =>
  Option.bind (Prim.run .mov [(.agg [(.int .i64 0), (.int .i64 0), (.int .u64 0)])]) fun t4 =>
  Option.bind (Prim.run .mov [(.bool false)]) fun t5 =>
  Option.bind (chk t2 fun a0 => Prim.run .load [a0, (.ptr [])]) fun t6 =>
  Option.bind (chk t6 fun a0 => Option.bind (Ans T 35 [a0]) fun rs => retV 1 rs) fun t7 =>
  Option.bind (chk t7 fun a0 => Prim.run (.un .not) [a0]) fun t8 =>
  Option.bind (chk t8 fun a0 => Prim.run .mov [a0]) fun t9 =>
  Option.bind (grd t9 false (chk t1 fun a0 => Prim.run .mov [a0])) fun t10 =>
  Option.bind (grd t9 false (Prim.run (.fptr 2) [(.ptr [])])) fun t11 =>
  Option.bind (grd t9 false (chk t2 fun a0 => chk t11 fun a1 => Prim.run .load [a0, a1])) fun t12 =>
  Option.bind (grd t9 false (chk t10 fun a0 => chk t12 fun a1 => Prim.run (.bin .leq) [a0, a1])) fun t13 =>
  Option.bind (chk t9 fun a0 => isB a0 (some (.bool true)) (chk t13 fun a1 => some a1)) fun t14 =>
  chk t14 fun c0 => isB c0
 (Option.bind (chk t2 fun a0 => Prim.run .load [a0, (.ptr [])]) fun t15 =>
  chk t15 fun a0 => chk t4 fun y0 => Option.bind (setP [] y0 a0) fun t4 =>
  Option.bind (Prim.run .mov [(.bool false)]) fun t5 =>
  allDef [t4, t5])
 (Option.bind (chk t1 fun a0 => Prim.run .mov [a0]) fun t16 =>
  Option.bind (Prim.run (.fptr 2) [(.ptr [])]) fun t17 =>
  chk t16 fun a0 => asPath t17 fun q0 => chk t2 fun y0 => Option.bind (setP q0 y0 a0) fun t2 =>
  Option.bind (Prim.run (.fptr 1) [(.ptr [])]) fun t18 =>
  asPath t18 fun q0 => chk t2 fun y0 => Option.bind (setP q0 y0 (.int .i64 0)) fun t2 =>
  Option.bind (chk t2 fun a0 => Prim.run .load [a0, (.ptr [])]) fun t19 =>
  chk t19 fun a0 => chk t4 fun y0 => Option.bind (setP [] y0 a0) fun t4 =>
  Option.bind (Prim.run .mov [(.bool true)]) fun t5 =>
  allDef [t4, t5])) = some rs) : Ans T 31 [t0, t1] = some rs := call_of (T := T) c31 (Eq.trans (by kernel_rfl) h)
/-! vmfleet/vmfleetref24.Beat -/
theorem f32 (t0 t1 : PV) {rs : List PV} (h : (Option.bind (chk t0 fun a0 => Prim.run .mov [a0]) fun t2 =>
  Option.bind (Prim.run .mov [(.agg [(.int .i64 0), (.int .i64 0), (.int .u64 0)])]) fun t4 =>
  Option.bind (Prim.run .mov [(.bool false)]) fun t5 =>
  Option.bind (chk t2 fun a0 => Prim.run .load [a0, (.ptr [])]) fun t6 =>
  Option.bind (chk t6 fun a0 => Option.bind (Ans T 36 [a0]) fun rs => retV 1 rs) fun t7 =>
  Option.bind (chk t7 fun a0 => Prim.run (.un .not) [a0]) fun t8 =>
  Option.bind (chk t8 fun a0 => Prim.run .mov [a0]) fun t9 =>
  Option.bind (grd t9 false (chk t1 fun a0 => Prim.run .mov [a0])) fun t10 =>
  Option.bind (grd t9 false (Prim.run (.fptr 2) [(.ptr [])])) fun t11 =>
  Option.bind (grd t9 false (chk t2 fun a0 => chk t11 fun a1 => Prim.run .load [a0, a1])) fun t12 =>
  Option.bind (grd t9 false (chk t10 fun a0 => chk t12 fun a1 => Prim.run (.bin .leq) [a0, a1])) fun t13 =>
  Option.bind (chk t9 fun a0 => isB a0 (some (.bool true)) (chk t13 fun a1 => some a1)) fun t14 =>
  chk t14 fun c0 => isB c0
 (Option.bind (chk t2 fun a0 => Prim.run .load [a0, (.ptr [])]) fun t15 =>
  chk t15 fun a0 => chk t4 fun y0 => Option.bind (setP [] y0 a0) fun t4 =>
  Option.bind (Prim.run .mov [(.bool false)]) fun t5 =>
  allDef [t4, t5])
 (Option.bind (chk t1 fun a0 => Prim.run .mov [a0]) fun t16 =>
  Option.bind (Prim.run (.fptr 2) [(.ptr [])]) fun t17 =>
  chk t16 fun a0 => asPath t17 fun q0 => chk t2 fun y0 => Option.bind (setP q0 y0 a0) fun t2 =>
  Option.bind (Prim.run (.fptr 1) [(.ptr [])]) fun t18 =>
  asPath t18 fun q0 => chk t2 fun y0 => Option.bind (setP q0 y0 (.int .i64 0)) fun t2 =>
  Option.bind (chk t2 fun a0 => Prim.run .load [a0, (.ptr [])]) fun t19 =>
  chk t19 fun a0 => chk t4 fun y0 => Option.bind (setP [] y0 a0) fun t4 =>
  Option.bind (Prim.run .mov [(.bool true)]) fun t5 =>
  allDef [t4, t5])) = some rs) : Ans T 32 [t0, t1] = some rs := call_of (T := T) c32 (Eq.trans (by kernel_rfl) h)
/-! vmfleet/heartbeat.Parse -/
theorem f33 (t0 : PV) {rs : List PV} (h : (Option.bind (Prim.run .mov [(.int .u64 0)]) fun t2 =>
  Option.bind (Prim.run .mov [(.int .u64 0)]) fun t3 =>
  Option.bind (Prim.run .mov [(.bool false)]) fun t4 =>
  Option.bind (chk t0 fun a0 => Prim.run .mov [a0]) fun t10 =>
  Option.bind (chk t10 fun a0 => Option.bind (Ans T 48 [a0]) fun rs => retV 3 rs) fun t11 =>
  Option.bind (chk t11 fun a0 => Prim.run .mov [a0]) fun t9 =>
  Option.bind (chk t9 fun a0 => Prim.run (.ext 0) [a0]) fun t12 =>
  Option.bind (chk t9 fun a0 => Prim.run (.ext 1) [a0]) fun t13 =>
  Option.bind (chk t9 fun a0 => Prim.run (.ext 2) [a0]) fun t14 =>
  Option.bind (chk t12 fun a0 => Prim.run .mov [a0]) fun t2 =>
  Option.bind (chk t13 fun a0 => Prim.run .mov [a0]) fun t5 =>
  Option.bind (chk t14 fun a0 => Prim.run .mov [a0]) fun t6 =>
  Option.bind (chk t6 fun a0 => Prim.run .mov [a0]) fun t15 =>
  Option.bind (chk t15 fun a0 => Prim.run (.bin .neq) [a0, (.int .i64 0)]) fun t16 =>
  Option.bind (chk t16 fun a0 => Prim.run .mov [a0]) fun t17 =>
  Option.bind (grd t17 false (chk t5 fun a0 => Prim.run .mov [a0])) fun t18 =>
  Option.bind (grd t17 false (chk t18 fun a0 => Prim.run (.bin .eql) [a0, (.str [])])) fun t19 =>
  Option.bind (chk t17 fun a0 => isB a0 (some (.bool true)) (chk t19 fun a1 => some a1)) fun t20 =>
  Option.bind (chk t20 fun a0 => Prim.run .mov [a0]) fun t21 =>
  Option.bind (grd t21 false (chk t5 fun a0 => Prim.run .mov [a0])) fun t22 =>
  Option.bind (grd t21 false (chk t22 fun a0 => Prim.run .index [a0, (.int .i64 0)])) fun t23 =>
  Option.bind (grd t21 false (chk t23 fun a0 => Prim.run (.bin .neq) [a0, (.int .u8 72)])) fun t24 =>
  Option.bind (chk t21 fun a0 => isB a0 (some (.bool true)) (chk t24 fun a1 => some a1)) fun t25 =>
  chk t25 fun c0 => isB c0
 (Option.bind (Prim.run .mov [(.int .u64 0)]) fun t2 =>
  Option.bind (Prim.run .mov [(.int .u64 0)]) fun t3 =>
  Option.bind (Prim.run .mov [(.bool false)]) fun t4 =>
  allDef [t2, t3, t4])
 (Option.bind (chk t5 fun a0 => Prim.run .mov [a0]) fun t27 =>
  Option.bind (chk t27 fun a0 => Prim.run (.sl true false) [a0, (.int .i64 1)]) fun t28 =>
  Option.bind (chk t28 fun a0 => Option.bind (Ans T 63 [a0]) fun rs => retV 3 rs) fun t29 =>
  Option.bind (chk t29 fun a0 => Prim.run .mov [a0]) fun t26 =>
  Option.bind (chk t26 fun a0 => Prim.run (.ext 0) [a0]) fun t30 =>
  Option.bind (chk t26 fun a0 => Prim.run (.ext 1) [a0]) fun t31 =>
  Option.bind (chk t26 fun a0 => Prim.run (.ext 2) [a0]) fun t32 =>
  Option.bind (chk t30 fun a0 => Prim.run .mov [a0]) fun t3 =>
  Option.bind (chk t31 fun a0 => Prim.run .mov [a0]) fun t7 =>
  Option.bind (chk t32 fun a0 => Prim.run .mov [a0]) fun t8 =>
  Option.bind (chk t8 fun a0 => Prim.run .mov [a0]) fun t33 =>
  Option.bind (chk t33 fun a0 => Prim.run (.un .not) [a0]) fun t34 =>
  Option.bind (chk t34 fun a0 => Prim.run .mov [a0]) fun t35 =>
  Option.bind (grd t35 false (chk t7 fun a0 => Prim.run .mov [a0])) fun t36 =>
  Option.bind (grd t35 false (chk t5 fun a0 => Prim.run .mov [a0])) fun t37 =>
  Option.bind (grd t35 false (chk t37 fun a0 => Prim.run .len [a0])) fun t38 =>
  Option.bind (grd t35 false (chk t38 fun a0 => Prim.run (.bin .sub) [a0, (.int .i64 1)])) fun t39 =>
  Option.bind (grd t35 false (chk t36 fun a0 => chk t39 fun a1 => Prim.run (.bin .neq) [a0, a1])) fun t40 =>
  Option.bind (chk t35 fun a0 => isB a0 (some (.bool true)) (chk t40 fun a1 => some a1)) fun t41 =>
  chk t41 fun c0 => isB c0
 (Option.bind (Prim.run .mov [(.int .u64 0)]) fun t2 =>
  Option.bind (Prim.run .mov [(.int .u64 0)]) fun t3 =>
  Option.bind (Prim.run .mov [(.bool false)]) fun t4 =>
  allDef [t2, t3, t4])
 (Option.bind (chk t2 fun a0 => Prim.run .mov [a0]) fun t42 =>
  Option.bind (chk t3 fun a0 => Prim.run .mov [a0]) fun t43 =>
  Option.bind (chk t42 fun a0 => Prim.run .mov [a0]) fun t2 =>
  Option.bind (chk t43 fun a0 => Prim.run .mov [a0]) fun t3 =>
  Option.bind (Prim.run .mov [(.bool true)]) fun t4 =>
  allDef [t2, t3, t4]))) = some rs) : Ans T 33 [t0] = some rs := call_of (T := T) c33 (Eq.trans (by kernel_rfl) h)
/-! vmfleet/vmfleetref24.ParseHeartbeat -/
theorem f34 (t0 : PV) {rs : List PV} (h : (Option.bind (Prim.run .mov [(.int .u64 0)]) fun t2 =>
  Option.bind (Prim.run .mov [(.int .u64 0)]) fun t3 =>
  Option.bind (Prim.run .mov [(.bool false)]) fun t4 =>
  Option.bind (chk t0 fun a0 => Prim.run .mov [a0]) fun t11 =>
  Option.bind (chk t11 fun a0 => Option.bind (Ans T 64 [a0, (.int .u8 72)]) fun rs => retV 3 rs) fun t12 =>
  Option.bind (chk t12 fun a0 => Prim.run .mov [a0]) fun t10 =>
  Option.bind (chk t10 fun a0 => Prim.run (.ext 0) [a0]) fun t13 =>
  Option.bind (chk t10 fun a0 => Prim.run (.ext 1) [a0]) fun t14 =>
  Option.bind (chk t10 fun a0 => Prim.run (.ext 2) [a0]) fun t15 =>
  Option.bind (chk t13 fun a0 => Prim.run .mov [a0]) fun t5 =>
  Option.bind (chk t14 fun a0 => Prim.run .mov [a0]) fun t6 =>
  Option.bind (chk t15 fun a0 => Prim.run .mov [a0]) fun t7 =>
  Option.bind (chk t6 fun a0 => Prim.run .mov [a0]) fun t17 =>
  Option.bind (chk t17 fun a0 => Option.bind (Ans T 65 [a0]) fun rs => retV 2 rs) fun t18 =>
  Option.bind (chk t18 fun a0 => Prim.run .mov [a0]) fun t16 =>
  Option.bind (chk t16 fun a0 => Prim.run (.ext 0) [a0]) fun t19 =>
  Option.bind (chk t16 fun a0 => Prim.run (.ext 1) [a0]) fun t20 =>
  Option.bind (chk t19 fun a0 => Prim.run .mov [a0]) fun t8 =>
  Option.bind (chk t20 fun a0 => Prim.run .mov [a0]) fun t9 =>
  Option.bind (chk t7 fun a0 => Prim.run .mov [a0]) fun t21 =>
  Option.bind (chk t21 fun a0 => Prim.run (.un .not) [a0]) fun t22 =>
  Option.bind (chk t22 fun a0 => Prim.run .mov [a0]) fun t23 =>
  Option.bind (grd t23 false (chk t9 fun a0 => Prim.run .mov [a0])) fun t24 =>
  Option.bind (grd t23 false (chk t24 fun a0 => Prim.run (.un .not) [a0])) fun t25 =>
  Option.bind (chk t23 fun a0 => isB a0 (some (.bool true)) (chk t25 fun a1 => some a1)) fun t26 =>
  Option.bind (chk t26 fun a0 => Prim.run .mov [a0]) fun t27 =>
  Option.bind (grd t27 false (chk t5 fun a0 => Prim.run .mov [a0])) fun t28 =>
  Option.bind (grd t27 false (chk t8 fun a0 => Prim.run .mov [a0])) fun t29 =>
  Option.bind (grd t27 false (chk t28 fun a0 => chk t29 fun a1 => Option.bind (Ans T 42 [a0, a1]) fun rs => retV 1 rs)) fun t30 =>
  Option.bind (grd t27 false (chk t0 fun a0 => Prim.run .mov [a0])) fun t31 =>
  Option.bind (grd t27 false (chk t30 fun a0 => chk t31 fun a1 => Prim.run (.bin .neq) [a0, a1])) fun t32 =>
  Option.bind (chk t27 fun a0 => isB a0 (some (.bool true)) (chk t32 fun a1 => some a1)) fun t33 =>
  chk t33 fun c0 => isB c0
 (Option.bind (Prim.run .mov [(.int .u64 0)]) fun t2 =>
  Option.bind (Prim.run .mov [(.int .u64 0)]) fun t3 =>
  Option.bind (Prim.run .mov [(.bool false)]) fun t4 =>
  allDef [t2, t3, t4])
 (Option.bind (chk t5 fun a0 => Prim.run .mov [a0]) fun t34 =>
  Option.bind (chk t8 fun a0 => Prim.run .mov [a0]) fun t35 =>
  Option.bind (chk t34 fun a0 => Prim.run .mov [a0]) fun t2 =>
  Option.bind (chk t35 fun a0 => Prim.run .mov [a0]) fun t3 =>
  Option.bind (Prim.run .mov [(.bool true)]) fun t4 =>
  allDef [t2, t3, t4])) = some rs) : Ans T 34 [t0] = some rs := call_of (T := T) c34 (Eq.trans (by kernel_rfl) h)
/-! vmfleet/heartbeat.Valid -/
theorem f35 (t0 : PV) {rs : List PV} (h : (Option.bind (chk t0 fun a0 => Prim.run .mov [a0]) fun t1 =>
  Option.bind (Prim.run .mov [(.bool false)]) fun t2 =>
  Option.bind (Prim.run (.fptr 0) [(.ptr [])]) fun t3 =>
  Option.bind (chk t1 fun a0 => chk t3 fun a1 => Prim.run .load [a0, a1]) fun t4 =>
  Option.bind (chk t4 fun a0 => Prim.run (.bin .geq) [a0, (.int .i64 1)]) fun t5 =>
  Option.bind (chk t5 fun a0 => Prim.run .mov [a0]) fun t6 =>
  Option.bind (grd t6 true (Prim.run (.fptr 0) [(.ptr [])])) fun t7 =>
  Option.bind (grd t6 true (chk t1 fun a0 => chk t7 fun a1 => Prim.run .load [a0, a1])) fun t8 =>
  Option.bind (grd t6 true (chk t8 fun a0 => Prim.run (.bin .leq) [a0, (.int .i64 20)])) fun t9 =>
  Option.bind (chk t6 fun a0 => isB a0 (chk t9 fun a1 => some a1) (some (.bool false))) fun t10 =>
  Option.bind (chk t10 fun a0 => Prim.run .mov [a0]) fun t11 =>
  Option.bind (grd t11 true (Prim.run (.fptr 1) [(.ptr [])])) fun t12 =>
  Option.bind (grd t11 true (chk t1 fun a0 => chk t12 fun a1 => Prim.run .load [a0, a1])) fun t13 =>
  Option.bind (grd t11 true (chk t13 fun a0 => Prim.run (.bin .geq) [a0, (.int .i64 0)])) fun t14 =>
  Option.bind (chk t11 fun a0 => isB a0 (chk t14 fun a1 => some a1) (some (.bool false))) fun t15 =>
  Option.bind (chk t15 fun a0 => Prim.run .mov [a0]) fun t16 =>
  Option.bind (grd t16 true (Prim.run (.fptr 1) [(.ptr [])])) fun t17 =>
  Option.bind (grd t16 true (chk t1 fun a0 => chk t17 fun a1 => Prim.run .load [a0, a1])) fun t18 =>
  Option.bind (grd t16 true (Prim.run (.fptr 0) [(.ptr [])])) fun t19 =>
  Option.bind (grd t16 true (chk t1 fun a0 => chk t19 fun a1 => Prim.run .load [a0, a1])) fun t20 =>
  Option.bind (grd t16 true (chk t18 fun a0 => chk t20 fun a1 => Prim.run (.bin .leq) [a0, a1])) fun t21 =>
  Option.bind (chk t16 fun a0 => isB a0 (chk t21 fun a1 => some a1) (some (.bool false))) fun t22 =>
  Option.bind (chk t22 fun a0 => Prim.run .mov [a0]) fun t2 =>
  allDef [t2]) = some rs) : Ans T 35 [t0] = some rs := call_of (T := T) c35 (Eq.trans (by kernel_rfl) h)
/-! vmfleet/vmfleetref24.ValidDetector -/
theorem f36 (t0 : PV) {rs : List PV} (h : (Option.bind (chk t0 fun a0 => Prim.run .mov [a0]) fun t1 =>
  Option.bind (Prim.run .mov [(.bool false)]) fun t2 =>
  Option.bind (Prim.run (.fptr 0) [(.ptr [])]) fun t3 =>
  Option.bind (chk t1 fun a0 => chk t3 fun a1 => Prim.run .load [a0, a1]) fun t4 =>
  Option.bind (chk t4 fun a0 => Prim.run (.bin .geq) [a0, (.int .i64 1)]) fun t5 =>
  Option.bind (chk t5 fun a0 => Prim.run .mov [a0]) fun t6 =>
  Option.bind (grd t6 true (Prim.run (.fptr 0) [(.ptr [])])) fun t7 =>
  Option.bind (grd t6 true (chk t1 fun a0 => chk t7 fun a1 => Prim.run .load [a0, a1])) fun t8 =>
  Option.bind (grd t6 true (chk t8 fun a0 => Prim.run (.bin .leq) [a0, (.int .i64 20)])) fun t9 =>
  Option.bind (chk t6 fun a0 => isB a0 (chk t9 fun a1 => some a1) (some (.bool false))) fun t10 =>
  Option.bind (chk t10 fun a0 => Prim.run .mov [a0]) fun t11 =>
  Option.bind (grd t11 true (Prim.run (.fptr 1) [(.ptr [])])) fun t12 =>
  Option.bind (grd t11 true (chk t1 fun a0 => chk t12 fun a1 => Prim.run .load [a0, a1])) fun t13 =>
  Option.bind (grd t11 true (chk t13 fun a0 => Prim.run (.bin .geq) [a0, (.int .i64 0)])) fun t14 =>
  Option.bind (chk t11 fun a0 => isB a0 (chk t14 fun a1 => some a1) (some (.bool false))) fun t15 =>
  Option.bind (chk t15 fun a0 => Prim.run .mov [a0]) fun t16 =>
  Option.bind (grd t16 true (Prim.run (.fptr 1) [(.ptr [])])) fun t17 =>
  Option.bind (grd t16 true (chk t1 fun a0 => chk t17 fun a1 => Prim.run .load [a0, a1])) fun t18 =>
  Option.bind (grd t16 true (Prim.run (.fptr 0) [(.ptr [])])) fun t19 =>
  Option.bind (grd t16 true (chk t1 fun a0 => chk t19 fun a1 => Prim.run .load [a0, a1])) fun t20 =>
  Option.bind (grd t16 true (chk t18 fun a0 => chk t20 fun a1 => Prim.run (.bin .leq) [a0, a1])) fun t21 =>
  Option.bind (chk t16 fun a0 => isB a0 (chk t21 fun a1 => some a1) (some (.bool false))) fun t22 =>
  Option.bind (chk t22 fun a0 => Prim.run .mov [a0]) fun t2 =>
  allDef [t2]) = some rs) : Ans T 36 [t0] = some rs := call_of (T := T) c36 (Eq.trans (by kernel_rfl) h)
/-! vmfleet/heartbeat.Tick -/
theorem f37 (t0 : PV) {rs : List PV} (h : (Option.bind (chk t0 fun a0 => Prim.run .mov [a0]) fun t1 =>
  Option.bind (Prim.run .mov [(.agg [(.int .i64 0), (.int .i64 0), (.int .u64 0)])]) fun t2 =>
  Option.bind (chk t1 fun a0 => Prim.run .load [a0, (.ptr [])]) fun t3 =>
  Option.bind (chk t3 fun a0 => Option.bind (Ans T 35 [a0]) fun rs => retV 1 rs) fun t4 =>
  Option.bind (chk t4 fun a0 => Prim.run .mov [a0]) fun t5 =>
  Option.bind (grd t5 true (Prim.run (.fptr 1) [(.ptr [])])) fun t6 =>
  Option.bind (grd t5 true (chk t1 fun a0 => chk t6 fun a1 => Prim.run .load [a0, a1])) fun t7 =>
  Option.bind (grd t5 true (Prim.run (.fptr 0) [(.ptr [])])) fun t8 =>
  Option.bind (grd t5 true (chk t1 fun a0 => chk t8 fun a1 => Prim.run .load [a0, a1])) fun t9 =>
  Option.bind (grd t5 true (chk t7 fun a0 => chk t9 fun a1 => Prim.run (.bin .lss) [a0, a1])) fun t10 =>
  Option.bind (chk t5 fun a0 => isB a0 (chk t10 fun a1 => some a1) (some (.bool false))) fun t11 =>
  chk t11 fun c0 => isB c0
 (Option.bind (Prim.run (.fptr 1) [(.ptr [])]) fun t12 =>
  Option.bind (chk t1 fun a0 => chk t12 fun a1 => Prim.run .load [a0, a1]) fun t13 =>
  Option.bind (chk t13 fun a0 => Prim.run (.bin .add) [a0, (.int .i64 1)]) fun t14 =>
  Option.bind (Prim.run (.fptr 1) [(.ptr [])]) fun t15 =>
  chk t14 fun a0 => asPath t15 fun q0 => chk t1 fun y0 => Option.bind (setP q0 y0 a0) fun t1 =>
  Option.bind (chk t1 fun a0 => Prim.run .load [a0, (.ptr [])]) fun t16 =>
  chk t16 fun a0 => chk t2 fun y0 => Option.bind (setP [] y0 a0) fun t2 =>
  allDef [t2])
 (Option.bind (chk t1 fun a0 => Prim.run .load [a0, (.ptr [])]) fun t16 =>
  chk t16 fun a0 => chk t2 fun y0 => Option.bind (setP [] y0 a0) fun t2 =>
  allDef [t2])) = some rs) : Ans T 37 [t0] = some rs := call_of (T := T) c37 (Eq.trans (by kernel_rfl) h)
/-! vmfleet/vmfleetref24.Tick -/
theorem f38 (t0 : PV) {rs : List PV} (h : (Option.bind (chk t0 fun a0 => Prim.run .mov [a0]) fun t1 =>
  Option.bind (Prim.run .mov [(.agg [(.int .i64 0), (.int .i64 0), (.int .u64 0)])]) fun t2 =>
  Option.bind (chk t1 fun a0 => Prim.run .load [a0, (.ptr [])]) fun t3 =>
  Option.bind (chk t3 fun a0 => Option.bind (Ans T 36 [a0]) fun rs => retV 1 rs) fun t4 =>
  chk t4 fun c0 => isB c0
 (Option.bind (Prim.run (.fptr 1) [(.ptr [])]) fun t5 =>
  Option.bind (chk t1 fun a0 => chk t5 fun a1 => Prim.run .load [a0, a1]) fun t6 =>
  Option.bind (chk t6 fun a0 => Prim.run (.bin .add) [a0, (.int .i64 1)]) fun t7 =>
  Option.bind (Prim.run (.fptr 0) [(.ptr [])]) fun t8 =>
  Option.bind (chk t1 fun a0 => chk t8 fun a1 => Prim.run .load [a0, a1]) fun t9 =>
  Option.bind (chk t7 fun a0 => chk t9 fun a1 => Prim.run .minI [a0, a1]) fun t10 =>
  Option.bind (Prim.run (.fptr 1) [(.ptr [])]) fun t11 =>
  chk t10 fun a0 => asPath t11 fun q0 => chk t1 fun y0 => Option.bind (setP q0 y0 a0) fun t1 =>
  Option.bind (chk t1 fun a0 => Prim.run .load [a0, (.ptr [])]) fun t12 =>
  chk t12 fun a0 => chk t2 fun y0 => Option.bind (setP [] y0 a0) fun t2 =>
  allDef [t2])
 (Option.bind (chk t1 fun a0 => Prim.run .load [a0, (.ptr [])]) fun t12 =>
  chk t12 fun a0 => chk t2 fun y0 => Option.bind (setP [] y0 a0) fun t2 =>
  allDef [t2])) = some rs) : Ans T 38 [t0] = some rs := call_of (T := T) c38 (Eq.trans (by kernel_rfl) h)
/-! vmfleet/heartbeat.Suspects -/
theorem f39 (t0 : PV) {rs : List PV} (h : (Option.bind (chk t0 fun a0 => Prim.run .mov [a0]) fun t1 =>
  Option.bind (Prim.run .mov [(.bool false)]) fun t2 =>
  Option.bind (chk t1 fun a0 => Prim.run .load [a0, (.ptr [])]) fun t3 =>
  Option.bind (chk t3 fun a0 => Option.bind (Ans T 35 [a0]) fun rs => retV 1 rs) fun t4 =>
  Option.bind (chk t4 fun a0 => Prim.run .mov [a0]) fun t5 =>
  Option.bind (grd t5 true (Prim.run (.fptr 1) [(.ptr [])])) fun t6 =>
  Option.bind (grd t5 true (chk t1 fun a0 => chk t6 fun a1 => Prim.run .load [a0, a1])) fun t7 =>
  Option.bind (grd t5 true (Prim.run (.fptr 0) [(.ptr [])])) fun t8 =>
  Option.bind (grd t5 true (chk t1 fun a0 => chk t8 fun a1 => Prim.run .load [a0, a1])) fun t9 =>
  Option.bind (grd t5 true (chk t7 fun a0 => chk t9 fun a1 => Prim.run (.bin .eql) [a0, a1])) fun t10 =>
  Option.bind (chk t5 fun a0 => isB a0 (chk t10 fun a1 => some a1) (some (.bool false))) fun t11 =>
  Option.bind (chk t11 fun a0 => Prim.run .mov [a0]) fun t2 =>
  allDef [t2]) = some rs) : Ans T 39 [t0] = some rs := call_of (T := T) c39 (Eq.trans (by kernel_rfl) h)
/-! vmfleet/vmfleetref24.Suspects -/
theorem f40 (t0 : PV) {rs : List PV} (h : (Option.bind (chk t0 fun a0 => Prim.run .mov [a0]) fun t1 =>
  Option.bind (Prim.run .mov [(.bool false)]) fun t2 =>
  Option.bind (chk t1 fun a0 => Prim.run .load [a0, (.ptr [])]) fun t3 =>
  Option.bind (chk t3 fun a0 => Option.bind (Ans T 36 [a0]) fun rs => retV 1 rs) fun t4 =>
  Option.bind (chk t4 fun a0 => Prim.run .mov [a0]) fun t5 =>
  Option.bind (grd t5 true (Prim.run (.fptr 1) [(.ptr [])])) fun t6 =>
  Option.bind (grd t5 true (chk t1 fun a0 => chk t6 fun a1 => Prim.run .load [a0, a1])) fun t7 =>
  Option.bind (grd t5 true (Prim.run (.fptr 0) [(.ptr [])])) fun t8 =>
  Option.bind (grd t5 true (chk t1 fun a0 => chk t8 fun a1 => Prim.run .load [a0, a1])) fun t9 =>
  Option.bind (grd t5 true (chk t7 fun a0 => chk t9 fun a1 => Prim.run (.bin .eql) [a0, a1])) fun t10 =>
  Option.bind (chk t5 fun a0 => isB a0 (chk t10 fun a1 => some a1) (some (.bool false))) fun t11 =>
  Option.bind (chk t11 fun a0 => Prim.run .mov [a0]) fun t2 =>
  allDef [t2]) = some rs) : Ans T 40 [t0] = some rs := call_of (T := T) c40 (Eq.trans (by kernel_rfl) h)
/-! vmfleet/heartbeat.Packet -/
theorem f41 (t0 t1 : PV) {rs : List PV} (h : (Option.bind (Prim.run .mov [(.str [])]) fun t4 =>
  Option.bind (chk t0 fun a0 => Prim.run .mov [a0]) fun t5 =>
  Option.bind (chk t1 fun a0 => Prim.run .mov [a0]) fun t6 =>
  Option.bind (chk t6 fun a0 => Option.bind (Ans T 66 [a0]) fun rs => retV 1 rs) fun t7 =>
  Option.bind (chk t7 fun a1 => Prim.run (.bin .add) [(.str [72]), a1]) fun t8 =>
  Option.bind (chk t5 fun a0 => chk t8 fun a1 => Option.bind (Ans T 47 [a0, a1]) fun rs => retV 1 rs) fun t9 =>
  Option.bind (chk t9 fun a0 => Prim.run .mov [a0]) fun t4 =>
  allDef [t4]) = some rs) : Ans T 41 [t0, t1] = some rs := call_of (T := T) c41 (Eq.trans (by kernel_rfl) h)
/-! vmfleet/vmfleetref24.Heartbeat -/
theorem f42 (t0 t1 : PV) {rs : List PV} (h : (Option.bind (Prim.run .mov [(.str [])]) fun t4 =>
  Option.bind (chk t0 fun a0 => Prim.run .mov [a0]) fun t5 =>
  Option.bind (chk t1 fun a0 => Prim.run .mov [a0]) fun t6 =>
  Option.bind (chk t6 fun a0 => Option.bind (Ans T 67 [a0]) fun rs => retV 1 rs) fun t7 =>
  Option.bind (chk t7 fun a1 => Prim.run (.bin .add) [(.str [72]), a1]) fun t8 =>
  Option.bind (chk t5 fun a0 => chk t8 fun a1 => Option.bind (Ans T 49 [a0, a1]) fun rs => retV 1 rs) fun t9 =>
  Option.bind (chk t9 fun a0 => Prim.run .mov [a0]) fun t4 =>
  allDef [t4]) = some rs) : Ans T 42 [t0, t1] = some rs := call_of (T := T) c42 (Eq.trans (by kernel_rfl) h)
/-! vmfleet/eventlog.Seal -/
theorem f47 (t0 t1 : PV) {rs : List PV} (h : (Option.bind (Prim.run .mov [(.str [])]) fun t4 =>
  Option.bind (chk t0 fun a0 => Prim.run .mov [a0]) fun t6 =>
  Option.bind (chk t6 fun a0 => Option.bind (Ans T 66 [a0]) fun rs => retV 1 rs) fun t7 =>
  Option.bind (chk t1 fun a0 => Prim.run .mov [a0]) fun t8 =>
  Option.bind (chk t8 fun a0 => Option.bind (Ans T 71 [a0]) fun rs => retV 1 rs) fun t9 =>
  Option.bind (chk t7 fun a0 => chk t9 fun a1 => Prim.run (.bin .add) [a0, a1]) fun t10 =>
  Option.bind (chk t10 fun a0 => Prim.run .mov [a0]) fun t5 =>
  Option.bind (chk t5 fun a0 => Prim.run .mov [a0]) fun t11 =>
  Option.bind (chk t5 fun a0 => Prim.run .mov [a0]) fun t12 =>
  Option.bind (chk t12 fun a0 => Option.bind (Ans T 72 [a0]) fun rs => retV 1 rs) fun t13 =>
  Option.bind (chk t11 fun a0 => chk t13 fun a1 => Prim.run (.bin .add) [a0, a1]) fun t14 =>
  Option.bind (chk t14 fun a0 => Prim.run .mov [a0]) fun t4 =>
  allDef [t4]) = some rs) : Ans T 47 [t0, t1] = some rs := call_of (T := T) c47 (Eq.trans (by kernel_rfl) h)
/-! vmfleet/eventlog.Open -/
theorem f48 (t0 : PV) {rs : List PV} (h : (Option.bind (Prim.run .mov [(.int .u64 0)]) fun t2 =>
  Option.bind (Prim.run .mov [(.str [])]) fun t3 =>
  Option.bind (Prim.run .mov [(.int .i64 0)]) fun t4 =>
  Option.bind (chk t0 fun a0 => Prim.run .mov [a0]) fun t8 =>
  Option.bind (chk t8 fun a0 => Prim.run (.build [(.str []), (.bool false)] [0, 1]) [a0, (.bool true)]) fun t9 =>
  Option.bind (chk t9 fun a0 => Prim.run .mov [a0]) fun t10 =>
  Option.bind (Prim.run .mov [(.ptr [])]) fun t5 =>
  Option.bind (chk t5 fun a0 => Prim.run .mov [a0]) fun t11 =>
  asPath t11 fun a0q => chk t10 fun a0r => Option.bind (getP a0q a0r) fun a0 => Option.bind (Ans T 73 [a0]) fun rs1 => consK (rs1.drop 1) fun y0 ys0 => asPath t11 fun q0 => chk t10 fun x0 => Option.bind (setP q0 x0 y0) fun t10 => nilK ys0 (Option.bind (chk t5 fun a0 => Prim.run .mov [a0]) fun t13 =>
  asPath t13 fun a0q => chk t10 fun a0r => Option.bind (getP a0q a0r) fun a0 => Option.bind (Ans T 74 [a0]) fun rs2 => consK (rs2.drop 1) fun y0 ys0 => asPath t13 fun q0 => chk t10 fun x0 => Option.bind (setP q0 x0 y0) fun t10 => nilK ys0 (Option.bind (chk (resultOf 1 rs1) fun a0 => Prim.run .mov [a0]) fun t6 =>
  Option.bind (chk (resultOf 1 rs2) fun a0 => Prim.run .mov [a0]) fun t7 =>
  Option.bind (chk t5 fun a0 => Prim.run .mov [a0]) fun t15 =>
  Option.bind (chk t15 fun a0 => Prim.run .mov [a0]) fun t16 =>
  Option.bind (chk t16 fun a0 => Prim.run (.fptr 1) [a0]) fun t17 =>
  Option.bind (chk t10 fun a0 => chk t17 fun a1 => Prim.run .load [a0, a1]) fun t18 =>
  Option.bind (chk t18 fun a0 => Prim.run (.un .not) [a0]) fun t19 =>
  Option.bind (chk t19 fun a0 => Prim.run .mov [a0]) fun t20 =>
  Option.bind (grd t20 false (chk t5 fun a0 => Prim.run .mov [a0])) fun t21 =>
  Option.bind (grd t20 false (chk t21 fun a0 => Prim.run .mov [a0])) fun t22 =>
  Option.bind (grd t20 false (chk t22 fun a0 => Prim.run (.fptr 0) [a0])) fun t23 =>
  Option.bind (grd t20 false (chk t10 fun a0 => chk t23 fun a1 => Prim.run .load [a0, a1])) fun t24 =>
  Option.bind (grd t20 false (chk t24 fun a0 => Prim.run .len [a0])) fun t25 =>
  Option.bind (grd t20 false (chk t25 fun a0 => Prim.run (.bin .neq) [a0, (.int .i64 8)])) fun t26 =>
  Option.bind (chk t20 fun a0 => isB a0 (some (.bool true)) (chk t26 fun a1 => some a1)) fun t27 =>
  chk t27 fun c0 => isB c0
 (Option.bind (Prim.run .mov [(.int .u64 0)]) fun t2 =>
  Option.bind (Prim.run .mov [(.str [])]) fun t3 =>
  Option.bind (Prim.run .mov [(.int .i64 1900)]) fun t4 =>
  allDef [t2, t3, t4])
 (Option.bind (chk t5 fun a0 => Prim.run .mov [a0]) fun t28 =>
  Option.bind (chk t28 fun a0 => Prim.run .mov [a0]) fun t29 =>
  Option.bind (chk t29 fun a0 => Prim.run (.fptr 0) [a0]) fun t30 =>
  Option.bind (chk t10 fun a0 => chk t30 fun a1 => Prim.run .load [a0, a1]) fun t31 =>
  Option.bind (chk t0 fun a0 => Prim.run .mov [a0]) fun t32 =>
  Option.bind (chk t0 fun a0 => Prim.run .mov [a0]) fun t33 =>
  Option.bind (chk t33 fun a0 => Prim.run .len [a0]) fun t34 =>
  Option.bind (chk t34 fun a0 => Prim.run (.bin .sub) [a0, (.int .i64 8)]) fun t35 =>
  Option.bind (chk t32 fun a0 => chk t35 fun a1 => Prim.run (.sl false true) [a0, a1]) fun t36 =>
  Option.bind (chk t36 fun a0 => Option.bind (Ans T 72 [a0]) fun rs => retV 1 rs) fun t37 =>
  Option.bind (chk t31 fun a0 => chk t37 fun a1 => Prim.run (.bin .neq) [a0, a1]) fun t38 =>
  chk t38 fun c0 => isB c0
 (Option.bind (Prim.run .mov [(.int .u64 0)]) fun t2 =>
  Option.bind (Prim.run .mov [(.str [])]) fun t3 =>
  Option.bind (Prim.run .mov [(.int .i64 1903)]) fun t4 =>
  allDef [t2, t3, t4])
 (Option.bind (chk t6 fun a0 => Prim.run .mov [a0]) fun t39 =>
  Option.bind (chk t7 fun a0 => Prim.run .mov [a0]) fun t40 =>
  Option.bind (chk t39 fun a0 => Prim.run .mov [a0]) fun t2 =>
  Option.bind (chk t40 fun a0 => Prim.run .mov [a0]) fun t3 =>
  Option.bind (Prim.run .mov [(.int .i64 0)]) fun t4 =>
  allDef [t2, t3, t4]))))) = some rs) : Ans T 48 [t0] = some rs := call_of (T := T) c48 (Eq.trans (by kernel_rfl) h)
/-! vmfleet/vmfleetref19.Seal -/
theorem f49 (t0 t1 : PV) {rs : List PV} (h : (Option.bind (Prim.run .mov [(.str [])]) fun t4 =>
  Option.bind (chk t0 fun a0 => Prim.run .mov [a0]) fun t6 =>
  Option.bind (chk t6 fun a0 => Option.bind (Ans T 67 [a0]) fun rs => retV 1 rs) fun t7 =>
  Option.bind (chk t1 fun a0 => Prim.run .mov [a0]) fun t8 =>
  Option.bind (chk t8 fun a0 => Prim.run .len [a0]) fun t9 =>
  Option.bind (chk t9 fun a0 => Prim.run (.toInt .u64) [a0]) fun t10 =>
  Option.bind (chk t10 fun a0 => Option.bind (Ans T 67 [a0]) fun rs => retV 1 rs) fun t11 =>
  Option.bind (chk t7 fun a0 => chk t11 fun a1 => Prim.run (.bin .add) [a0, a1]) fun t12 =>
  Option.bind (chk t1 fun a0 => Prim.run .mov [a0]) fun t13 =>
  Option.bind (chk t12 fun a0 => chk t13 fun a1 => Prim.run (.bin .add) [a0, a1]) fun t14 =>
  Option.bind (chk t14 fun a0 => Prim.run .mov [a0]) fun t5 =>
  Option.bind (chk t5 fun a0 => Prim.run .mov [a0]) fun t15 =>
  Option.bind (chk t5 fun a0 => Prim.run .mov [a0]) fun t16 =>
  Option.bind (chk t16 fun a1 => Option.bind (Ans T 76 [(.int .u64 14695981039346656037), a1]) fun rs => retV 1 rs) fun t17 =>
  Option.bind (chk t17 fun a0 => Option.bind (Ans T 75 [a0]) fun rs => retV 1 rs) fun t18 =>
  Option.bind (chk t15 fun a0 => chk t18 fun a1 => Prim.run (.bin .add) [a0, a1]) fun t19 =>
  Option.bind (chk t19 fun a0 => Prim.run .mov [a0]) fun t4 =>
  allDef [t4]) = some rs) : Ans T 49 [t0, t1] = some rs := call_of (T := T) c49 (Eq.trans (by kernel_rfl) h)
/-! vmfleet/vmfleetref19.Open -/
theorem f50 (t0 : PV) {rs : List PV} (h : (Option.bind (Prim.run .mov [(.int .u64 0)]) fun t2 =>
  Option.bind (Prim.run .mov [(.str [])]) fun t3 =>
  Option.bind (Prim.run .mov [(.int .i64 0)]) fun t4 =>
  Option.bind (chk t0 fun a0 => Prim.run .mov [a0]) fun t8 =>
  Option.bind (chk t8 fun a0 => Prim.run (.build [(.str []), (.bool false)] [0]) [a0]) fun t9 =>
  Option.bind (chk t9 fun a0 => Prim.run .mov [a0]) fun t10 =>
  Option.bind (Prim.run .mov [(.ptr [])]) fun t5 =>
  Option.bind (chk t5 fun a0 => Prim.run .mov [a0]) fun t11 =>
  asPath t11 fun a0q => chk t10 fun a0r => Option.bind (getP a0q a0r) fun a0 => Option.bind (Ans T 77 [a0]) fun rs1 => consK (rs1.drop 1) fun y0 ys0 => asPath t11 fun q0 => chk t10 fun x0 => Option.bind (setP q0 x0 y0) fun t10 => nilK ys0 (Option.bind (chk (resultOf 1 rs1) fun a0 => Prim.run .mov [a0]) fun t6 =>
  Option.bind (chk t5 fun a0 => Prim.run .mov [a0]) fun t13 =>
  Option.bind (chk t5 fun a0 => Prim.run .mov [a0]) fun t14 =>
  asPath t14 fun a0q => chk t10 fun a0r => Option.bind (getP a0q a0r) fun a0 => Option.bind (Ans T 77 [a0]) fun rs2 => consK (rs2.drop 1) fun y0 ys0 => asPath t14 fun q0 => chk t10 fun x0 => Option.bind (setP q0 x0 y0) fun t10 => nilK ys0 (asPath t13 fun a0q => chk t10 fun a0r => Option.bind (getP a0q a0r) fun a0 => chk (resultOf 1 rs2) fun a1 => Option.bind (Ans T 78 [a0, a1]) fun rs3 => consK (rs3.drop 1) fun y0 ys0 => asPath t13 fun q0 => chk t10 fun x0 => Option.bind (setP q0 x0 y0) fun t10 => nilK ys0 (Option.bind (chk (resultOf 1 rs3) fun a0 => Prim.run .mov [a0]) fun t7 =>
  Option.bind (chk t5 fun a0 => Prim.run .mov [a0]) fun t17 =>
  Option.bind (chk t17 fun a0 => Prim.run .mov [a0]) fun t18 =>
  Option.bind (chk t18 fun a0 => Prim.run (.fptr 1) [a0]) fun t19 =>
  Option.bind (chk t10 fun a0 => chk t19 fun a1 => Prim.run .load [a0, a1]) fun t20 =>
  Option.bind (chk t20 fun a0 => Prim.run .mov [a0]) fun t21 =>
  Option.bind (grd t21 false (chk t5 fun a0 => Prim.run .mov [a0])) fun t22 =>
  Option.bind (grd t21 false (chk t22 fun a0 => Prim.run .mov [a0])) fun t23 =>
  Option.bind (grd t21 false (chk t23 fun a0 => Prim.run (.fptr 0) [a0])) fun t24 =>
  Option.bind (grd t21 false (chk t10 fun a0 => chk t24 fun a1 => Prim.run .load [a0, a1])) fun t25 =>
  Option.bind (grd t21 false (chk t25 fun a0 => Prim.run .len [a0])) fun t26 =>
  Option.bind (grd t21 false (chk t26 fun a0 => Prim.run (.bin .neq) [a0, (.int .i64 8)])) fun t27 =>
  Option.bind (chk t21 fun a0 => isB a0 (some (.bool true)) (chk t27 fun a1 => some a1)) fun t28 =>
  chk t28 fun c0 => isB c0
 (Option.bind (Prim.run .mov [(.int .u64 0)]) fun t2 =>
  Option.bind (Prim.run .mov [(.str [])]) fun t3 =>
  Option.bind (Prim.run .mov [(.int .i64 1900)]) fun t4 =>
  allDef [t2, t3, t4])
 (Option.bind (chk t0 fun a0 => Prim.run .mov [a0]) fun t29 =>
  Option.bind (chk t0 fun a0 => Prim.run .mov [a0]) fun t30 =>
  Option.bind (chk t30 fun a0 => Prim.run .len [a0]) fun t31 =>
  Option.bind (chk t31 fun a0 => Prim.run (.bin .sub) [a0, (.int .i64 8)]) fun t32 =>
  Option.bind (chk t29 fun a0 => chk t32 fun a1 => Prim.run (.sl false true) [a0, a1]) fun t33 =>
  Option.bind (chk t33 fun a1 => Option.bind (Ans T 76 [(.int .u64 14695981039346656037), a1]) fun rs => retV 1 rs) fun t34 =>
  Option.bind (chk t34 fun a0 => Option.bind (Ans T 75 [a0]) fun rs => retV 1 rs) fun t35 =>
  Option.bind (chk t5 fun a0 => Prim.run .mov [a0]) fun t36 =>
  Option.bind (chk t36 fun a0 => Prim.run .mov [a0]) fun t37 =>
  Option.bind (chk t37 fun a0 => Prim.run (.fptr 0) [a0]) fun t38 =>
  Option.bind (chk t10 fun a0 => chk t38 fun a1 => Prim.run .load [a0, a1]) fun t39 =>
  Option.bind (chk t35 fun a0 => chk t39 fun a1 => Prim.run (.bin .neq) [a0, a1]) fun t40 =>
  chk t40 fun c0 => isB c0
 (Option.bind (Prim.run .mov [(.int .u64 0)]) fun t2 =>
  Option.bind (Prim.run .mov [(.str [])]) fun t3 =>
  Option.bind (Prim.run .mov [(.int .i64 1903)]) fun t4 =>
  allDef [t2, t3, t4])
 (Option.bind (chk t6 fun a0 => Prim.run .mov [a0]) fun t41 =>
  Option.bind (chk t7 fun a0 => Prim.run .mov [a0]) fun t42 =>
  Option.bind (chk t41 fun a0 => Prim.run .mov [a0]) fun t2 =>
  Option.bind (chk t42 fun a0 => Prim.run .mov [a0]) fun t3 =>
  Option.bind (Prim.run .mov [(.int .i64 0)]) fun t4 =>
  allDef [t2, t3, t4])))))) = some rs) : Ans T 50 [t0] = some rs := call_of (T := T) c50 (Eq.trans (by kernel_rfl) h)
/-! vmfleet/bits.Uvarint -/
noncomputable def WL63x2 (t0 t5 t10 t11 : PV) (K : RK) : Option (List PV) := loopK T kL63x2 L63x2 [t0, .undef, .undef, .undef, .undef, t5, .undef, .undef, .undef, .undef, t10, t11, .undef, .undef, .undef, .undef, .undef, .undef, .undef, .undef, .undef, .undef, .undef, .undef, .undef, .undef, .undef, .undef, .undef, .undef, .undef, .undef, .undef, .undef, .undef, .undef, .undef, .undef, .undef, .undef, .undef, .undef, .undef] K
theorem oL63x2 (t0 t5 t10 t11 : PV) (K : RK) {a : List PV} (h : (Option.bind (chk t11 fun a0 => chk t10 fun a1 => Prim.run (.bin .lss) [a0, a1]) fun t12 =>
  chk t12 fun c0 => isB c0
 (Option.bind (chk t11 fun a0 => Prim.run .mov [a0]) fun t13 =>
  Option.bind (chk t13 fun a0 => Prim.run .mov [a0]) fun t6 =>
  Option.bind (chk t0 fun a0 => Prim.run .mov [a0]) fun t14 =>
  Option.bind (chk t6 fun a0 => Prim.run .mov [a0]) fun t15 =>
  Option.bind (chk t14 fun a0 => chk t15 fun a1 => Prim.run .index [a0, a1]) fun t16 =>
  Option.bind (chk t16 fun a0 => Prim.run .mov [a0]) fun t7 =>
  Option.bind (chk t6 fun a0 => Prim.run .mov [a0]) fun t17 =>
  Option.bind (chk t17 fun a0 => Prim.run (.bin .eql) [a0, (.int .i64 9)]) fun t18 =>
  Option.bind (chk t18 fun a0 => Prim.run .mov [a0]) fun t19 =>
  Option.bind (grd t19 true (chk t7 fun a0 => Prim.run .mov [a0])) fun t20 =>
  Option.bind (grd t19 true (chk t20 fun a0 => Prim.run (.bin .gtr) [a0, (.int .u8 1)])) fun t21 =>
  Option.bind (chk t19 fun a0 => isB a0 (chk t21 fun a1 => some a1) (some (.bool false))) fun t22 =>
  chk t22 fun c0 => isB c0
 (Option.bind (Prim.run .mov [(.int .u64 0)]) fun t2 =>
  Option.bind (Prim.run .mov [(.int .i64 0)]) fun t3 =>
  Option.bind (Prim.run .mov [(.bool false)]) fun t4 =>
  K (.ret, [.undef, .undef, t2, t3, t4, .undef, .undef, .undef, .undef, .undef, .undef, .undef, .undef, .undef, .undef, .undef, .undef, .undef, .undef, .undef, .undef, .undef, .undef, .undef, .undef, .undef, .undef, .undef, .undef, .undef, .undef, .undef, .undef, .undef, .undef, .undef, .undef, .undef, .undef, .undef, .undef, .undef, .undef]))
 (Option.bind (chk t5 fun a0 => Prim.run .mov [a0]) fun t23 =>
  Option.bind (chk t7 fun a0 => Prim.run .mov [a0]) fun t24 =>
  Option.bind (chk t24 fun a0 => Prim.run (.bin .and) [a0, (.int .u8 127)]) fun t25 =>
  Option.bind (chk t25 fun a0 => Prim.run (.toInt .u64) [a0]) fun t26 =>
  Option.bind (chk t6 fun a0 => Prim.run .mov [a0]) fun t27 =>
  Option.bind (chk t27 fun a1 => Prim.run (.bin .mul) [(.int .i64 7), a1]) fun t28 =>
  Option.bind (chk t26 fun a0 => chk t28 fun a1 => Prim.run (.bin .shl) [a0, a1]) fun t29 =>
  Option.bind (chk t23 fun a0 => chk t29 fun a1 => Prim.run (.bin .or) [a0, a1]) fun t30 =>
  Option.bind (chk t30 fun a0 => Prim.run .mov [a0]) fun t5 =>
  Option.bind (chk t7 fun a0 => Prim.run .mov [a0]) fun t31 =>
  Option.bind (chk t31 fun a0 => Prim.run (.bin .lss) [a0, (.int .u8 128)]) fun t32 =>
  chk t32 fun c0 => isB c0
 (Option.bind (chk t7 fun a0 => Prim.run .mov [a0]) fun t33 =>
  Option.bind (chk t33 fun a0 => Prim.run (.bin .eql) [a0, (.int .u8 0)]) fun t34 =>
  Option.bind (chk t34 fun a0 => Prim.run .mov [a0]) fun t35 =>
  Option.bind (grd t35 true (chk t6 fun a0 => Prim.run .mov [a0])) fun t36 =>
  Option.bind (grd t35 true (chk t36 fun a0 => Prim.run (.bin .gtr) [a0, (.int .i64 0)])) fun t37 =>
  Option.bind (chk t35 fun a0 => isB a0 (chk t37 fun a1 => some a1) (some (.bool false))) fun t38 =>
  chk t38 fun c0 => isB c0
 (Option.bind (Prim.run .mov [(.int .u64 0)]) fun t2 =>
  Option.bind (Prim.run .mov [(.int .i64 0)]) fun t3 =>
  Option.bind (Prim.run .mov [(.bool false)]) fun t4 =>
  K (.ret, [.undef, .undef, t2, t3, t4, .undef, .undef, .undef, .undef, .undef, .undef, .undef, .undef, .undef, .undef, .undef, .undef, .undef, .undef, .undef, .undef, .undef, .undef, .undef, .undef, .undef, .undef, .undef, .undef, .undef, .undef, .undef, .undef, .undef, .undef, .undef, .undef, .undef, .undef, .undef, .undef, .undef, .undef]))
 (Option.bind (chk t5 fun a0 => Prim.run .mov [a0]) fun t39 =>
  Option.bind (chk t6 fun a0 => Prim.run .mov [a0]) fun t40 =>
  Option.bind (chk t40 fun a0 => Prim.run (.bin .add) [a0, (.int .i64 1)]) fun t41 =>
  Option.bind (chk t39 fun a0 => Prim.run .mov [a0]) fun t2 =>
  Option.bind (chk t41 fun a0 => Prim.run .mov [a0]) fun t3 =>
  Option.bind (Prim.run .mov [(.bool true)]) fun t4 =>
  K (.ret, [.undef, .undef, t2, t3, t4, .undef, .undef, .undef, .undef, .undef, .undef, .undef, .undef, .undef, .undef, .undef, .undef, .undef, .undef, .undef, .undef, .undef, .undef, .undef, .undef, .undef, .undef, .undef, .undef, .undef, .undef, .undef, .undef, .undef, .undef, .undef, .undef, .undef, .undef, .undef, .undef, .undef, .undef])))
 (Option.bind (chk t11 fun a0 => Prim.run (.bin .add) [a0, (.int .i64 1)]) fun t42 =>
  Option.bind (chk t42 fun a0 => Prim.run .mov [a0]) fun t11 =>
  WL63x2 t0 t5 t10 t11 K)))
 (K (.exit 0, [.undef, .undef, .undef, .undef, .undef, .undef, .undef, .undef, .undef, .undef, .undef, .undef, .undef, .undef, .undef, .undef, .undef, .undef, .undef, .undef, .undef, .undef, .undef, .undef, .undef, .undef, .undef, .undef, .undef, .undef, .undef, .undef, .undef, .undef, .undef, .undef, .undef, .undef, .undef, .undef, .undef, .undef, .undef]))) = some a) : WL63x2 t0 t5 t10 t11 K = some a := loopK_of (Eq.trans (by kernel_rfl) h)
@[simp] theorem aL63x2 (t0 t1 t2 t3 t4 t5 t6 t7 t8 t9 t10 t11 t12 t13 t14 t15 t16 t17 t18 t19 t20 t21 t22 t23 t24 t25 t26 t27 t28 t29 t30 t31 t32 t33 t34 t35 t36 t37 t38 t39 t40 t41 t42 : PV) (K : RK) : againK T kL63x2 L63x2 K (.normal, [t0, t1, t2, t3, t4, t5, t6, t7, t8, t9, t10, t11, t12, t13, t14, t15, t16, t17, t18, t19, t20, t21, t22, t23, t24, t25, t26, t27, t28, t29, t30, t31, t32, t33, t34, t35, t36, t37, t38, t39, t40, t41, t42]) = WL63x2 t0 t5 t10 t11 K := by kernel_rfl
@[simp] theorem lA63x1 (t0 t5 : PV) (K : RK) : denK T A63x1 [t0, .undef, .undef, .undef, .undef, t5, .undef, .undef, .undef, .undef, .undef, .undef, .undef, .undef, .undef, .undef, .undef, .undef, .undef, .undef, .undef, .undef, .undef, .undef, .undef, .undef, .undef, .undef, .undef, .undef, .undef, .undef, .undef, .undef, .undef, .undef, .undef, .undef, .undef, .undef, .undef, .undef, .undef] K =
  Option.bind (chk t0 fun a0 => Prim.run .mov [a0]) fun t8 =>
  Option.bind (chk t8 fun a0 => Prim.run .len [a0]) fun t9 =>
  Option.bind (chk t9 fun a0 => Prim.run .minI [a0, (.int .i64 10)]) fun t10 =>
  Option.bind (Prim.run .mov [(.int .i64 0)]) fun t11 =>
  WL63x2 t0 t5 t10 t11 (blockK 0 K) := by kernel_rfl
@[simp] theorem lB63x1 (K : RK) : denK T B63x1 [.undef, .undef, .undef, .undef, .undef, .undef, .undef, .undef, .undef, .undef, .undef, .undef, .undef, .undef, .undef, .undef, .undef, .undef, .undef, .undef, .undef, .undef, .undef, .undef, .undef, .undef, .undef, .undef, .undef, .undef, .undef, .undef, .undef, .undef, .undef, .undef, .undef, .undef, .undef, .undef, .undef, .undef, .undef] K =
  Option.bind (Prim.run .mov [(.int .u64 0)]) fun t2 =>
  Option.bind (Prim.run .mov [(.int .i64 0)]) fun t3 =>
  Option.bind (Prim.run .mov [(.bool false)]) fun t4 =>
  K (.ret, [.undef, .undef, t2, t3, t4, .undef, .undef, .undef, .undef, .undef, .undef, .undef, .undef, .undef, .undef, .undef, .undef, .undef, .undef, .undef, .undef, .undef, .undef, .undef, .undef, .undef, .undef, .undef, .undef, .undef, .undef, .undef, .undef, .undef, .undef, .undef, .undef, .undef, .undef, .undef, .undef, .undef, .undef]) := by kernel_rfl
theorem f63 (t0 : PV) {rs : List PV} (h : (Option.bind (Prim.run .mov [(.int .u64 0)]) fun t2 =>
  Option.bind (Prim.run .mov [(.int .i64 0)]) fun t3 =>
  Option.bind (Prim.run .mov [(.bool false)]) fun t4 =>
  Option.bind (Prim.run .mov [(.int .u64 0)]) fun t5 =>
  denK T A63x1 [t0, .undef, .undef, .undef, .undef, t5, .undef, .undef, .undef, .undef, .undef, .undef, .undef, .undef, .undef, .undef, .undef, .undef, .undef, .undef, .undef, .undef, .undef, .undef, .undef, .undef, .undef, .undef, .undef, .undef, .undef, .undef, .undef, .undef, .undef, .undef, .undef, .undef, .undef, .undef, .undef, .undef, .undef] (seqK T B63x1 (endK [2, 3, 4]))) = some rs) : Ans T 63 [t0] = some rs := call_of (T := T) c63 (Eq.trans (by kernel_rfl) h)
/-! vmfleet/vmfleetref24.opened -/
theorem f64 (t0 t1 : PV) {rs : List PV} (h : (Option.bind (Prim.run .mov [(.int .u64 0)]) fun t4 =>
  Option.bind (Prim.run .mov [(.str [])]) fun t5 =>
  Option.bind (Prim.run .mov [(.bool false)]) fun t6 =>
  Option.bind (chk t0 fun a0 => Prim.run .mov [a0]) fun t11 =>
  Option.bind (chk t11 fun a0 => Option.bind (Ans T 50 [a0]) fun rs => retV 3 rs) fun t12 =>
  Option.bind (chk t12 fun a0 => Prim.run .mov [a0]) fun t10 =>
  Option.bind (chk t10 fun a0 => Prim.run (.ext 0) [a0]) fun t13 =>
  Option.bind (chk t10 fun a0 => Prim.run (.ext 1) [a0]) fun t14 =>
  Option.bind (chk t10 fun a0 => Prim.run (.ext 2) [a0]) fun t15 =>
  Option.bind (chk t13 fun a0 => Prim.run .mov [a0]) fun t7 =>
  Option.bind (chk t14 fun a0 => Prim.run .mov [a0]) fun t8 =>
  Option.bind (chk t15 fun a0 => Prim.run .mov [a0]) fun t9 =>
  Option.bind (chk t9 fun a0 => Prim.run .mov [a0]) fun t16 =>
  Option.bind (chk t16 fun a0 => Prim.run (.bin .neq) [a0, (.int .i64 0)]) fun t17 =>
  Option.bind (chk t17 fun a0 => Prim.run .mov [a0]) fun t18 =>
  Option.bind (grd t18 false (chk t8 fun a0 => Prim.run .mov [a0])) fun t19 =>
  Option.bind (grd t18 false (chk t19 fun a0 => Prim.run .len [a0])) fun t20 =>
  Option.bind (grd t18 false (chk t20 fun a0 => Prim.run (.bin .eql) [a0, (.int .i64 0)])) fun t21 =>
  Option.bind (chk t18 fun a0 => isB a0 (some (.bool true)) (chk t21 fun a1 => some a1)) fun t22 =>
  Option.bind (chk t22 fun a0 => Prim.run .mov [a0]) fun t23 =>
  Option.bind (grd t23 false (chk t8 fun a0 => Prim.run .mov [a0])) fun t24 =>
  Option.bind (grd t23 false (chk t24 fun a0 => Prim.run .index [a0, (.int .i64 0)])) fun t25 =>
  Option.bind (grd t23 false (chk t1 fun a0 => Prim.run .mov [a0])) fun t26 =>
  Option.bind (grd t23 false (chk t25 fun a0 => chk t26 fun a1 => Prim.run (.bin .neq) [a0, a1])) fun t27 =>
  Option.bind (chk t23 fun a0 => isB a0 (some (.bool true)) (chk t27 fun a1 => some a1)) fun t28 =>
  chk t28 fun c0 => isB c0
 (Option.bind (Prim.run .mov [(.int .u64 0)]) fun t4 =>
  Option.bind (Prim.run .mov [(.str [])]) fun t5 =>
  Option.bind (Prim.run .mov [(.bool false)]) fun t6 =>
  allDef [t4, t5, t6])
 (Option.bind (chk t7 fun a0 => Prim.run .mov [a0]) fun t29 =>
  Option.bind (chk t8 fun a0 => Prim.run .mov [a0]) fun t30 =>
  Option.bind (chk t30 fun a0 => Prim.run (.sl true false) [a0, (.int .i64 1)]) fun t31 =>
  Option.bind (chk t29 fun a0 => Prim.run .mov [a0]) fun t4 =>
  Option.bind (chk t31 fun a0 => Prim.run .mov [a0]) fun t5 =>
  Option.bind (Prim.run .mov [(.bool true)]) fun t6 =>
  allDef [t4, t5, t6])) = some rs) : Ans T 64 [t0, t1] = some rs := call_of (T := T) c64 (Eq.trans (by kernel_rfl) h)
/-! vmfleet/vmfleetref24.whole -/
theorem f65 (t0 : PV) {rs : List PV} (h : (Option.bind (Prim.run .mov [(.int .u64 0)]) fun t2 =>
  Option.bind (Prim.run .mov [(.bool false)]) fun t3 =>
  Option.bind (chk t0 fun a0 => Prim.run .mov [a0]) fun t8 =>
  Option.bind (chk t8 fun a0 => Option.bind (Ans T 90 [a0]) fun rs => retV 3 rs) fun t9 =>
  Option.bind (chk t9 fun a0 => Prim.run .mov [a0]) fun t7 =>
  Option.bind (chk t7 fun a0 => Prim.run (.ext 0) [a0]) fun t10 =>
  Option.bind (chk t7 fun a0 => Prim.run (.ext 1) [a0]) fun t11 =>
  Option.bind (chk t7 fun a0 => Prim.run (.ext 2) [a0]) fun t12 =>
  Option.bind (chk t10 fun a0 => Prim.run .mov [a0]) fun t4 =>
  Option.bind (chk t11 fun a0 => Prim.run .mov [a0]) fun t5 =>
  Option.bind (chk t12 fun a0 => Prim.run .mov [a0]) fun t6 =>
  Option.bind (chk t4 fun a0 => Prim.run .mov [a0]) fun t13 =>
  Option.bind (chk t6 fun a0 => Prim.run .mov [a0]) fun t14 =>
  Option.bind (chk t14 fun a0 => Prim.run .mov [a0]) fun t15 =>
  Option.bind (grd t15 true (chk t5 fun a0 => Prim.run .mov [a0])) fun t16 =>
  Option.bind (grd t15 true (chk t0 fun a0 => Prim.run .mov [a0])) fun t17 =>
  Option.bind (grd t15 true (chk t17 fun a0 => Prim.run .len [a0])) fun t18 =>
  Option.bind (grd t15 true (chk t16 fun a0 => chk t18 fun a1 => Prim.run (.bin .eql) [a0, a1])) fun t19 =>
  Option.bind (chk t15 fun a0 => isB a0 (chk t19 fun a1 => some a1) (some (.bool false))) fun t20 =>
  Option.bind (chk t13 fun a0 => Prim.run .mov [a0]) fun t2 =>
  Option.bind (chk t20 fun a0 => Prim.run .mov [a0]) fun t3 =>
  allDef [t2, t3]) = some rs) : Ans T 65 [t0] = some rs := call_of (T := T) c65 (Eq.trans (by kernel_rfl) h)
/-! vmfleet/bits.PutUvarint -/
noncomputable def WL66x2 (t0 t3 : PV) (K : RK) : Option (List PV) := loopK T kL66x2 L66x2 [t0, .undef, .undef, t3, .undef, .undef, .undef, .undef, .undef, .undef, .undef, .undef, .undef, .undef, .undef, .undef, .undef, .undef, .undef, .undef] K
theorem oL66x2 (t0 t3 : PV) (K : RK) {a : List PV} (h : (Option.bind (chk t0 fun a0 => Prim.run .mov [a0]) fun t4 =>
  Option.bind (chk t4 fun a0 => Prim.run (.bin .geq) [a0, (.int .u64 128)]) fun t5 =>
  chk t5 fun c0 => isB c0
 (Option.bind (chk t3 fun a0 => Prim.run .mov [a0]) fun t6 =>
  Option.bind (chk t0 fun a0 => Prim.run .mov [a0]) fun t7 =>
  Option.bind (chk t7 fun a0 => Prim.run (.toInt .u8) [a0]) fun t8 =>
  Option.bind (chk t8 fun a0 => Prim.run (.bin .or) [a0, (.int .u8 128)]) fun t9 =>
  Option.bind (chk t9 fun a0 => Prim.run (.buildSl (.int .u8 0) 1 [0]) [a0]) fun t10 =>
  Option.bind (chk t6 fun a0 => chk t10 fun a1 => Prim.run (.app 1) [a0, a1]) fun t11 =>
  Option.bind (chk t11 fun a0 => Prim.run .mov [a0]) fun t3 =>
  Option.bind (chk t0 fun a0 => Prim.run .mov [a0]) fun t12 =>
  Option.bind (chk t12 fun a0 => Prim.run (.bin .shr) [a0, (.int .u64 7)]) fun t13 =>
  Option.bind (chk t13 fun a0 => Prim.run .mov [a0]) fun t0 =>
  WL66x2 t0 t3 K)
 (K (.exit 0, [t0, .undef, .undef, t3, .undef, .undef, .undef, .undef, .undef, .undef, .undef, .undef, .undef, .undef, .undef, .undef, .undef, .undef, .undef, .undef]))) = some a) : WL66x2 t0 t3 K = some a := loopK_of (Eq.trans (by kernel_rfl) h)
@[simp] theorem aL66x2 (t0 t1 t2 t3 t4 t5 t6 t7 t8 t9 t10 t11 t12 t13 t14 t15 t16 t17 t18 t19 : PV) (K : RK) : againK T kL66x2 L66x2 K (.normal, [t0, t1, t2, t3, t4, t5, t6, t7, t8, t9, t10, t11, t12, t13, t14, t15, t16, t17, t18, t19]) = WL66x2 t0 t3 K := by kernel_rfl
@[simp] theorem lA66x1 (t0 t3 : PV) (K : RK) : denK T A66x1 [t0, .undef, .undef, t3, .undef, .undef, .undef, .undef, .undef, .undef, .undef, .undef, .undef, .undef, .undef, .undef, .undef, .undef, .undef, .undef] K =
  WL66x2 t0 t3 (blockK 0 K) := by kernel_rfl
@[simp] theorem lB66x1 (t0 t3 : PV) (K : RK) : denK T B66x1 [t0, .undef, .undef, t3, .undef, .undef, .undef, .undef, .undef, .undef, .undef, .undef, .undef, .undef, .undef, .undef, .undef, .undef, .undef, .undef] K =
  Option.bind (chk t3 fun a0 => Prim.run .mov [a0]) fun t14 =>
  Option.bind (chk t0 fun a0 => Prim.run .mov [a0]) fun t15 =>
  Option.bind (chk t15 fun a0 => Prim.run (.toInt .u8) [a0]) fun t16 =>
  Option.bind (chk t16 fun a0 => Prim.run (.buildSl (.int .u8 0) 1 [0]) [a0]) fun t17 =>
  Option.bind (chk t14 fun a0 => chk t17 fun a1 => Prim.run (.app 1) [a0, a1]) fun t18 =>
  Option.bind (chk t18 fun a0 => Prim.run .toStr [a0]) fun t19 =>
  Option.bind (chk t19 fun a0 => Prim.run .mov [a0]) fun t2 =>
  K (.ret, [.undef, .undef, t2, .undef, .undef, .undef, .undef, .undef, .undef, .undef, .undef, .undef, .undef, .undef, t14, .undef, .undef, .undef, .undef, .undef]) := by kernel_rfl
theorem f66 (t0 : PV) {rs : List PV} (h : (Option.bind (Prim.run .mov [(.str [])]) fun t2 =>
  Option.bind (Prim.run .mov [(.slice true [])]) fun t3 =>
  denK T A66x1 [t0, .undef, .undef, t3, .undef, .undef, .undef, .undef, .undef, .undef, .undef, .undef, .undef, .undef, .undef, .undef, .undef, .undef, .undef, .undef] (seqK T B66x1 (endK [2]))) = some rs) : Ans T 66 [t0] = some rs := call_of (T := T) c66 (Eq.trans (by kernel_rfl) h)
/-! vmfleet/vmfleetref1.PutUvarint -/
noncomputable def WL67x2 (t0 t3 : PV) (K : RK) : Option (List PV) := loopK T kL67x2 L67x2 [t0, .undef, .undef, t3, .undef, .undef, .undef, .undef, .undef, .undef, .undef, .undef, .undef, .undef, .undef, .undef, .undef, .undef, .undef, .undef, .undef] K
theorem oL67x2 (t0 t3 : PV) (K : RK) {a : List PV} (h : (Option.bind (chk t0 fun a0 => Prim.run .mov [a0]) fun t4 =>
  Option.bind (chk t4 fun a0 => Prim.run (.bin .geq) [a0, (.int .u64 128)]) fun t5 =>
  chk t5 fun c0 => isB c0
 (Option.bind (chk t3 fun a0 => Prim.run .mov [a0]) fun t6 =>
  Option.bind (chk t0 fun a0 => Prim.run .mov [a0]) fun t7 =>
  Option.bind (chk t7 fun a0 => Prim.run (.bin .and) [a0, (.int .u64 127)]) fun t8 =>
  Option.bind (chk t8 fun a0 => Prim.run (.toInt .u8) [a0]) fun t9 =>
  Option.bind (chk t9 fun a0 => Prim.run (.bin .or) [a0, (.int .u8 128)]) fun t10 =>
  Option.bind (chk t10 fun a0 => Prim.run (.buildSl (.int .u8 0) 1 [0]) [a0]) fun t11 =>
  Option.bind (chk t6 fun a0 => chk t11 fun a1 => Prim.run (.app 1) [a0, a1]) fun t12 =>
  Option.bind (chk t12 fun a0 => Prim.run .mov [a0]) fun t3 =>
  Option.bind (chk t0 fun a0 => Prim.run .mov [a0]) fun t13 =>
  Option.bind (chk t13 fun a0 => Prim.run (.bin .shr) [a0, (.int .u64 7)]) fun t14 =>
  Option.bind (chk t14 fun a0 => Prim.run .mov [a0]) fun t0 =>
  WL67x2 t0 t3 K)
 (K (.exit 0, [t0, .undef, .undef, t3, .undef, .undef, .undef, .undef, .undef, .undef, .undef, .undef, .undef, .undef, .undef, .undef, .undef, .undef, .undef, .undef, .undef]))) = some a) : WL67x2 t0 t3 K = some a := loopK_of (Eq.trans (by kernel_rfl) h)
@[simp] theorem aL67x2 (t0 t1 t2 t3 t4 t5 t6 t7 t8 t9 t10 t11 t12 t13 t14 t15 t16 t17 t18 t19 t20 : PV) (K : RK) : againK T kL67x2 L67x2 K (.normal, [t0, t1, t2, t3, t4, t5, t6, t7, t8, t9, t10, t11, t12, t13, t14, t15, t16, t17, t18, t19, t20]) = WL67x2 t0 t3 K := by kernel_rfl
@[simp] theorem lA67x1 (t0 t3 : PV) (K : RK) : denK T A67x1 [t0, .undef, .undef, t3, .undef, .undef, .undef, .undef, .undef, .undef, .undef, .undef, .undef, .undef, .undef, .undef, .undef, .undef, .undef, .undef, .undef] K =
  WL67x2 t0 t3 (blockK 0 K) := by kernel_rfl
@[simp] theorem lB67x1 (t0 t3 : PV) (K : RK) : denK T B67x1 [t0, .undef, .undef, t3, .undef, .undef, .undef, .undef, .undef, .undef, .undef, .undef, .undef, .undef, .undef, .undef, .undef, .undef, .undef, .undef, .undef] K =
  Option.bind (chk t3 fun a0 => Prim.run .mov [a0]) fun t15 =>
  Option.bind (chk t0 fun a0 => Prim.run .mov [a0]) fun t16 =>
  Option.bind (chk t16 fun a0 => Prim.run (.toInt .u8) [a0]) fun t17 =>
  Option.bind (chk t17 fun a0 => Prim.run (.buildSl (.int .u8 0) 1 [0]) [a0]) fun t18 =>
  Option.bind (chk t15 fun a0 => chk t18 fun a1 => Prim.run (.app 1) [a0, a1]) fun t19 =>
  Option.bind (chk t19 fun a0 => Prim.run .toStr [a0]) fun t20 =>
  Option.bind (chk t20 fun a0 => Prim.run .mov [a0]) fun t2 =>
  K (.ret, [.undef, .undef, t2, .undef, .undef, .undef, .undef, .undef, .undef, .undef, .undef, .undef, .undef, .undef, .undef, t15, .undef, .undef, .undef, .undef, .undef]) := by kernel_rfl
theorem f67 (t0 : PV) {rs : List PV} (h : (Option.bind (Prim.run .mov [(.str [])]) fun t2 =>
  Option.bind (Prim.run .mov [(.slice true [])]) fun t3 =>
  denK T A67x1 [t0, .undef, .undef, t3, .undef, .undef, .undef, .undef, .undef, .undef, .undef, .undef, .undef, .undef, .undef, .undef, .undef, .undef, .undef, .undef, .undef] (seqK T B67x1 (endK [2]))) = some rs) : Ans T 67 [t0] = some rs := call_of (T := T) c67 (Eq.trans (by kernel_rfl) h)
/-! vmfleet/eventlog.text -/
theorem f71 (t0 : PV) {rs : List PV} (h : (Option.bind (Prim.run .mov [(.str [])]) fun t2 =>
  Option.bind (chk t0 fun a0 => Prim.run .mov [a0]) fun t3 =>
  Option.bind (chk t3 fun a0 => Prim.run .len [a0]) fun t4 =>
  Option.bind (chk t4 fun a0 => Prim.run (.toInt .u64) [a0]) fun t5 =>
  Option.bind (chk t5 fun a0 => Option.bind (Ans T 66 [a0]) fun rs => retV 1 rs) fun t6 =>
  Option.bind (chk t0 fun a0 => Prim.run .mov [a0]) fun t7 =>
  Option.bind (chk t6 fun a0 => chk t7 fun a1 => Prim.run (.bin .add) [a0, a1]) fun t8 =>
  Option.bind (chk t8 fun a0 => Prim.run .mov [a0]) fun t2 =>
  allDef [t2]) = some rs) : Ans T 71 [t0] = some rs := call_of (T := T) c71 (Eq.trans (by kernel_rfl) h)
/-! vmfleet/eventlog.sum -/
noncomputable def WL72x2 (t3 t4 t10 t11 : PV) (K : RK) : Option (List PV) := loopK T kL72x2 L72x2 [.undef, .undef, .undef, t3, t4, .undef, .undef, .undef, .undef, .undef, t10, t11, .undef, .undef, .undef, .undef, .undef, .undef, .undef, .undef, .undef, .undef, .undef, .undef, .undef, .undef] K
theorem oL72x2 (t3 t4 t10 t11 : PV) (K : RK) {a : List PV} (h : (Option.bind (chk t11 fun a0 => chk t10 fun a1 => Prim.run (.bin .lss) [a0, a1]) fun t12 =>
  chk t12 fun c0 => isB c0
 (Option.bind (chk t11 fun a0 => Prim.run .mov [a0]) fun t13 =>
  Option.bind (chk t13 fun a0 => Prim.run .mov [a0]) fun t5 =>
  Option.bind (chk t4 fun a0 => Prim.run .mov [a0]) fun t14 =>
  Option.bind (chk t5 fun a0 => Prim.run .mov [a0]) fun t15 =>
  Option.bind (chk t3 fun a0 => Prim.run .mov [a0]) fun t16 =>
  Option.bind (chk t5 fun a0 => Prim.run .mov [a0]) fun t17 =>
  Option.bind (chk t17 fun a1 => Prim.run (.bin .mul) [(.int .i64 8), a1]) fun t18 =>
  Option.bind (chk t18 fun a1 => Prim.run (.bin .sub) [(.int .i64 56), a1]) fun t19 =>
  Option.bind (chk t16 fun a0 => chk t19 fun a1 => Prim.run (.bin .shr) [a0, a1]) fun t20 =>
  Option.bind (chk t20 fun a0 => Prim.run (.toInt .u8) [a0]) fun t21 =>
  Option.bind (chk t14 fun a0 => chk t15 fun a1 => Prim.run (.iptr []) [a0, a1]) fun t22 =>
  chk t21 fun a0 => asPath t22 fun q0 => chk t4 fun y0 => Option.bind (setP q0 y0 a0) fun t4 =>
  Option.bind (chk t11 fun a0 => Prim.run (.bin .add) [a0, (.int .i64 1)]) fun t23 =>
  Option.bind (chk t23 fun a0 => Prim.run .mov [a0]) fun t11 =>
  WL72x2 t3 t4 t10 t11 K)
 (K (.exit 0, [.undef, .undef, .undef, .undef, t4, .undef, .undef, .undef, .undef, .undef, .undef, .undef, .undef, .undef, .undef, .undef, .undef, .undef, .undef, .undef, .undef, .undef, .undef, .undef, .undef, .undef]))) = some a) : WL72x2 t3 t4 t10 t11 K = some a := loopK_of (Eq.trans (by kernel_rfl) h)
@[simp] theorem aL72x2 (t0 t1 t2 t3 t4 t5 t6 t7 t8 t9 t10 t11 t12 t13 t14 t15 t16 t17 t18 t19 t20 t21 t22 t23 t24 t25 : PV) (K : RK) : againK T kL72x2 L72x2 K (.normal, [t0, t1, t2, t3, t4, t5, t6, t7, t8, t9, t10, t11, t12, t13, t14, t15, t16, t17, t18, t19, t20, t21, t22, t23, t24, t25]) = WL72x2 t3 t4 t10 t11 K := by kernel_rfl
@[simp] theorem lA72x1 (t3 t4 : PV) (K : RK) : denK T A72x1 [.undef, .undef, .undef, t3, t4, .undef, .undef, .undef, .undef, .undef, .undef, .undef, .undef, .undef, .undef, .undef, .undef, .undef, .undef, .undef, .undef, .undef, .undef, .undef, .undef, .undef] K =
  Option.bind (chk t4 fun a0 => Prim.run .mov [a0]) fun t9 =>
  Option.bind (chk t9 fun a0 => Prim.run .len [a0]) fun t10 =>
  Option.bind (Prim.run .mov [(.int .i64 0)]) fun t11 =>
  WL72x2 t3 t4 t10 t11 (blockK 0 K) := by kernel_rfl
@[simp] theorem lB72x1 (t4 : PV) (K : RK) : denK T B72x1 [.undef, .undef, .undef, .undef, t4, .undef, .undef, .undef, .undef, .undef, .undef, .undef, .undef, .undef, .undef, .undef, .undef, .undef, .undef, .undef, .undef, .undef, .undef, .undef, .undef, .undef] K =
  Option.bind (chk t4 fun a0 => Prim.run .mov [a0]) fun t24 =>
  Option.bind (chk t24 fun a0 => Prim.run .toStr [a0]) fun t25 =>
  Option.bind (chk t25 fun a0 => Prim.run .mov [a0]) fun t2 =>
  K (.ret, [.undef, .undef, t2, .undef, .undef, .undef, .undef, .undef, .undef, .undef, .undef, .undef, .undef, .undef, .undef, .undef, .undef, .undef, .undef, .undef, .undef, .undef, .undef, .undef, .undef, .undef]) := by kernel_rfl
theorem f72 (t0 : PV) {rs : List PV} (h : (Option.bind (Prim.run .mov [(.str [])]) fun t2 =>
  Option.bind (chk t0 fun a0 => Prim.run .mov [a0]) fun t6 =>
  Option.bind (chk t6 fun a1 => Option.bind (Ans T 94 [(.int .u64 14695981039346656037), a1]) fun rs => retV 1 rs) fun t7 =>
  Option.bind (chk t7 fun a0 => Prim.run .mov [a0]) fun t3 =>
  Option.bind (Prim.run (.mkSl (.int .u8 0) 1) [(.int .i64 8), (.int .i64 8)]) fun t8 =>
  Option.bind (chk t8 fun a0 => Prim.run .mov [a0]) fun t4 =>
  denK T A72x1 [.undef, .undef, .undef, t3, t4, .undef, .undef, .undef, .undef, .undef, .undef, .undef, .undef, .undef, .undef, .undef, .undef, .undef, .undef, .undef, .undef, .undef, .undef, .undef, .undef, .undef] (seqK T B72x1 (endK [2]))) = some rs) : Ans T 72 [t0] = some rs := call_of (T := T) c72 (Eq.trans (by kernel_rfl) h)
/-! (*vmfleet/eventlog.reader).number -/
theorem f73 (t0 : PV) {rs : List PV} (h : (Option.bind (Prim.run .mov [(.int .u64 0)]) fun t2 =>
  Option.bind (Prim.run .mov [(.ptr [])]) fun t7 =>
  Option.bind (chk t7 fun a0 => Prim.run .mov [a0]) fun t8 =>
  Option.bind (chk t8 fun a0 => Prim.run (.fptr 0) [a0]) fun t9 =>
  Option.bind (chk t0 fun a0 => chk t9 fun a1 => Prim.run .load [a0, a1]) fun t10 =>
  Option.bind (chk t10 fun a0 => Option.bind (Ans T 63 [a0]) fun rs => retV 3 rs) fun t11 =>
  Option.bind (chk t11 fun a0 => Prim.run .mov [a0]) fun t6 =>
  Option.bind (chk t6 fun a0 => Prim.run (.ext 0) [a0]) fun t12 =>
  Option.bind (chk t6 fun a0 => Prim.run (.ext 1) [a0]) fun t13 =>
  Option.bind (chk t6 fun a0 => Prim.run (.ext 2) [a0]) fun t14 =>
  Option.bind (chk t12 fun a0 => Prim.run .mov [a0]) fun t3 =>
  Option.bind (chk t13 fun a0 => Prim.run .mov [a0]) fun t4 =>
  Option.bind (chk t14 fun a0 => Prim.run .mov [a0]) fun t5 =>
  Option.bind (Prim.run .mov [(.ptr [])]) fun t15 =>
  Option.bind (Prim.run .mov [(.ptr [])]) fun t16 =>
  Option.bind (chk t16 fun a0 => Prim.run .mov [a0]) fun t17 =>
  Option.bind (chk t17 fun a0 => Prim.run (.fptr 1) [a0]) fun t18 =>
  Option.bind (chk t0 fun a0 => chk t18 fun a1 => Prim.run .load [a0, a1]) fun t19 =>
  Option.bind (chk t19 fun a0 => Prim.run .mov [a0]) fun t20 =>
  Option.bind (grd t20 true (chk t5 fun a0 => Prim.run .mov [a0])) fun t21 =>
  Option.bind (chk t20 fun a0 => isB a0 (chk t21 fun a1 => some a1) (some (.bool false))) fun t22 =>
  Option.bind (chk t15 fun a0 => Prim.run .mov [a0]) fun t23 =>
  Option.bind (chk t23 fun a0 => Prim.run (.fptr 1) [a0]) fun t24 =>
  chk t22 fun a0 => asPath t24 fun q0 => chk t0 fun y0 => Option.bind (setP q0 y0 a0) fun t0 =>
  Option.bind (Prim.run .mov [(.ptr [])]) fun t25 =>
  Option.bind (Prim.run .mov [(.ptr [])]) fun t26 =>
  Option.bind (chk t26 fun a0 => Prim.run .mov [a0]) fun t27 =>
  Option.bind (chk t27 fun a0 => Prim.run (.fptr 0) [a0]) fun t28 =>
  Option.bind (chk t0 fun a0 => chk t28 fun a1 => Prim.run .load [a0, a1]) fun t29 =>
  Option.bind (chk t4 fun a0 => Prim.run .mov [a0]) fun t30 =>
  Option.bind (chk t29 fun a0 => chk t30 fun a1 => Prim.run (.sl true false) [a0, a1]) fun t31 =>
  Option.bind (chk t25 fun a0 => Prim.run .mov [a0]) fun t32 =>
  Option.bind (chk t32 fun a0 => Prim.run (.fptr 0) [a0]) fun t33 =>
  chk t31 fun a0 => asPath t33 fun q0 => chk t0 fun y0 => Option.bind (setP q0 y0 a0) fun t0 =>
  Option.bind (chk t3 fun a0 => Prim.run .mov [a0]) fun t34 =>
  Option.bind (chk t34 fun a0 => Prim.run .mov [a0]) fun t2 =>
  allDef [t2, t0]) = some rs) : Ans T 73 [t0] = some rs := call_of (T := T) c73 (Eq.trans (by kernel_rfl) h)
/-! (*vmfleet/eventlog.reader).text -/
theorem f74 (t0 : PV) {rs : List PV} (h : (Option.bind (Prim.run .mov [(.str [])]) fun t2 =>
  Option.bind (Prim.run .mov [(.ptr [])]) fun t5 =>
  asPath t5 fun a0q => chk t0 fun a0r => Option.bind (getP a0q a0r) fun a0 => Option.bind (Ans T 73 [a0]) fun rs1 => consK (rs1.drop 1) fun y0 ys0 => asPath t5 fun q0 => chk t0 fun x0 => Option.bind (setP q0 x0 y0) fun t0 => nilK ys0 (Option.bind (chk (resultOf 1 rs1) fun a0 => Prim.run .mov [a0]) fun t3 =>
  Option.bind (chk t3 fun a0 => Prim.run .mov [a0]) fun t7 =>
  Option.bind (Prim.run .mov [(.ptr [])]) fun t8 =>
  Option.bind (chk t8 fun a0 => Prim.run .mov [a0]) fun t9 =>
  Option.bind (chk t9 fun a0 => Prim.run (.fptr 0) [a0]) fun t10 =>
  Option.bind (chk t0 fun a0 => chk t10 fun a1 => Prim.run .load [a0, a1]) fun t11 =>
  Option.bind (chk t11 fun a0 => Prim.run .len [a0]) fun t12 =>
  Option.bind (chk t12 fun a0 => Prim.run (.toInt .u64) [a0]) fun t13 =>
  Option.bind (chk t7 fun a0 => chk t13 fun a1 => Prim.run (.bin .gtr) [a0, a1]) fun t14 =>
  chk t14 fun c0 => isB c0
 (Option.bind (Prim.run .mov [(.ptr [])]) fun t15 =>
  Option.bind (chk t15 fun a0 => Prim.run .mov [a0]) fun t16 =>
  Option.bind (chk t16 fun a0 => Prim.run (.fptr 1) [a0]) fun t17 =>
  asPath t17 fun q0 => chk t0 fun y0 => Option.bind (setP q0 y0 (.bool false)) fun t0 =>
  Option.bind (Prim.run .mov [(.str [])]) fun t2 =>
  allDef [t2, t0])
 (Option.bind (Prim.run .mov [(.ptr [])]) fun t18 =>
  Option.bind (chk t18 fun a0 => Prim.run .mov [a0]) fun t19 =>
  Option.bind (chk t19 fun a0 => Prim.run (.fptr 0) [a0]) fun t20 =>
  Option.bind (chk t0 fun a0 => chk t20 fun a1 => Prim.run .load [a0, a1]) fun t21 =>
  Option.bind (chk t3 fun a0 => Prim.run .mov [a0]) fun t22 =>
  Option.bind (chk t21 fun a0 => chk t22 fun a1 => Prim.run (.sl false true) [a0, a1]) fun t23 =>
  Option.bind (chk t23 fun a0 => Prim.run .mov [a0]) fun t4 =>
  Option.bind (Prim.run .mov [(.ptr [])]) fun t24 =>
  Option.bind (Prim.run .mov [(.ptr [])]) fun t25 =>
  Option.bind (chk t25 fun a0 => Prim.run .mov [a0]) fun t26 =>
  Option.bind (chk t26 fun a0 => Prim.run (.fptr 0) [a0]) fun t27 =>
  Option.bind (chk t0 fun a0 => chk t27 fun a1 => Prim.run .load [a0, a1]) fun t28 =>
  Option.bind (chk t3 fun a0 => Prim.run .mov [a0]) fun t29 =>
  Option.bind (chk t28 fun a0 => chk t29 fun a1 => Prim.run (.sl true false) [a0, a1]) fun t30 =>
  Option.bind (chk t24 fun a0 => Prim.run .mov [a0]) fun t31 =>
  Option.bind (chk t31 fun a0 => Prim.run (.fptr 0) [a0]) fun t32 =>
  chk t30 fun a0 => asPath t32 fun q0 => chk t0 fun y0 => Option.bind (setP q0 y0 a0) fun t0 =>
  Option.bind (chk t4 fun a0 => Prim.run .mov [a0]) fun t33 =>
  Option.bind (chk t33 fun a0 => Prim.run .mov [a0]) fun t2 =>
  allDef [t2, t0]))) = some rs) : Ans T 74 [t0] = some rs := call_of (T := T) c74 (Eq.trans (by kernel_rfl) h)
/-! vmfleet/vmfleetref19.eight -/
noncomputable def WL75x2 (t0 t3 t4 : PV) (K : RK) : Option (List PV) := loopK T kL75x2 L75x2 [t0, .undef, .undef, t3, t4, .undef, .undef, .undef, .undef, .undef, .undef, .undef, .undef, .undef, .undef, .undef, .undef, .undef, .undef] K
theorem oL75x2 (t0 t3 t4 : PV) (K : RK) {a : List PV} (h : (Option.bind (chk t4 fun a0 => Prim.run .mov [a0]) fun t5 =>
  Option.bind (chk t5 fun a0 => Prim.run (.bin .geq) [a0, (.int .i64 0)]) fun t6 =>
  chk t6 fun c0 => isB c0
 (Option.bind (chk t3 fun a0 => Prim.run .mov [a0]) fun t9 =>
  Option.bind (chk t0 fun a0 => Prim.run .mov [a0]) fun t10 =>
  Option.bind (chk t4 fun a0 => Prim.run .mov [a0]) fun t11 =>
  Option.bind (chk t11 fun a0 => Prim.run (.toInt .u64) [a0]) fun t12 =>
  Option.bind (chk t10 fun a0 => chk t12 fun a1 => Prim.run (.bin .shr) [a0, a1]) fun t13 =>
  Option.bind (chk t13 fun a0 => Prim.run (.toInt .u8) [a0]) fun t14 =>
  Option.bind (chk t14 fun a0 => Prim.run (.buildSl (.int .u8 0) 1 [0]) [a0]) fun t15 =>
  Option.bind (chk t9 fun a0 => chk t15 fun a1 => Prim.run (.app 1) [a0, a1]) fun t16 =>
  Option.bind (chk t16 fun a0 => Prim.run .mov [a0]) fun t3 =>
  Option.bind (chk t4 fun a0 => Prim.run .mov [a0]) fun t7 =>
  Option.bind (chk t7 fun a0 => Prim.run (.bin .sub) [a0, (.int .i64 8)]) fun t8 =>
  Option.bind (chk t8 fun a0 => Prim.run .mov [a0]) fun t4 =>
  WL75x2 t0 t3 t4 K)
 (K (.exit 0, [.undef, .undef, .undef, t3, .undef, .undef, .undef, .undef, .undef, .undef, .undef, .undef, .undef, .undef, .undef, .undef, .undef, .undef, .undef]))) = some a) : WL75x2 t0 t3 t4 K = some a := loopK_of (Eq.trans (by kernel_rfl) h)
@[simp] theorem aL75x2 (t0 t1 t2 t3 t4 t5 t6 t7 t8 t9 t10 t11 t12 t13 t14 t15 t16 t17 t18 : PV) (K : RK) : againK T kL75x2 L75x2 K (.normal, [t0, t1, t2, t3, t4, t5, t6, t7, t8, t9, t10, t11, t12, t13, t14, t15, t16, t17, t18]) = WL75x2 t0 t3 t4 K := by kernel_rfl
@[simp] theorem lA75x1 (t0 t3 : PV) (K : RK) : denK T A75x1 [t0, .undef, .undef, t3, .undef, .undef, .undef, .undef, .undef, .undef, .undef, .undef, .undef, .undef, .undef, .undef, .undef, .undef, .undef] K =
  Option.bind (Prim.run .mov [(.int .i64 56)]) fun t4 =>
  WL75x2 t0 t3 t4 (blockK 0 K) := by kernel_rfl
@[simp] theorem lB75x1 (t3 : PV) (K : RK) : denK T B75x1 [.undef, .undef, .undef, t3, .undef, .undef, .undef, .undef, .undef, .undef, .undef, .undef, .undef, .undef, .undef, .undef, .undef, .undef, .undef] K =
  Option.bind (chk t3 fun a0 => Prim.run .mov [a0]) fun t17 =>
  Option.bind (chk t17 fun a0 => Prim.run .toStr [a0]) fun t18 =>
  Option.bind (chk t18 fun a0 => Prim.run .mov [a0]) fun t2 =>
  K (.ret, [.undef, .undef, t2, .undef, .undef, .undef, .undef, .undef, .undef, .undef, .undef, .undef, .undef, .undef, .undef, .undef, .undef, .undef, .undef]) := by kernel_rfl
theorem f75 (t0 : PV) {rs : List PV} (h : (Option.bind (Prim.run .mov [(.str [])]) fun t2 =>
  Option.bind (Prim.run .mov [(.slice true [])]) fun t3 =>
  denK T A75x1 [t0, .undef, .undef, t3, .undef, .undef, .undef, .undef, .undef, .undef, .undef, .undef, .undef, .undef, .undef, .undef, .undef, .undef, .undef] (seqK T B75x1 (endK [2]))) = some rs) : Ans T 75 [t0] = some rs := call_of (T := T) c75 (Eq.trans (by kernel_rfl) h)
/-! vmfleet/vmfleetref1.Hash -/
noncomputable def WL76x2 (t0 t1 t5 : PV) (K : RK) : Option (List PV) := loopK T kL76x2 L76x2 [t0, t1, .undef, .undef, .undef, t5, .undef, .undef, .undef, .undef, .undef, .undef, .undef, .undef, .undef, .undef, .undef, .undef, .undef, .undef] K
theorem oL76x2 (t0 t1 t5 : PV) (K : RK) {a : List PV} (h : (Option.bind (chk t5 fun a0 => Prim.run .mov [a0]) fun t6 =>
  Option.bind (chk t1 fun a0 => Prim.run .mov [a0]) fun t7 =>
  Option.bind (chk t7 fun a0 => Prim.run .len [a0]) fun t8 =>
  Option.bind (chk t6 fun a0 => chk t8 fun a1 => Prim.run (.bin .lss) [a0, a1]) fun t9 =>
  chk t9 fun c0 => isB c0
 (Option.bind (chk t0 fun a0 => Prim.run .mov [a0]) fun t12 =>
  Option.bind (chk t1 fun a0 => Prim.run .mov [a0]) fun t13 =>
  Option.bind (chk t5 fun a0 => Prim.run .mov [a0]) fun t14 =>
  Option.bind (chk t13 fun a0 => chk t14 fun a1 => Prim.run .index [a0, a1]) fun t15 =>
  Option.bind (chk t15 fun a0 => Prim.run (.toInt .u64) [a0]) fun t16 =>
  Option.bind (chk t12 fun a0 => chk t16 fun a1 => Prim.run (.bin .xor) [a0, a1]) fun t17 =>
  Option.bind (chk t17 fun a0 => Prim.run (.bin .mul) [a0, (.int .u64 1099511628211)]) fun t18 =>
  Option.bind (chk t18 fun a0 => Prim.run .mov [a0]) fun t0 =>
  Option.bind (chk t5 fun a0 => Prim.run .mov [a0]) fun t10 =>
  Option.bind (chk t10 fun a0 => Prim.run (.bin .add) [a0, (.int .i64 1)]) fun t11 =>
  Option.bind (chk t11 fun a0 => Prim.run .mov [a0]) fun t5 =>
  WL76x2 t0 t1 t5 K)
 (K (.exit 0, [t0, .undef, .undef, .undef, .undef, .undef, .undef, .undef, .undef, .undef, .undef, .undef, .undef, .undef, .undef, .undef, .undef, .undef, .undef, .undef]))) = some a) : WL76x2 t0 t1 t5 K = some a := loopK_of (Eq.trans (by kernel_rfl) h)
@[simp] theorem aL76x2 (t0 t1 t2 t3 t4 t5 t6 t7 t8 t9 t10 t11 t12 t13 t14 t15 t16 t17 t18 t19 : PV) (K : RK) : againK T kL76x2 L76x2 K (.normal, [t0, t1, t2, t3, t4, t5, t6, t7, t8, t9, t10, t11, t12, t13, t14, t15, t16, t17, t18, t19]) = WL76x2 t0 t1 t5 K := by kernel_rfl
@[simp] theorem lA76x1 (t0 t1 : PV) (K : RK) : denK T A76x1 [t0, t1, .undef, .undef, .undef, .undef, .undef, .undef, .undef, .undef, .undef, .undef, .undef, .undef, .undef, .undef, .undef, .undef, .undef, .undef] K =
  Option.bind (Prim.run .mov [(.int .i64 0)]) fun t5 =>
  WL76x2 t0 t1 t5 (blockK 0 K) := by kernel_rfl
@[simp] theorem lB76x1 (t0 : PV) (K : RK) : denK T B76x1 [t0, .undef, .undef, .undef, .undef, .undef, .undef, .undef, .undef, .undef, .undef, .undef, .undef, .undef, .undef, .undef, .undef, .undef, .undef, .undef] K =
  Option.bind (chk t0 fun a0 => Prim.run .mov [a0]) fun t19 =>
  Option.bind (chk t19 fun a0 => Prim.run .mov [a0]) fun t4 =>
  K (.ret, [.undef, .undef, .undef, .undef, t4, .undef, .undef, .undef, .undef, .undef, .undef, .undef, .undef, .undef, .undef, .undef, .undef, .undef, .undef, .undef]) := by kernel_rfl
theorem f76 (t0 t1 : PV) {rs : List PV} (h : (Option.bind (Prim.run .mov [(.int .u64 0)]) fun t4 =>
  denK T A76x1 [t0, t1, .undef, .undef, .undef, .undef, .undef, .undef, .undef, .undef, .undef, .undef, .undef, .undef, .undef, .undef, .undef, .undef, .undef, .undef] (seqK T B76x1 (endK [4]))) = some rs) : Ans T 76 [t0, t1] = some rs := call_of (T := T) c76 (Eq.trans (by kernel_rfl) h)
/-! (*vmfleet/vmfleetref19.reader).number -/
theorem f77 (t0 : PV) {rs : List PV} (h : (Option.bind (Prim.run .mov [(.int .u64 0)]) fun t2 =>
  Option.bind (Prim.run .mov [(.ptr [])]) fun t7 =>
  Option.bind (chk t7 fun a0 => Prim.run .mov [a0]) fun t8 =>
  Option.bind (chk t8 fun a0 => Prim.run (.fptr 0) [a0]) fun t9 =>
  Option.bind (chk t0 fun a0 => chk t9 fun a1 => Prim.run .load [a0, a1]) fun t10 =>
  Option.bind (chk t10 fun a0 => Option.bind (Ans T 90 [a0]) fun rs => retV 3 rs) fun t11 =>
  Option.bind (chk t11 fun a0 => Prim.run .mov [a0]) fun t6 =>
  Option.bind (chk t6 fun a0 => Prim.run (.ext 0) [a0]) fun t12 =>
  Option.bind (chk t6 fun a0 => Prim.run (.ext 1) [a0]) fun t13 =>
  Option.bind (chk t6 fun a0 => Prim.run (.ext 2) [a0]) fun t14 =>
  Option.bind (chk t12 fun a0 => Prim.run .mov [a0]) fun t3 =>
  Option.bind (chk t13 fun a0 => Prim.run .mov [a0]) fun t4 =>
  Option.bind (chk t14 fun a0 => Prim.run .mov [a0]) fun t5 =>
  Option.bind (Prim.run .mov [(.ptr [])]) fun t15 =>
  Option.bind (chk t15 fun a0 => Prim.run .mov [a0]) fun t16 =>
  Option.bind (chk t16 fun a0 => Prim.run (.fptr 1) [a0]) fun t17 =>
  Option.bind (chk t0 fun a0 => chk t17 fun a1 => Prim.run .load [a0, a1]) fun t18 =>
  Option.bind (chk t18 fun a0 => Prim.run .mov [a0]) fun t19 =>
  Option.bind (grd t19 false (chk t5 fun a0 => Prim.run .mov [a0])) fun t20 =>
  Option.bind (grd t19 false (chk t20 fun a0 => Prim.run (.un .not) [a0])) fun t21 =>
  Option.bind (chk t19 fun a0 => isB a0 (some (.bool true)) (chk t21 fun a1 => some a1)) fun t22 =>
  chk t22 fun c0 => isB c0
 (Option.bind (Prim.run .mov [(.ptr [])]) fun t23 =>
  Option.bind (chk t23 fun a0 => Prim.run .mov [a0]) fun t24 =>
  Option.bind (chk t24 fun a0 => Prim.run (.fptr 1) [a0]) fun t25 =>
  asPath t25 fun q0 => chk t0 fun y0 => Option.bind (setP q0 y0 (.bool true)) fun t0 =>
  Option.bind (Prim.run .mov [(.int .u64 0)]) fun t2 =>
  allDef [t2, t0])
 (Option.bind (Prim.run .mov [(.ptr [])]) fun t26 =>
  Option.bind (Prim.run .mov [(.ptr [])]) fun t27 =>
  Option.bind (chk t27 fun a0 => Prim.run .mov [a0]) fun t28 =>
  Option.bind (chk t28 fun a0 => Prim.run (.fptr 0) [a0]) fun t29 =>
  Option.bind (chk t0 fun a0 => chk t29 fun a1 => Prim.run .load [a0, a1]) fun t30 =>
  Option.bind (chk t4 fun a0 => Prim.run .mov [a0]) fun t31 =>
  Option.bind (chk t30 fun a0 => chk t31 fun a1 => Prim.run (.sl true false) [a0, a1]) fun t32 =>
  Option.bind (chk t26 fun a0 => Prim.run .mov [a0]) fun t33 =>
  Option.bind (chk t33 fun a0 => Prim.run (.fptr 0) [a0]) fun t34 =>
  chk t32 fun a0 => asPath t34 fun q0 => chk t0 fun y0 => Option.bind (setP q0 y0 a0) fun t0 =>
  Option.bind (chk t3 fun a0 => Prim.run .mov [a0]) fun t35 =>
  Option.bind (chk t35 fun a0 => Prim.run .mov [a0]) fun t2 =>
  allDef [t2, t0])) = some rs) : Ans T 77 [t0] = some rs := call_of (T := T) c77 (Eq.trans (by kernel_rfl) h)
/-! (*vmfleet/vmfleetref19.reader).bytes -/
theorem f78 (t0 t1 : PV) {rs : List PV} (h : (Option.bind (Prim.run .mov [(.str [])]) fun t4 =>
  Option.bind (Prim.run .mov [(.ptr [])]) fun t6 =>
  Option.bind (chk t6 fun a0 => Prim.run .mov [a0]) fun t7 =>
  Option.bind (chk t7 fun a0 => Prim.run (.fptr 1) [a0]) fun t8 =>
  Option.bind (chk t0 fun a0 => chk t8 fun a1 => Prim.run .load [a0, a1]) fun t9 =>
  Option.bind (chk t9 fun a0 => Prim.run .mov [a0]) fun t10 =>
  Option.bind (grd t10 false (chk t1 fun a0 => Prim.run .mov [a0])) fun t11 =>
  Option.bind (grd t10 false (Prim.run .mov [(.ptr [])])) fun t12 =>
  Option.bind (grd t10 false (chk t12 fun a0 => Prim.run .mov [a0])) fun t13 =>
  Option.bind (grd t10 false (chk t13 fun a0 => Prim.run (.fptr 0) [a0])) fun t14 =>
  Option.bind (grd t10 false (chk t0 fun a0 => chk t14 fun a1 => Prim.run .load [a0, a1])) fun t15 =>
  Option.bind (grd t10 false (chk t15 fun a0 => Prim.run .len [a0])) fun t16 =>
  Option.bind (grd t10 false (chk t16 fun a0 => Prim.run (.toInt .u64) [a0])) fun t17 =>
  Option.bind (grd t10 false (chk t11 fun a0 => chk t17 fun a1 => Prim.run (.bin .gtr) [a0, a1])) fun t18 =>
  Option.bind (chk t10 fun a0 => isB a0 (some (.bool true)) (chk t18 fun a1 => some a1)) fun t19 =>
  chk t19 fun c0 => isB c0
 (Option.bind (Prim.run .mov [(.ptr [])]) fun t20 =>
  Option.bind (chk t20 fun a0 => Prim.run .mov [a0]) fun t21 =>
  Option.bind (chk t21 fun a0 => Prim.run (.fptr 1) [a0]) fun t22 =>
  asPath t22 fun q0 => chk t0 fun y0 => Option.bind (setP q0 y0 (.bool true)) fun t0 =>
  Option.bind (Prim.run .mov [(.str [])]) fun t4 =>
  allDef [t4, t0])
 (Option.bind (Prim.run .mov [(.ptr [])]) fun t23 =>
  Option.bind (chk t23 fun a0 => Prim.run .mov [a0]) fun t24 =>
  Option.bind (chk t24 fun a0 => Prim.run (.fptr 0) [a0]) fun t25 =>
  Option.bind (chk t0 fun a0 => chk t25 fun a1 => Prim.run .load [a0, a1]) fun t26 =>
  Option.bind (chk t1 fun a0 => Prim.run .mov [a0]) fun t27 =>
  Option.bind (chk t26 fun a0 => chk t27 fun a1 => Prim.run (.sl false true) [a0, a1]) fun t28 =>
  Option.bind (chk t28 fun a0 => Prim.run .mov [a0]) fun t5 =>
  Option.bind (Prim.run .mov [(.ptr [])]) fun t29 =>
  Option.bind (Prim.run .mov [(.ptr [])]) fun t30 =>
  Option.bind (chk t30 fun a0 => Prim.run .mov [a0]) fun t31 =>
  Option.bind (chk t31 fun a0 => Prim.run (.fptr 0) [a0]) fun t32 =>
  Option.bind (chk t0 fun a0 => chk t32 fun a1 => Prim.run .load [a0, a1]) fun t33 =>
  Option.bind (chk t1 fun a0 => Prim.run .mov [a0]) fun t34 =>
  Option.bind (chk t33 fun a0 => chk t34 fun a1 => Prim.run (.sl true false) [a0, a1]) fun t35 =>
  Option.bind (chk t29 fun a0 => Prim.run .mov [a0]) fun t36 =>
  Option.bind (chk t36 fun a0 => Prim.run (.fptr 0) [a0]) fun t37 =>
  chk t35 fun a0 => asPath t37 fun q0 => chk t0 fun y0 => Option.bind (setP q0 y0 a0) fun t0 =>
  Option.bind (chk t5 fun a0 => Prim.run .mov [a0]) fun t38 =>
  Option.bind (chk t38 fun a0 => Prim.run .mov [a0]) fun t4 =>
  allDef [t4, t0])) = some rs) : Ans T 78 [t0, t1] = some rs := call_of (T := T) c78 (Eq.trans (by kernel_rfl) h)
/-! vmfleet/vmfleetref1.Uvarint -/
noncomputable def WL90x2 (t0 t5 t6 : PV) (K : RK) : Option (List PV) := loopK T kL90x2 L90x2 [t0, .undef, .undef, .undef, .undef, t5, t6, .undef, .undef, .undef, .undef, .undef, .undef, .undef, .undef, .undef, .undef, .undef, .undef, .undef, .undef, .undef, .undef, .undef, .undef, .undef, .undef, .undef, .undef, .undef, .undef, .undef, .undef, .undef, .undef, .undef, .undef, .undef, .undef, .undef, .undef, .undef, .undef, .undef, .undef, .undef, .undef] K
theorem oL90x2 (t0 t5 t6 : PV) (K : RK) {a : List PV} (h : (Option.bind (chk t6 fun a0 => Prim.run .mov [a0]) fun t8 =>
  Option.bind (chk t0 fun a0 => Prim.run .mov [a0]) fun t9 =>
  Option.bind (chk t9 fun a0 => Prim.run .len [a0]) fun t10 =>
  Option.bind (chk t8 fun a0 => chk t10 fun a1 => Prim.run (.bin .lss) [a0, a1]) fun t11 =>
  Option.bind (chk t11 fun a0 => Prim.run .mov [a0]) fun t12 =>
  Option.bind (grd t12 true (chk t6 fun a0 => Prim.run .mov [a0])) fun t13 =>
  Option.bind (grd t12 true (chk t13 fun a0 => Prim.run (.bin .lss) [a0, (.int .i64 10)])) fun t14 =>
  Option.bind (chk t12 fun a0 => isB a0 (chk t14 fun a1 => some a1) (some (.bool false))) fun t15 =>
  chk t15 fun c0 => isB c0
 (Option.bind (chk t0 fun a0 => Prim.run .mov [a0]) fun t18 =>
  Option.bind (chk t6 fun a0 => Prim.run .mov [a0]) fun t19 =>
  Option.bind (chk t18 fun a0 => chk t19 fun a1 => Prim.run .index [a0, a1]) fun t20 =>
  Option.bind (chk t20 fun a0 => Prim.run (.toInt .u64) [a0]) fun t21 =>
  Option.bind (chk t21 fun a0 => Prim.run .mov [a0]) fun t7 =>
  Option.bind (chk t6 fun a0 => Prim.run .mov [a0]) fun t22 =>
  Option.bind (chk t22 fun a0 => Prim.run (.bin .eql) [a0, (.int .i64 9)]) fun t23 =>
  Option.bind (chk t23 fun a0 => Prim.run .mov [a0]) fun t24 =>
  Option.bind (grd t24 true (chk t7 fun a0 => Prim.run .mov [a0])) fun t25 =>
  Option.bind (grd t24 true (chk t25 fun a0 => Prim.run (.bin .gtr) [a0, (.int .u64 1)])) fun t26 =>
  Option.bind (chk t24 fun a0 => isB a0 (chk t26 fun a1 => some a1) (some (.bool false))) fun t27 =>
  chk t27 fun c0 => isB c0
 (Option.bind (Prim.run .mov [(.int .u64 0)]) fun t2 =>
  Option.bind (Prim.run .mov [(.int .i64 0)]) fun t3 =>
  Option.bind (Prim.run .mov [(.bool false)]) fun t4 =>
  K (.ret, [.undef, .undef, t2, t3, t4, .undef, .undef, .undef, .undef, .undef, .undef, .undef, .undef, .undef, .undef, .undef, .undef, .undef, .undef, .undef, .undef, .undef, .undef, .undef, .undef, .undef, .undef, .undef, .undef, .undef, .undef, .undef, .undef, .undef, .undef, .undef, .undef, .undef, .undef, .undef, .undef, .undef, .undef, .undef, .undef, .undef, .undef]))
 (Option.bind (chk t5 fun a0 => Prim.run .mov [a0]) fun t28 =>
  Option.bind (chk t7 fun a0 => Prim.run .mov [a0]) fun t29 =>
  Option.bind (chk t29 fun a0 => Prim.run (.bin .and) [a0, (.int .u64 127)]) fun t30 =>
  Option.bind (chk t6 fun a0 => Prim.run .mov [a0]) fun t31 =>
  Option.bind (chk t31 fun a1 => Prim.run (.bin .mul) [(.int .i64 7), a1]) fun t32 =>
  Option.bind (chk t32 fun a0 => Prim.run (.toInt .u64) [a0]) fun t33 =>
  Option.bind (chk t30 fun a0 => chk t33 fun a1 => Prim.run (.bin .shl) [a0, a1]) fun t34 =>
  Option.bind (chk t28 fun a0 => chk t34 fun a1 => Prim.run (.bin .or) [a0, a1]) fun t35 =>
  Option.bind (chk t35 fun a0 => Prim.run .mov [a0]) fun t5 =>
  Option.bind (chk t7 fun a0 => Prim.run .mov [a0]) fun t36 =>
  Option.bind (chk t36 fun a0 => Prim.run (.bin .lss) [a0, (.int .u64 128)]) fun t37 =>
  chk t37 fun c0 => isB c0
 (Option.bind (chk t6 fun a0 => Prim.run .mov [a0]) fun t38 =>
  Option.bind (chk t38 fun a0 => Prim.run (.bin .gtr) [a0, (.int .i64 0)]) fun t39 =>
  Option.bind (chk t39 fun a0 => Prim.run .mov [a0]) fun t40 =>
  Option.bind (grd t40 true (chk t7 fun a0 => Prim.run .mov [a0])) fun t41 =>
  Option.bind (grd t40 true (chk t41 fun a0 => Prim.run (.bin .eql) [a0, (.int .u64 0)])) fun t42 =>
  Option.bind (chk t40 fun a0 => isB a0 (chk t42 fun a1 => some a1) (some (.bool false))) fun t43 =>
  chk t43 fun c0 => isB c0
 (Option.bind (Prim.run .mov [(.int .u64 0)]) fun t2 =>
  Option.bind (Prim.run .mov [(.int .i64 0)]) fun t3 =>
  Option.bind (Prim.run .mov [(.bool false)]) fun t4 =>
  K (.ret, [.undef, .undef, t2, t3, t4, .undef, .undef, .undef, .undef, .undef, .undef, .undef, .undef, .undef, .undef, .undef, .undef, .undef, .undef, .undef, .undef, .undef, .undef, .undef, .undef, .undef, .undef, .undef, .undef, .undef, .undef, .undef, .undef, .undef, .undef, .undef, .undef, .undef, .undef, .undef, .undef, .undef, .undef, .undef, .undef, .undef, .undef]))
 (Option.bind (chk t5 fun a0 => Prim.run .mov [a0]) fun t44 =>
  Option.bind (chk t6 fun a0 => Prim.run .mov [a0]) fun t45 =>
  Option.bind (chk t45 fun a0 => Prim.run (.bin .add) [a0, (.int .i64 1)]) fun t46 =>
  Option.bind (chk t44 fun a0 => Prim.run .mov [a0]) fun t2 =>
  Option.bind (chk t46 fun a0 => Prim.run .mov [a0]) fun t3 =>
  Option.bind (Prim.run .mov [(.bool true)]) fun t4 =>
  K (.ret, [.undef, .undef, t2, t3, t4, .undef, .undef, .undef, .undef, .undef, .undef, .undef, .undef, .undef, .undef, .undef, .undef, .undef, .undef, .undef, .undef, .undef, .undef, .undef, .undef, .undef, .undef, .undef, .undef, .undef, .undef, .undef, .undef, .undef, .undef, .undef, .undef, .undef, .undef, .undef, .undef, .undef, .undef, .undef, .undef, .undef, .undef])))
 (Option.bind (chk t6 fun a0 => Prim.run .mov [a0]) fun t16 =>
  Option.bind (chk t16 fun a0 => Prim.run (.bin .add) [a0, (.int .i64 1)]) fun t17 =>
  Option.bind (chk t17 fun a0 => Prim.run .mov [a0]) fun t6 =>
  WL90x2 t0 t5 t6 K)))
 (K (.exit 0, [.undef, .undef, .undef, .undef, .undef, .undef, .undef, .undef, .undef, .undef, .undef, .undef, .undef, .undef, .undef, .undef, .undef, .undef, .undef, .undef, .undef, .undef, .undef, .undef, .undef, .undef, .undef, .undef, .undef, .undef, .undef, .undef, .undef, .undef, .undef, .undef, .undef, .undef, .undef, .undef, .undef, .undef, .undef, .undef, .undef, .undef, .undef]))) = some a) : WL90x2 t0 t5 t6 K = some a := loopK_of (Eq.trans (by kernel_rfl) h)
@[simp] theorem aL90x2 (t0 t1 t2 t3 t4 t5 t6 t7 t8 t9 t10 t11 t12 t13 t14 t15 t16 t17 t18 t19 t20 t21 t22 t23 t24 t25 t26 t27 t28 t29 t30 t31 t32 t33 t34 t35 t36 t37 t38 t39 t40 t41 t42 t43 t44 t45 t46 : PV) (K : RK) : againK T kL90x2 L90x2 K (.normal, [t0, t1, t2, t3, t4, t5, t6, t7, t8, t9, t10, t11, t12, t13, t14, t15, t16, t17, t18, t19, t20, t21, t22, t23, t24, t25, t26, t27, t28, t29, t30, t31, t32, t33, t34, t35, t36, t37, t38, t39, t40, t41, t42, t43, t44, t45, t46]) = WL90x2 t0 t5 t6 K := by kernel_rfl
@[simp] theorem lA90x1 (t0 t5 : PV) (K : RK) : denK T A90x1 [t0, .undef, .undef, .undef, .undef, t5, .undef, .undef, .undef, .undef, .undef, .undef, .undef, .undef, .undef, .undef, .undef, .undef, .undef, .undef, .undef, .undef, .undef, .undef, .undef, .undef, .undef, .undef, .undef, .undef, .undef, .undef, .undef, .undef, .undef, .undef, .undef, .undef, .undef, .undef, .undef, .undef, .undef, .undef, .undef, .undef, .undef] K =
  Option.bind (Prim.run .mov [(.int .i64 0)]) fun t6 =>
  WL90x2 t0 t5 t6 (blockK 0 K) := by kernel_rfl
@[simp] theorem lB90x1 (K : RK) : denK T B90x1 [.undef, .undef, .undef, .undef, .undef, .undef, .undef, .undef, .undef, .undef, .undef, .undef, .undef, .undef, .undef, .undef, .undef, .undef, .undef, .undef, .undef, .undef, .undef, .undef, .undef, .undef, .undef, .undef, .undef, .undef, .undef, .undef, .undef, .undef, .undef, .undef, .undef, .undef, .undef, .undef, .undef, .undef, .undef, .undef, .undef, .undef, .undef] K =
  Option.bind (Prim.run .mov [(.int .u64 0)]) fun t2 =>
  Option.bind (Prim.run .mov [(.int .i64 0)]) fun t3 =>
  Option.bind (Prim.run .mov [(.bool false)]) fun t4 =>
  K (.ret, [.undef, .undef, t2, t3, t4, .undef, .undef, .undef, .undef, .undef, .undef, .undef, .undef, .undef, .undef, .undef, .undef, .undef, .undef, .undef, .undef, .undef, .undef, .undef, .undef, .undef, .undef, .undef, .undef, .undef, .undef, .undef, .undef, .undef, .undef, .undef, .undef, .undef, .undef, .undef, .undef, .undef, .undef, .undef, .undef, .undef, .undef]) := by kernel_rfl
theorem f90 (t0 : PV) {rs : List PV} (h : (Option.bind (Prim.run .mov [(.int .u64 0)]) fun t2 =>
  Option.bind (Prim.run .mov [(.int .i64 0)]) fun t3 =>
  Option.bind (Prim.run .mov [(.bool false)]) fun t4 =>
  Option.bind (Prim.run .mov [(.int .u64 0)]) fun t5 =>
  denK T A90x1 [t0, .undef, .undef, .undef, .undef, t5, .undef, .undef, .undef, .undef, .undef, .undef, .undef, .undef, .undef, .undef, .undef, .undef, .undef, .undef, .undef, .undef, .undef, .undef, .undef, .undef, .undef, .undef, .undef, .undef, .undef, .undef, .undef, .undef, .undef, .undef, .undef, .undef, .undef, .undef, .undef, .undef, .undef, .undef, .undef, .undef, .undef] (seqK T B90x1 (endK [2, 3, 4]))) = some rs) : Ans T 90 [t0] = some rs := call_of (T := T) c90 (Eq.trans (by kernel_rfl) h)
/-! vmfleet/bits.Hash -/
noncomputable def WL94x2 (t0 t1 t7 t8 : PV) (K : RK) : Option (List PV) := loopK T kL94x2 L94x2 [t0, t1, .undef, .undef, .undef, .undef, .undef, t7, t8, .undef, .undef, .undef, .undef, .undef, .undef, .undef, .undef, .undef, .undef, .undef] K
theorem oL94x2 (t0 t1 t7 t8 : PV) (K : RK) {a : List PV} (h : (Option.bind (chk t8 fun a0 => chk t7 fun a1 => Prim.run (.bin .lss) [a0, a1]) fun t9 =>
  chk t9 fun c0 => isB c0
 (Option.bind (chk t8 fun a0 => Prim.run .mov [a0]) fun t10 =>
  Option.bind (chk t10 fun a0 => Prim.run .mov [a0]) fun t5 =>
  Option.bind (chk t0 fun a0 => Prim.run .mov [a0]) fun t11 =>
  Option.bind (chk t1 fun a0 => Prim.run .mov [a0]) fun t12 =>
  Option.bind (chk t5 fun a0 => Prim.run .mov [a0]) fun t13 =>
  Option.bind (chk t12 fun a0 => chk t13 fun a1 => Prim.run .index [a0, a1]) fun t14 =>
  Option.bind (chk t14 fun a0 => Prim.run (.toInt .u64) [a0]) fun t15 =>
  Option.bind (chk t11 fun a0 => chk t15 fun a1 => Prim.run (.bin .xor) [a0, a1]) fun t16 =>
  Option.bind (chk t16 fun a0 => Prim.run (.bin .mul) [a0, (.int .u64 1099511628211)]) fun t17 =>
  Option.bind (chk t17 fun a0 => Prim.run .mov [a0]) fun t0 =>
  Option.bind (chk t8 fun a0 => Prim.run (.bin .add) [a0, (.int .i64 1)]) fun t18 =>
  Option.bind (chk t18 fun a0 => Prim.run .mov [a0]) fun t8 =>
  WL94x2 t0 t1 t7 t8 K)
 (K (.exit 0, [t0, .undef, .undef, .undef, .undef, .undef, .undef, .undef, .undef, .undef, .undef, .undef, .undef, .undef, .undef, .undef, .undef, .undef, .undef, .undef]))) = some a) : WL94x2 t0 t1 t7 t8 K = some a := loopK_of (Eq.trans (by kernel_rfl) h)
@[simp] theorem aL94x2 (t0 t1 t2 t3 t4 t5 t6 t7 t8 t9 t10 t11 t12 t13 t14 t15 t16 t17 t18 t19 : PV) (K : RK) : againK T kL94x2 L94x2 K (.normal, [t0, t1, t2, t3, t4, t5, t6, t7, t8, t9, t10, t11, t12, t13, t14, t15, t16, t17, t18, t19]) = WL94x2 t0 t1 t7 t8 K := by kernel_rfl
@[simp] theorem lA94x1 (t0 t1 : PV) (K : RK) : denK T A94x1 [t0, t1, .undef, .undef, .undef, .undef, .undef, .undef, .undef, .undef, .undef, .undef, .undef, .undef, .undef, .undef, .undef, .undef, .undef, .undef] K =
  Option.bind (chk t1 fun a0 => Prim.run .mov [a0]) fun t6 =>
  Option.bind (chk t6 fun a0 => Prim.run .len [a0]) fun t7 =>
  Option.bind (Prim.run .mov [(.int .i64 0)]) fun t8 =>
  WL94x2 t0 t1 t7 t8 (blockK 0 K) := by kernel_rfl
@[simp] theorem lB94x1 (t0 : PV) (K : RK) : denK T B94x1 [t0, .undef, .undef, .undef, .undef, .undef, .undef, .undef, .undef, .undef, .undef, .undef, .undef, .undef, .undef, .undef, .undef, .undef, .undef, .undef] K =
  Option.bind (chk t0 fun a0 => Prim.run .mov [a0]) fun t19 =>
  Option.bind (chk t19 fun a0 => Prim.run .mov [a0]) fun t4 =>
  K (.ret, [.undef, .undef, .undef, .undef, t4, .undef, .undef, .undef, .undef, .undef, .undef, .undef, .undef, .undef, .undef, .undef, .undef, .undef, .undef, .undef]) := by kernel_rfl
theorem f94 (t0 t1 : PV) {rs : List PV} (h : (Option.bind (Prim.run .mov [(.int .u64 0)]) fun t4 =>
  denK T A94x1 [t0, t1, .undef, .undef, .undef, .undef, .undef, .undef, .undef, .undef, .undef, .undef, .undef, .undef, .undef, .undef, .undef, .undef, .undef, .undef] (seqK T B94x1 (endK [4]))) = some rs) : Ans T 94 [t0, t1] = some rs := call_of (T := T) c94 (Eq.trans (by kernel_rfl) h)

end Go.Proofs.Ytaldhebldjphbaa

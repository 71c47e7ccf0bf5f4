/-
  The law LinkCarries: what its functions compute, and that it answers true.
  Conditions: none.
-/
import Derived.Test.YtaldhebldjphbaaRows
import Derived.Test.YtaldhebldjphbaaVmF
namespace Go.Proofs.Ytaldhebldjphbaa
open Go.Vm
set_option maxRecDepth 100000
set_option linter.unusedVariables false
def sg : Sigs := fun f => match f with
  | 5 => some ⟨[(.val (.sl .sh .sc))], [.sc], true⟩
  | 17 => some ⟨[], [.sc], false⟩
  | 18 => some ⟨[(.val (.agg [(.sl .sh .sc), .sc])), (.val .sc)], [(.agg [(.sl .own .sc), .sc])], false⟩
  | 19 => some ⟨[(.val (.agg [(.sl .sh .sc), .sc])), (.val .sc)], [(.agg [(.sl .own .sc), .sc]), .sc], false⟩
  | 20 => some ⟨[(.val (.agg [(.sl .sh .sc), .sc])), (.val .sc)], [(.agg [(.sl .sh .sc), .sc]), .sc, .sc], false⟩
  | 21 => some ⟨[(.val .sc), (.val .sc)], [.sc], false⟩
  | 24 => some ⟨[(.val .sc)], [.sc], false⟩
  | 25 => some ⟨[(.val .sc), (.val .sc)], [.sc], false⟩
  | 26 => some ⟨[(.val (.agg [(.sl .sh .sc), .sc])), (.val .sc)], [(.agg [(.sl .sh .sc), .sc]), .sc], false⟩
  | 27 => some ⟨[(.val (.agg [(.sl .sh .sc), .sc])), (.val .sc)], [(.agg [(.sl .own .sc), .sc]), .sc], false⟩
  | 59 => some ⟨[(.val (.agg [(.sl .sh .sc), .sc]))], [(.agg [(.sl .own .sc), .sc])], false⟩
  | 60 => some ⟨[(.val (.agg [(.sl .sh .sc), .sc]))], [.sc], false⟩
  | 61 => some ⟨[(.val (.agg [(.sl .sh .sc), .sc])), (.val .sc)], [.sc], false⟩
  | 62 => some ⟨[(.val (.agg [(.sl .sh .sc), .sc])), (.val .sc)], [(.agg [(.sl .sh .sc), .sc])], false⟩
  | _ => none
def B5x4 : VCode := (.cond (.tmp 44)
  (.seq (.region [⟨(some 48), none, (.prim .load [(.tmp 3), (.const (.ptr []))])⟩,
    ⟨(some 49), none, (.prim .mov [(.tmp 4)])⟩,
    ⟨(some 50), none, (.call 24 1 [(.tmp 49)] [])⟩,
    ⟨(some 51), none, (.call 19 2 [(.tmp 48), (.tmp 50)] [])⟩,
    ⟨(some 47), none, (.prim .mov [(.tmp 51)])⟩,
    ⟨(some 52), none, (.prim (.ext 0) [(.tmp 47)])⟩,
    ⟨(some 53), none, (.prim (.ext 1) [(.tmp 47)])⟩,
    ⟨(some 9), none, (.prim .mov [(.const (.agg [(.slice true []), (.bool false)]))])⟩,
    ⟨none, none, (.store 9 none (.tmp 52))⟩,
    ⟨(some 10), none, (.prim .mov [(.tmp 53)])⟩] [8, 43, 44, 47, 48, 49, 50, 51, 52, 53])
  (.seq (.region [⟨(some 54), none, (.prim .load [(.tmp 9), (.const (.ptr []))])⟩,
    ⟨none, none, (.store 3 none (.tmp 54))⟩] [9, 54])
  (.seq (.region [⟨(some 55), none, (.prim .mov [(.tmp 10)])⟩] [10])
  (.cond (.tmp 55)
  (.region [⟨(some 56), none, (.prim .mov [(.tmp 4)])⟩,
    ⟨(some 57), none, (.prim (.bin .add) [(.tmp 56), (.const (.int .i64 1))])⟩,
    ⟨(some 4), none, (.prim .mov [(.tmp 57)])⟩] [55, 56, 57])
  .skip))))
  (.seq (.region [⟨(some 59), none, (.prim (.bin .eql) [(.tmp 43), (.const (.int .i64 2))])⟩,
    ⟨(some 58), none, (.prim .mov [(.tmp 59)])⟩] [44, 59])
  (.cond (.tmp 58)
  (.seq (.region [⟨(some 61), none, (.prim .load [(.tmp 3), (.const (.ptr []))])⟩,
    ⟨(some 62), none, (.prim .mov [(.tmp 8)])⟩,
    ⟨(some 63), none, (.call 20 3 [(.tmp 61), (.tmp 62)] [])⟩,
    ⟨(some 60), none, (.prim .mov [(.tmp 63)])⟩,
    ⟨(some 64), none, (.prim (.ext 0) [(.tmp 60)])⟩,
    ⟨(some 65), none, (.prim (.ext 1) [(.tmp 60)])⟩,
    ⟨(some 66), none, (.prim (.ext 2) [(.tmp 60)])⟩,
    ⟨(some 11), none, (.prim .mov [(.const (.agg [(.slice true []), (.bool false)]))])⟩,
    ⟨none, none, (.store 11 none (.tmp 64))⟩,
    ⟨(some 12), none, (.prim .mov [(.tmp 65)])⟩,
    ⟨(some 13), none, (.prim .mov [(.tmp 66)])⟩] [8, 43, 58, 60, 61, 62, 63, 64, 65, 66])
  (.seq (.seq (.region [⟨(some 67), none, (.prim .mov [(.tmp 13)])⟩,
    ⟨(some 68), none, (.prim .mov [(.tmp 67)])⟩,
    ⟨(some 69), (some (68, true)), (.prim .mov [(.tmp 12)])⟩,
    ⟨(some 70), (some (68, true)), (.prim .mov [(.tmp 4)])⟩,
    ⟨(some 71), (some (68, true)), (.call 25 1 [(.tmp 69), (.tmp 70)] [])⟩,
    ⟨(some 72), (some (68, true)), (.prim (.un .not) [(.tmp 71)])⟩,
    ⟨(some 73), none, (.pick (.tmp 68) (.tmp 72) (.const (.bool false)))⟩] [12, 67, 68])
  (.cond (.tmp 73)
  (.seq (.region [⟨(some 2), none, (.prim .mov [(.const (.bool false))])⟩] [0, 3, 4, 5, 6, 7, 11, 13, 69, 70, 71, 72, 73])
  .ret)
  .skip))
  (.seq (.region [⟨(some 74), none, (.prim .load [(.tmp 11), (.const (.ptr []))])⟩,
    ⟨none, none, (.store 3 none (.tmp 74))⟩] [11, 73, 74])
  (.seq (.region [⟨(some 75), none, (.prim .mov [(.tmp 13)])⟩] [13])
  (.cond (.tmp 75)
  (.region [⟨(some 76), none, (.prim .mov [(.tmp 5)])⟩,
    ⟨(some 77), none, (.prim (.bin .add) [(.tmp 76), (.const (.int .i64 1))])⟩,
    ⟨(some 5), none, (.prim .mov [(.tmp 77)])⟩] [75, 76, 77])
  .skip)))))
  (.seq (.region [⟨(some 79), none, (.prim (.bin .eql) [(.tmp 43), (.const (.int .i64 3))])⟩,
    ⟨(some 78), none, (.prim .mov [(.tmp 79)])⟩] [58, 79])
  (.cond (.tmp 78)
  (.seq (.region [⟨(some 81), none, (.prim .load [(.tmp 3), (.const (.ptr []))])⟩,
    ⟨(some 82), none, (.prim .mov [(.tmp 8)])⟩,
    ⟨(some 83), none, (.call 26 2 [(.tmp 81), (.tmp 82)] [])⟩,
    ⟨(some 80), none, (.prim .mov [(.tmp 83)])⟩,
    ⟨(some 84), none, (.prim (.ext 0) [(.tmp 80)])⟩,
    ⟨(some 85), none, (.prim (.ext 1) [(.tmp 80)])⟩,
    ⟨(some 14), none, (.prim .mov [(.const (.agg [(.slice true []), (.bool false)]))])⟩,
    ⟨none, none, (.store 14 none (.tmp 84))⟩,
    ⟨(some 15), none, (.prim .mov [(.tmp 85)])⟩] [8, 43, 78, 80, 81, 82, 83, 84, 85])
  (.region [⟨(some 86), none, (.prim .load [(.tmp 14), (.const (.ptr []))])⟩,
    ⟨(some 87), none, (.prim .mov [(.tmp 6)])⟩,
    ⟨(some 88), none, (.prim .mov [(.tmp 87)])⟩,
    ⟨(some 89), (some (88, true)), (.prim .mov [(.tmp 15)])⟩,
    ⟨(some 90), (some (88, true)), (.prim (.un .not) [(.tmp 89)])⟩,
    ⟨(some 91), none, (.pick (.tmp 88) (.tmp 90) (.const (.bool false)))⟩,
    ⟨none, none, (.store 3 none (.tmp 86))⟩,
    ⟨(some 6), none, (.prim .mov [(.tmp 91)])⟩] [14, 15, 86, 87, 88, 91]))
  (.seq (.region [⟨(some 93), none, (.prim (.bin .eql) [(.tmp 43), (.const (.int .i64 4))])⟩,
    ⟨(some 92), none, (.prim .mov [(.tmp 93)])⟩] [43, 78, 93])
  (.cond (.tmp 92)
  (.seq (.region [⟨(some 95), none, (.prim .load [(.tmp 3), (.const (.ptr []))])⟩,
    ⟨(some 96), none, (.prim .mov [(.tmp 8)])⟩,
    ⟨(some 97), none, (.call 27 2 [(.tmp 95), (.tmp 96)] [])⟩,
    ⟨(some 94), none, (.prim .mov [(.tmp 97)])⟩,
    ⟨(some 98), none, (.prim (.ext 0) [(.tmp 94)])⟩,
    ⟨(some 99), none, (.prim (.ext 1) [(.tmp 94)])⟩,
    ⟨(some 16), none, (.prim .mov [(.const (.agg [(.slice true []), (.bool false)]))])⟩,
    ⟨none, none, (.store 16 none (.tmp 98))⟩,
    ⟨(some 17), none, (.prim .mov [(.tmp 99)])⟩] [8, 92, 94, 95, 96, 97, 98, 99])
  (.region [⟨(some 100), none, (.prim .load [(.tmp 16), (.const (.ptr []))])⟩,
    ⟨(some 101), none, (.prim .mov [(.tmp 6)])⟩,
    ⟨(some 102), none, (.prim .mov [(.tmp 101)])⟩,
    ⟨(some 103), (some (102, true)), (.prim .mov [(.tmp 17)])⟩,
    ⟨(some 104), (some (102, true)), (.prim (.un .not) [(.tmp 103)])⟩,
    ⟨(some 105), none, (.pick (.tmp 102) (.tmp 104) (.const (.bool false)))⟩,
    ⟨none, none, (.store 3 none (.tmp 100))⟩,
    ⟨(some 6), none, (.prim .mov [(.tmp 105)])⟩] [16, 17, 100, 101, 102, 105]))
  .skip)))))))
def B5x3 : VCode := (.region [⟨(some 27), none, (.prim .mov [(.tmp 7)])⟩,
    ⟨(some 28), none, (.prim (.bin .add) [(.tmp 27), (.const (.int .i64 1))])⟩,
    ⟨(some 7), none, (.prim .mov [(.tmp 28)])⟩] [27, 28])
def kL5x2 : List Nat := [1, 2, 8, 9, 10, 11, 12, 13, 14, 15, 16, 17, 18, 19, 20, 21, 22, 23, 24, 25, 26, 27, 28, 29, 30, 31, 32, 33, 34, 35, 36, 37, 38, 39, 40, 41, 42, 43, 44, 45, 46, 47, 48, 49, 50, 51, 52, 53, 54, 55, 56, 57, 58, 59, 60, 61, 62, 63, 64, 65, 66, 67, 68, 69, 70, 71, 72, 73, 74, 75, 76, 77, 78, 79, 80, 81, 82, 83, 84, 85, 86, 87, 88, 89, 90, 91, 92, 93, 94, 95, 96, 97, 98, 99, 100, 101, 102, 103, 104, 105, 106, 107, 108, 109, 110, 111, 112, 113, 114, 115, 116, 117, 118, 119, 120, 121, 122, 123, 124, 125, 126, 127, 128, 129, 130, 131, 132, 133, 134, 135, 136, 137, 138, 139, 140]
def L5x2 : VCode := (.seq (.seq (.region [⟨(some 23), none, (.prim .mov [(.tmp 7)])⟩,
    ⟨(some 24), none, (.prim .mov [(.tmp 0)])⟩,
    ⟨(some 25), none, (.prim .len [(.tmp 24)])⟩,
    ⟨(some 26), none, (.prim (.bin .lss) [(.tmp 23), (.tmp 25)])⟩] [23, 24, 25])
  (.cond (.tmp 26)
  .skip
  (.seq (.region [] [0, 1, 2, 7, 8, 9, 10, 11, 12, 13, 14, 15, 16, 17, 18, 19, 20, 21, 22, 23, 24, 25, 26, 27, 28, 29, 30, 31, 32, 33, 34, 35, 36, 37, 38, 39, 40, 41, 42, 43, 44, 45, 46, 47, 48, 49, 50, 51, 52, 53, 54, 55, 56, 57, 58, 59, 60, 61, 62, 63, 64, 65, 66, 67, 68, 69, 70, 71, 72, 73, 74, 75, 76, 77, 78, 79, 80, 81, 82, 83, 84, 85, 86, 87, 88, 89, 90, 91, 92, 93, 94, 95, 96, 97, 98, 99, 100, 101, 102, 103, 104, 105, 106, 107, 108, 109, 110, 111, 112, 113, 114, 115, 116, 117, 118, 119, 120, 121, 122, 123, 124, 125, 126, 127, 128, 129, 130, 131, 132, 133, 134, 135, 136, 137, 138, 139, 140])
  (.exit 0))))
  (.seq (.block 1 (.seq (.region [⟨(some 29), none, (.prim .mov [(.tmp 0)])⟩,
    ⟨(some 30), none, (.prim .mov [(.tmp 7)])⟩,
    ⟨(some 31), none, (.prim (.iptr []) [(.tmp 29), (.tmp 30)])⟩,
    ⟨(some 32), none, (.prim .load [(.tmp 29), (.tmp 31)])⟩,
    ⟨(some 33), none, (.prim (.bin .shr) [(.tmp 32), (.const (.int .u64 4))])⟩,
    ⟨(some 34), none, (.prim (.fptr 0) [(.const (.ptr []))])⟩,
    ⟨(some 35), none, (.prim .load [(.tmp 3), (.tmp 34)])⟩,
    ⟨(some 36), none, (.prim .len [(.tmp 35)])⟩,
    ⟨(some 37), none, (.prim (.bin .add) [(.tmp 36), (.const (.int .i64 1))])⟩,
    ⟨(some 38), none, (.call 21 1 [(.tmp 33), (.tmp 37)] [])⟩,
    ⟨(some 8), none, (.prim .mov [(.tmp 38)])⟩] [26, 29, 30, 31, 32, 33, 34, 35, 36, 37, 38])
  (.seq (.region [⟨(some 39), none, (.prim .mov [(.tmp 0)])⟩,
    ⟨(some 40), none, (.prim .mov [(.tmp 7)])⟩,
    ⟨(some 41), none, (.prim (.iptr []) [(.tmp 39), (.tmp 40)])⟩,
    ⟨(some 42), none, (.prim .load [(.tmp 39), (.tmp 41)])⟩,
    ⟨(some 43), none, (.call 21 1 [(.tmp 42), (.const (.int .i64 6))] [])⟩] [39, 40, 41, 42])
  (.block 2 (.seq (.seq (.region [⟨(some 45), none, (.prim (.bin .eql) [(.tmp 43), (.const (.int .i64 0))])⟩,
    ⟨(some 44), none, (.prim .mov [(.tmp 45)])⟩] [45])
  (.cond (.tmp 44)
  .skip
  (.region [⟨(some 46), none, (.prim (.bin .eql) [(.tmp 43), (.const (.int .i64 1))])⟩,
    ⟨(some 44), none, (.prim .mov [(.tmp 46)])⟩] [46])))
  B5x4)))))
  B5x3))
def kL5x6 : List Nat := [0, 1, 2, 7, 8, 9, 10, 11, 12, 13, 14, 15, 16, 17, 19, 20, 21, 22, 23, 24, 25, 26, 27, 28, 29, 30, 31, 32, 33, 34, 35, 36, 37, 38, 39, 40, 41, 42, 43, 44, 45, 46, 47, 48, 49, 50, 51, 52, 53, 54, 55, 56, 57, 58, 59, 60, 61, 62, 63, 64, 65, 66, 67, 68, 69, 70, 71, 72, 73, 74, 75, 76, 77, 78, 79, 80, 81, 82, 83, 84, 85, 86, 87, 88, 89, 90, 91, 92, 93, 94, 95, 96, 97, 98, 99, 100, 101, 102, 103, 104, 105, 106, 107, 108, 109, 110, 111, 112, 113, 114, 115, 116, 117, 118, 119, 120, 121, 122, 123, 124, 125, 126, 127, 128, 129, 130, 131, 132, 133, 134, 135, 136, 137, 138, 139, 140]
def L5x6 : VCode := (.seq (.seq (.region [⟨(some 106), none, (.prim .mov [(.tmp 18)])⟩,
    ⟨(some 107), none, (.prim (.fptr 0) [(.const (.ptr []))])⟩,
    ⟨(some 108), none, (.prim .load [(.tmp 3), (.tmp 107)])⟩,
    ⟨(some 109), none, (.prim .len [(.tmp 108)])⟩,
    ⟨(some 110), none, (.prim (.bin .lss) [(.tmp 106), (.tmp 109)])⟩] [106, 107, 108, 109])
  (.cond (.tmp 110)
  .skip
  (.seq (.region [] [0, 1, 2, 7, 8, 9, 10, 11, 12, 13, 14, 15, 16, 17, 18, 19, 20, 21, 22, 23, 24, 25, 26, 27, 28, 29, 30, 31, 32, 33, 34, 35, 36, 37, 38, 39, 40, 41, 42, 43, 44, 45, 46, 47, 48, 49, 50, 51, 52, 53, 54, 55, 56, 57, 58, 59, 60, 61, 62, 63, 64, 65, 66, 67, 68, 69, 70, 71, 72, 73, 74, 75, 76, 77, 78, 79, 80, 81, 82, 83, 84, 85, 86, 87, 88, 89, 90, 91, 92, 93, 94, 95, 96, 97, 98, 99, 100, 101, 102, 103, 104, 105, 106, 107, 108, 109, 110, 111, 112, 113, 114, 115, 116, 117, 118, 119, 120, 121, 122, 123, 124, 125, 126, 127, 128, 129, 130, 131, 132, 133, 134, 135, 136, 137, 138, 139, 140])
  (.exit 3))))
  (.seq (.block 4 (.seq (.region [⟨(some 113), none, (.prim (.fptr 0) [(.const (.ptr []))])⟩,
    ⟨(some 114), none, (.prim .load [(.tmp 3), (.tmp 113)])⟩,
    ⟨(some 115), none, (.prim .mov [(.tmp 18)])⟩,
    ⟨(some 116), none, (.prim (.iptr []) [(.tmp 114), (.tmp 115)])⟩,
    ⟨(some 117), none, (.prim .load [(.tmp 114), (.tmp 116)])⟩,
    ⟨(some 118), none, (.prim .mov [(.tmp 4)])⟩,
    ⟨(some 119), none, (.call 25 1 [(.tmp 117), (.tmp 118)] [])⟩,
    ⟨(some 120), none, (.prim (.un .not) [(.tmp 119)])⟩] [110, 113, 114, 115, 116, 117, 118, 119])
  (.cond (.tmp 120)
  (.seq (.region [⟨(some 2), none, (.prim .mov [(.const (.bool false))])⟩] [3, 4, 5, 6, 18, 120])
  .ret)
  .skip)))
  (.region [⟨(some 111), none, (.prim .mov [(.tmp 18)])⟩,
    ⟨(some 112), none, (.prim (.bin .add) [(.tmp 111), (.const (.int .i64 1))])⟩,
    ⟨(some 18), none, (.prim .mov [(.tmp 112)])⟩] [111, 112, 120])))
def B5x5 : VCode := (.seq (.region [⟨(some 121), none, (.prim .mov [(.tmp 6)])⟩,
    ⟨(some 122), none, (.prim (.un .not) [(.tmp 121)])⟩,
    ⟨(some 123), none, (.prim .mov [(.tmp 122)])⟩,
    ⟨(some 124), (some (123, false)), (.prim .mov [(.tmp 5)])⟩,
    ⟨(some 125), (some (123, false)), (.prim (.fptr 0) [(.const (.ptr []))])⟩,
    ⟨(some 126), (some (123, false)), (.prim .load [(.tmp 3), (.tmp 125)])⟩,
    ⟨(some 127), (some (123, false)), (.prim .len [(.tmp 126)])⟩,
    ⟨(some 128), (some (123, false)), (.prim (.bin .add) [(.tmp 124), (.tmp 127)])⟩,
    ⟨(some 129), (some (123, false)), (.prim .mov [(.tmp 4)])⟩,
    ⟨(some 130), (some (123, false)), (.prim (.bin .eql) [(.tmp 128), (.tmp 129)])⟩,
    ⟨(some 131), none, (.pick (.tmp 123) (.const (.bool true)) (.tmp 130))⟩,
    ⟨(some 132), none, (.prim .mov [(.tmp 131)])⟩,
    ⟨(some 133), (some (132, true)), (.prim (.fptr 0) [(.const (.ptr []))])⟩,
    ⟨(some 134), (some (132, true)), (.prim .load [(.tmp 3), (.tmp 133)])⟩,
    ⟨(some 135), (some (132, true)), (.prim .len [(.tmp 134)])⟩,
    ⟨(some 136), (some (132, true)), (.prim (.bin .leq) [(.tmp 135), (.const (.int .i64 24))])⟩,
    ⟨(some 137), none, (.pick (.tmp 132) (.tmp 136) (.const (.bool false)))⟩,
    ⟨(some 138), none, (.prim .mov [(.tmp 137)])⟩,
    ⟨(some 139), (some (138, true)), (.call 17 1 [] [])⟩,
    ⟨(some 140), none, (.pick (.tmp 138) (.tmp 139) (.const (.bool false)))⟩,
    ⟨(some 2), none, (.prim .mov [(.tmp 140)])⟩] [3, 4, 5, 6, 121, 122, 123, 124, 125, 126, 127, 128, 129, 130, 131, 132, 133, 134, 135, 136, 137, 138, 139, 140])
  .ret)
def B5x1 : VCode := (.seq (.seq (.region [⟨(some 18), none, (.prim .mov [(.const (.int .i64 0))])⟩] [])
  (.block 3 (.loop kL5x6 L5x6)))
  B5x5)

/-- vmfleet/vmfleetlaw23.LinkCarries -/
def F5 : VFunc := ⟨141,
  (.seq (.region [⟨(some 2), none, (.prim .mov [(.const (.bool false))])⟩] [2])
  (.seq (.seq (.region [⟨(some 19), none, (.prim .mov [(.tmp 0)])⟩,
    ⟨(some 20), none, (.prim .len [(.tmp 19)])⟩,
    ⟨(some 21), none, (.prim (.bin .gtr) [(.tmp 20), (.const (.int .i64 60))])⟩] [19, 20])
  (.cond (.tmp 21)
  (.seq (.region [⟨(some 22), none, (.call 17 1 [] [])⟩,
    ⟨(some 2), none, (.prim .mov [(.tmp 22)])⟩] [0, 21, 22])
  .ret)
  .skip))
  (.seq (.region [⟨(some 3), none, (.prim .mov [(.const (.agg [(.slice true []), (.bool false)]))])⟩] [21])
  (.seq (.region [⟨(some 4), none, (.prim .mov [(.const (.int .i64 0))])⟩,
    ⟨(some 5), none, (.prim .mov [(.const (.int .i64 0))])⟩,
    ⟨(some 6), none, (.prim .mov [(.const (.bool true))])⟩] [])
  (.seq (.seq (.region [⟨(some 7), none, (.prim .mov [(.const (.int .i64 0))])⟩] [])
  (.block 0 (.loop kL5x2 L5x2)))
  B5x1))))), [2], []⟩
theorem c5 : compile Try.prog sg 5 = some F5 := by kernel_rfl


/-- vmfleet/vmfleetlaw23.awake -/
def F17 : VFunc := ⟨50,
  (.seq (.region [⟨(some 0), none, (.prim .mov [(.const (.bool false))])⟩] [0])
  (.seq (.region [⟨(some 9), none, (.prim (.build [(.slice true []), (.bool false)] []) [])⟩,
    ⟨(some 10), none, (.call 19 2 [(.tmp 9), (.const (.str [97]))] [])⟩,
    ⟨(some 8), none, (.prim .mov [(.tmp 10)])⟩,
    ⟨(some 11), none, (.prim (.ext 0) [(.tmp 8)])⟩,
    ⟨(some 12), none, (.prim (.ext 1) [(.tmp 8)])⟩,
    ⟨(some 1), none, (.prim .mov [(.const (.agg [(.slice true []), (.bool false)]))])⟩,
    ⟨none, none, (.store 1 none (.tmp 11))⟩,
    ⟨(some 2), none, (.prim .mov [(.tmp 12)])⟩] [8, 9, 10, 12])
  (.seq (.region [⟨(some 14), none, (.prim .load [(.tmp 1), (.const (.ptr []))])⟩,
    ⟨(some 15), none, (.call 20 3 [(.tmp 14), (.const (.int .i64 0))] [])⟩,
    ⟨(some 13), none, (.prim .mov [(.tmp 15)])⟩,
    ⟨(some 16), none, (.prim (.ext 0) [(.tmp 13)])⟩,
    ⟨(some 17), none, (.prim (.ext 1) [(.tmp 13)])⟩,
    ⟨(some 18), none, (.prim (.ext 2) [(.tmp 13)])⟩,
    ⟨(some 3), none, (.prim .mov [(.const (.agg [(.slice true []), (.bool false)]))])⟩,
    ⟨none, none, (.store 3 none (.tmp 16))⟩,
    ⟨(some 4), none, (.prim .mov [(.tmp 17)])⟩,
    ⟨(some 5), none, (.prim .mov [(.tmp 18)])⟩] [13, 15, 16, 17, 18])
  (.seq (.region [⟨(some 20), none, (.prim .load [(.tmp 1), (.const (.ptr []))])⟩,
    ⟨(some 21), none, (.call 18 1 [(.tmp 20), (.const (.bool true))] [])⟩,
    ⟨(some 22), none, (.call 19 2 [(.tmp 21), (.const (.str [98]))] [])⟩,
    ⟨(some 19), none, (.prim .mov [(.tmp 22)])⟩,
    ⟨(some 23), none, (.prim (.ext 0) [(.tmp 19)])⟩,
    ⟨(some 24), none, (.prim (.ext 1) [(.tmp 19)])⟩,
    ⟨(some 6), none, (.prim .mov [(.const (.agg [(.slice true []), (.bool false)]))])⟩,
    ⟨none, none, (.store 6 none (.tmp 23))⟩,
    ⟨(some 7), none, (.prim .mov [(.tmp 24)])⟩] [6, 19, 20, 21, 22, 24])
  (.seq (.region [⟨(some 25), none, (.prim .mov [(.tmp 2)])⟩,
    ⟨(some 26), none, (.prim .mov [(.tmp 25)])⟩,
    ⟨(some 27), (some (26, true)), (.prim .mov [(.tmp 5)])⟩,
    ⟨(some 28), none, (.pick (.tmp 26) (.tmp 27) (.const (.bool false)))⟩,
    ⟨(some 29), none, (.prim .mov [(.tmp 28)])⟩,
    ⟨(some 30), (some (29, true)), (.prim .mov [(.tmp 4)])⟩,
    ⟨(some 31), (some (29, true)), (.prim (.bin .eql) [(.tmp 30), (.const (.str [97]))])⟩,
    ⟨(some 32), none, (.pick (.tmp 29) (.tmp 31) (.const (.bool false)))⟩,
    ⟨(some 33), none, (.prim .mov [(.tmp 32)])⟩,
    ⟨(some 34), (some (33, true)), (.prim (.fptr 0) [(.const (.ptr []))])⟩,
    ⟨(some 35), (some (33, true)), (.prim .load [(.tmp 3), (.tmp 34)])⟩,
    ⟨(some 36), (some (33, true)), (.prim .len [(.tmp 35)])⟩,
    ⟨(some 37), (some (33, true)), (.prim (.bin .eql) [(.tmp 36), (.const (.int .i64 0))])⟩,
    ⟨(some 38), none, (.pick (.tmp 33) (.tmp 37) (.const (.bool false)))⟩,
    ⟨(some 39), none, (.prim .mov [(.tmp 38)])⟩,
    ⟨(some 40), (some (39, true)), (.prim .mov [(.tmp 7)])⟩,
    ⟨(some 41), (some (39, true)), (.prim (.un .not) [(.tmp 40)])⟩,
    ⟨(some 42), none, (.pick (.tmp 39) (.tmp 41) (.const (.bool false)))⟩,
    ⟨(some 43), none, (.prim .mov [(.tmp 42)])⟩,
    ⟨(some 44), (some (43, true)), (.prim .load [(.tmp 1), (.const (.ptr []))])⟩,
    ⟨(some 45), (some (43, true)), (.call 18 1 [(.tmp 44), (.const (.bool true))] [])⟩,
    ⟨(some 46), (some (43, true)), (.prim (.field 0) [(.tmp 45)])⟩,
    ⟨(some 47), (some (43, true)), (.prim .len [(.tmp 46)])⟩,
    ⟨(some 48), (some (43, true)), (.prim (.bin .eql) [(.tmp 47), (.const (.int .i64 0))])⟩,
    ⟨(some 49), none, (.pick (.tmp 43) (.tmp 48) (.const (.bool false)))⟩,
    ⟨(some 0), none, (.prim .mov [(.tmp 49)])⟩] [1, 2, 3, 4, 5, 7, 25, 26, 27, 28, 29, 30, 31, 32, 33, 34, 35, 36, 37, 38, 39, 40, 41, 42, 43, 44, 45, 46, 47, 48, 49])
  .ret))))), [0], []⟩
theorem c17 : compile Try.prog sg 17 = some F17 := by kernel_rfl


/-- vmfleet/link.SetCut -/
def F18 : VFunc := ⟨12,
  (.seq (.region [⟨(some 2), none, (.prim .mov [(.tmp 0)])⟩,
    ⟨(some 4), none, (.prim .mov [(.const (.agg [(.slice true []), (.bool false)]))])⟩] [0])
  (.seq (.region [⟨(some 5), none, (.prim .load [(.tmp 2), (.const (.ptr []))])⟩,
    ⟨(some 6), none, (.call 59 1 [(.tmp 5)] [])⟩,
    ⟨none, none, (.store 2 none (.tmp 6))⟩] [5, 6])
  (.seq (.region [⟨(some 7), none, (.prim .mov [(.tmp 1)])⟩,
    ⟨(some 8), none, (.prim (.fptr 1) [(.const (.ptr []))])⟩,
    ⟨none, none, (.store 2 (some 8) (.tmp 7))⟩] [7, 8])
  (.seq (.seq (.region [⟨(some 9), none, (.prim .mov [(.tmp 1)])⟩] [1])
  (.cond (.tmp 9)
  (.region [⟨(some 10), none, (.prim (.fptr 0) [(.const (.ptr []))])⟩,
    ⟨none, none, (.store 2 (some 10) (.const (.slice true [])))⟩] [9, 10])
  .skip))
  (.seq (.region [⟨(some 11), none, (.prim .load [(.tmp 2), (.const (.ptr []))])⟩,
    ⟨none, none, (.store 4 none (.tmp 11))⟩] [2])
  .ret))))), [4], []⟩
theorem c18 : compile Try.prog sg 18 = some F18 := by kernel_rfl


/-- vmfleet/link.Send -/
def F19 : VFunc := ⟨19,
  (.seq (.region [⟨(some 2), none, (.prim .mov [(.tmp 0)])⟩,
    ⟨(some 4), none, (.prim .mov [(.const (.agg [(.slice true []), (.bool false)]))])⟩,
    ⟨(some 5), none, (.prim .mov [(.const (.bool false))])⟩] [0, 5])
  (.seq (.region [⟨(some 6), none, (.prim .load [(.tmp 2), (.const (.ptr []))])⟩,
    ⟨(some 7), none, (.call 59 1 [(.tmp 6)] [])⟩,
    ⟨none, none, (.store 2 none (.tmp 7))⟩] [6, 7])
  (.seq (.seq (.region [⟨(some 8), none, (.prim .load [(.tmp 2), (.const (.ptr []))])⟩,
    ⟨(some 9), none, (.call 60 1 [(.tmp 8)] [])⟩,
    ⟨(some 10), none, (.prim (.un .not) [(.tmp 9)])⟩] [8, 9])
  (.cond (.tmp 10)
  (.seq (.region [⟨(some 11), none, (.prim .load [(.tmp 2), (.const (.ptr []))])⟩,
    ⟨none, none, (.store 4 none (.tmp 11))⟩,
    ⟨(some 5), none, (.prim .mov [(.const (.bool false))])⟩] [1, 2, 10])
  .ret)
  .skip))
  (.seq (.region [⟨(some 12), none, (.prim (.fptr 0) [(.const (.ptr []))])⟩,
    ⟨(some 13), none, (.prim .load [(.tmp 2), (.tmp 12)])⟩,
    ⟨(some 14), none, (.prim .mov [(.tmp 1)])⟩,
    ⟨(some 15), none, (.prim (.buildSl (.str []) 1 [0]) [(.tmp 14)])⟩,
    ⟨(some 16), none, (.prim (.app 16) [(.tmp 13), (.tmp 15)])⟩,
    ⟨(some 17), none, (.prim (.fptr 0) [(.const (.ptr []))])⟩,
    ⟨none, none, (.store 2 (some 17) (.tmp 16))⟩] [1, 10, 12, 14, 15, 16, 17])
  (.seq (.region [⟨(some 18), none, (.prim .load [(.tmp 2), (.const (.ptr []))])⟩,
    ⟨none, none, (.store 4 none (.tmp 18))⟩,
    ⟨(some 5), none, (.prim .mov [(.const (.bool true))])⟩] [2])
  .ret))))), [4, 5], []⟩
theorem c19 : compile Try.prog sg 19 = some F19 := by kernel_rfl


/-- vmfleet/link.Deliver -/
def F20 : VFunc := ⟨28,
  (.seq (.region [⟨(some 2), none, (.prim .mov [(.tmp 0)])⟩,
    ⟨(some 4), none, (.prim .mov [(.const (.agg [(.slice true []), (.bool false)]))])⟩,
    ⟨(some 5), none, (.prim .mov [(.const (.str []))])⟩,
    ⟨(some 6), none, (.prim .mov [(.const (.bool false))])⟩] [0, 5, 6])
  (.seq (.region [⟨(some 8), none, (.prim .load [(.tmp 2), (.const (.ptr []))])⟩,
    ⟨(some 9), none, (.call 59 1 [(.tmp 8)] [])⟩,
    ⟨none, none, (.store 2 none (.tmp 9))⟩] [8, 9])
  (.seq (.seq (.region [⟨(some 10), none, (.prim (.fptr 1) [(.const (.ptr []))])⟩,
    ⟨(some 11), none, (.prim .load [(.tmp 2), (.tmp 10)])⟩,
    ⟨(some 12), none, (.prim .mov [(.tmp 11)])⟩,
    ⟨(some 13), (some (12, false)), (.prim .load [(.tmp 2), (.const (.ptr []))])⟩,
    ⟨(some 14), (some (12, false)), (.prim .mov [(.tmp 1)])⟩,
    ⟨(some 15), (some (12, false)), (.call 61 1 [(.tmp 13), (.tmp 14)] [])⟩,
    ⟨(some 16), (some (12, false)), (.prim (.un .not) [(.tmp 15)])⟩,
    ⟨(some 17), none, (.pick (.tmp 12) (.const (.bool true)) (.tmp 16))⟩] [10, 11, 12, 13, 14, 15, 16])
  (.cond (.tmp 17)
  (.seq (.region [⟨(some 18), none, (.prim .load [(.tmp 2), (.const (.ptr []))])⟩,
    ⟨none, none, (.store 4 none (.tmp 18))⟩,
    ⟨(some 5), none, (.prim .mov [(.const (.str []))])⟩,
    ⟨(some 6), none, (.prim .mov [(.const (.bool false))])⟩] [1, 2, 17])
  .ret)
  .skip))
  (.seq (.region [⟨(some 19), none, (.prim (.fptr 0) [(.const (.ptr []))])⟩,
    ⟨(some 20), none, (.prim .load [(.tmp 2), (.tmp 19)])⟩,
    ⟨(some 21), none, (.prim .mov [(.tmp 1)])⟩,
    ⟨(some 22), none, (.prim (.iptr [0]) [(.tmp 20), (.tmp 21)])⟩,
    ⟨(some 23), none, (.prim .load [(.tmp 2), (.tmp 22)])⟩,
    ⟨(some 7), none, (.prim .mov [(.tmp 23)])⟩] [17, 19, 20, 21, 22, 23])
  (.seq (.region [⟨(some 24), none, (.prim .load [(.tmp 2), (.const (.ptr []))])⟩,
    ⟨(some 25), none, (.prim .mov [(.tmp 1)])⟩,
    ⟨(some 26), none, (.call 62 1 [(.tmp 24), (.tmp 25)] [])⟩,
    ⟨(some 27), none, (.prim .mov [(.tmp 7)])⟩,
    ⟨none, none, (.store 4 none (.tmp 26))⟩,
    ⟨(some 5), none, (.prim .mov [(.tmp 27)])⟩,
    ⟨(some 6), none, (.prim .mov [(.const (.bool true))])⟩] [1, 2, 7, 25, 26, 27])
  .ret))))), [4, 5, 6], []⟩
theorem c20 : compile Try.prog sg 20 = some F20 := by kernel_rfl


/-- vmfleet/vmfleetmake.Round -/
def F21 : VFunc := ⟨15,
  (.seq (.region [⟨(some 4), none, (.prim .mov [(.const (.int .i64 0))])⟩] [4])
  (.seq (.region [⟨(some 6), none, (.prim .mov [(.tmp 0)])⟩,
    ⟨(some 7), none, (.prim .mov [(.tmp 1)])⟩,
    ⟨(some 8), none, (.prim (.bin .rem) [(.tmp 6), (.tmp 7)])⟩,
    ⟨(some 5), none, (.prim .mov [(.tmp 8)])⟩] [0, 6, 7, 8])
  (.seq (.seq (.region [⟨(some 9), none, (.prim .mov [(.tmp 5)])⟩,
    ⟨(some 10), none, (.prim (.bin .lss) [(.tmp 9), (.const (.int .i64 0))])⟩] [9])
  (.cond (.tmp 10)
  (.region [⟨(some 11), none, (.prim .mov [(.tmp 5)])⟩,
    ⟨(some 12), none, (.prim .mov [(.tmp 1)])⟩,
    ⟨(some 13), none, (.prim (.bin .add) [(.tmp 11), (.tmp 12)])⟩,
    ⟨(some 5), none, (.prim .mov [(.tmp 13)])⟩] [1, 10, 11, 12, 13])
  .skip))
  (.seq (.region [⟨(some 14), none, (.prim .mov [(.tmp 5)])⟩,
    ⟨(some 4), none, (.prim .mov [(.tmp 14)])⟩] [5, 14])
  .ret)))), [4], []⟩
theorem c21 : compile Try.prog sg 21 = some F21 := by kernel_rfl


/-- vmfleet/vmfleetlaw23.name -/
def F24 : VFunc := ⟨9,
  (.seq (.region [⟨(some 2), none, (.prim .mov [(.const (.str []))])⟩] [2])
  (.seq (.region [⟨(some 3), none, (.prim .mov [(.tmp 0)])⟩,
    ⟨(some 4), none, (.prim (.bin .add) [(.const (.int .i64 65)), (.tmp 3)])⟩,
    ⟨(some 5), none, (.prim (.toInt .u8) [(.tmp 4)])⟩,
    ⟨(some 6), none, (.prim (.buildSl (.int .u8 0) 1 [0]) [(.tmp 5)])⟩,
    ⟨(some 7), none, (.prim .toStr [(.tmp 6)])⟩,
    ⟨(some 8), none, (.prim (.bin .add) [(.const (.str [112])), (.tmp 7)])⟩,
    ⟨(some 2), none, (.prim .mov [(.tmp 8)])⟩] [0, 3, 4, 5, 6, 7, 8])
  .ret)), [2], []⟩
theorem c24 : compile Try.prog sg 24 = some F24 := by kernel_rfl

def kL25x2 : List Nat := [2, 3, 4, 6, 7, 8, 9, 10, 11, 12, 13, 14]
def L25x2 : VCode := (.seq (.seq (.region [⟨(some 6), none, (.prim .mov [(.tmp 5)])⟩,
    ⟨(some 7), none, (.prim .mov [(.tmp 1)])⟩,
    ⟨(some 8), none, (.prim (.bin .lss) [(.tmp 6), (.tmp 7)])⟩] [6, 7])
  (.cond (.tmp 8)
  .skip
  (.seq (.region [] [0, 1, 2, 3, 4, 5, 6, 7, 8, 9, 10, 11, 12, 13, 14])
  (.exit 0))))
  (.seq (.block 1 (.seq (.region [⟨(some 11), none, (.prim .mov [(.tmp 0)])⟩,
    ⟨(some 12), none, (.prim .mov [(.tmp 5)])⟩,
    ⟨(some 13), none, (.call 24 1 [(.tmp 12)] [])⟩,
    ⟨(some 14), none, (.prim (.bin .eql) [(.tmp 11), (.tmp 13)])⟩] [8, 11, 12, 13])
  (.cond (.tmp 14)
  (.seq (.region [⟨(some 4), none, (.prim .mov [(.const (.bool true))])⟩] [0, 1, 5, 14])
  .ret)
  .skip)))
  (.region [⟨(some 9), none, (.prim .mov [(.tmp 5)])⟩,
    ⟨(some 10), none, (.prim (.bin .add) [(.tmp 9), (.const (.int .i64 1))])⟩,
    ⟨(some 5), none, (.prim .mov [(.tmp 10)])⟩] [9, 10, 14])))
def B25x1 : VCode := (.seq (.region [⟨(some 4), none, (.prim .mov [(.const (.bool false))])⟩] [])
  .ret)

/-- vmfleet/vmfleetlaw23.known -/
def F25 : VFunc := ⟨15,
  (.seq (.region [⟨(some 4), none, (.prim .mov [(.const (.bool false))])⟩] [4])
  (.seq (.seq (.region [⟨(some 5), none, (.prim .mov [(.const (.int .i64 0))])⟩] [])
  (.block 0 (.loop kL25x2 L25x2)))
  B25x1)), [4], []⟩
theorem c25 : compile Try.prog sg 25 = some F25 := by kernel_rfl


/-- vmfleet/link.Lose -/
def F26 : VFunc := ⟨16,
  (.seq (.region [⟨(some 2), none, (.prim .mov [(.tmp 0)])⟩,
    ⟨(some 4), none, (.prim .mov [(.const (.agg [(.slice true []), (.bool false)]))])⟩,
    ⟨(some 5), none, (.prim .mov [(.const (.bool false))])⟩] [0, 5])
  (.seq (.region [⟨(some 6), none, (.prim .load [(.tmp 2), (.const (.ptr []))])⟩,
    ⟨(some 7), none, (.call 59 1 [(.tmp 6)] [])⟩,
    ⟨none, none, (.store 2 none (.tmp 7))⟩] [6, 7])
  (.seq (.seq (.region [⟨(some 8), none, (.prim .load [(.tmp 2), (.const (.ptr []))])⟩,
    ⟨(some 9), none, (.prim .mov [(.tmp 1)])⟩,
    ⟨(some 10), none, (.call 61 1 [(.tmp 8), (.tmp 9)] [])⟩,
    ⟨(some 11), none, (.prim (.un .not) [(.tmp 10)])⟩] [8, 9, 10])
  (.cond (.tmp 11)
  (.seq (.region [⟨(some 12), none, (.prim .load [(.tmp 2), (.const (.ptr []))])⟩,
    ⟨none, none, (.store 4 none (.tmp 12))⟩,
    ⟨(some 5), none, (.prim .mov [(.const (.bool false))])⟩] [1, 2, 11])
  .ret)
  .skip))
  (.seq (.region [⟨(some 13), none, (.prim .load [(.tmp 2), (.const (.ptr []))])⟩,
    ⟨(some 14), none, (.prim .mov [(.tmp 1)])⟩,
    ⟨(some 15), none, (.call 62 1 [(.tmp 13), (.tmp 14)] [])⟩,
    ⟨none, none, (.store 4 none (.tmp 15))⟩,
    ⟨(some 5), none, (.prim .mov [(.const (.bool true))])⟩] [1, 2, 11, 14, 15])
  .ret)))), [4, 5], []⟩
theorem c26 : compile Try.prog sg 26 = some F26 := by kernel_rfl


/-- vmfleet/link.Duplicate -/
def F27 : VFunc := ⟨29,
  (.seq (.region [⟨(some 2), none, (.prim .mov [(.tmp 0)])⟩,
    ⟨(some 4), none, (.prim .mov [(.const (.agg [(.slice true []), (.bool false)]))])⟩,
    ⟨(some 5), none, (.prim .mov [(.const (.bool false))])⟩] [0, 5])
  (.seq (.region [⟨(some 6), none, (.prim .load [(.tmp 2), (.const (.ptr []))])⟩,
    ⟨(some 7), none, (.call 59 1 [(.tmp 6)] [])⟩,
    ⟨none, none, (.store 2 none (.tmp 7))⟩] [6, 7])
  (.seq (.seq (.region [⟨(some 8), none, (.prim .load [(.tmp 2), (.const (.ptr []))])⟩,
    ⟨(some 9), none, (.call 60 1 [(.tmp 8)] [])⟩,
    ⟨(some 10), none, (.prim (.un .not) [(.tmp 9)])⟩,
    ⟨(some 11), none, (.prim .mov [(.tmp 10)])⟩,
    ⟨(some 12), (some (11, false)), (.prim .load [(.tmp 2), (.const (.ptr []))])⟩,
    ⟨(some 13), (some (11, false)), (.prim .mov [(.tmp 1)])⟩,
    ⟨(some 14), (some (11, false)), (.call 61 1 [(.tmp 12), (.tmp 13)] [])⟩,
    ⟨(some 15), (some (11, false)), (.prim (.un .not) [(.tmp 14)])⟩,
    ⟨(some 16), none, (.pick (.tmp 11) (.const (.bool true)) (.tmp 15))⟩] [8, 9, 10, 11, 12, 13, 14, 15])
  (.cond (.tmp 16)
  (.seq (.region [⟨(some 17), none, (.prim .load [(.tmp 2), (.const (.ptr []))])⟩,
    ⟨none, none, (.store 4 none (.tmp 17))⟩,
    ⟨(some 5), none, (.prim .mov [(.const (.bool false))])⟩] [1, 2, 16])
  .ret)
  .skip))
  (.seq (.region [⟨(some 18), none, (.prim (.fptr 0) [(.const (.ptr []))])⟩,
    ⟨(some 19), none, (.prim .load [(.tmp 2), (.tmp 18)])⟩,
    ⟨(some 20), none, (.prim (.fptr 0) [(.const (.ptr []))])⟩,
    ⟨(some 21), none, (.prim .load [(.tmp 2), (.tmp 20)])⟩,
    ⟨(some 22), none, (.prim .mov [(.tmp 1)])⟩,
    ⟨(some 23), none, (.prim (.iptr [0]) [(.tmp 21), (.tmp 22)])⟩,
    ⟨(some 24), none, (.prim .load [(.tmp 2), (.tmp 23)])⟩,
    ⟨(some 25), none, (.prim (.buildSl (.str []) 1 [0]) [(.tmp 24)])⟩,
    ⟨(some 26), none, (.prim (.app 16) [(.tmp 19), (.tmp 25)])⟩,
    ⟨(some 27), none, (.prim (.fptr 0) [(.const (.ptr []))])⟩,
    ⟨none, none, (.store 2 (some 27) (.tmp 26))⟩] [1, 16, 18, 20, 22, 24, 25, 26, 27])
  (.seq (.region [⟨(some 28), none, (.prim .load [(.tmp 2), (.const (.ptr []))])⟩,
    ⟨none, none, (.store 4 none (.tmp 28))⟩,
    ⟨(some 5), none, (.prim .mov [(.const (.bool true))])⟩] [2])
  .ret))))), [4, 5], []⟩
theorem c27 : compile Try.prog sg 27 = some F27 := by kernel_rfl


/-- vmfleet/link.copyOf -/
def F59 : VFunc := ⟨15,
  (.seq (.region [⟨(some 1), none, (.prim .mov [(.tmp 0)])⟩,
    ⟨(some 2), none, (.prim .mov [(.const (.agg [(.slice true []), (.bool false)]))])⟩] [0])
  (.seq (.region [⟨(some 4), none, (.prim (.fptr 0) [(.const (.ptr []))])⟩,
    ⟨(some 5), none, (.prim .load [(.tmp 1), (.tmp 4)])⟩,
    ⟨(some 6), none, (.prim .len [(.tmp 5)])⟩,
    ⟨(some 3), none, (.prim .mov [(.tmp 6)])⟩] [4, 5, 6])
  (.seq (.region [⟨(some 7), none, (.prim (.fptr 0) [(.const (.ptr []))])⟩,
    ⟨(some 8), none, (.prim .load [(.tmp 1), (.tmp 7)])⟩,
    ⟨(some 9), none, (.prim .mov [(.tmp 3)])⟩,
    ⟨(some 10), none, (.prim .mov [(.tmp 3)])⟩,
    ⟨(some 11), none, (.prim (.sl3 false) [(.tmp 8), (.tmp 9), (.tmp 10)])⟩,
    ⟨(some 12), none, (.prim (.app 16) [(.const (.slice true [])), (.tmp 11)])⟩,
    ⟨(some 13), none, (.prim (.fptr 0) [(.const (.ptr []))])⟩,
    ⟨none, none, (.store 1 (some 13) (.tmp 12))⟩] [3, 7, 8, 9, 10, 11, 12, 13])
  (.seq (.region [⟨(some 14), none, (.prim .load [(.tmp 1), (.const (.ptr []))])⟩,
    ⟨none, none, (.store 2 none (.tmp 14))⟩] [1])
  .ret)))), [2], []⟩
theorem c59 : compile Try.prog sg 59 = some F59 := by kernel_rfl


/-- vmfleet/link.room -/
def F60 : VFunc := ⟨12,
  (.seq (.region [⟨(some 1), none, (.prim .mov [(.tmp 0)])⟩,
    ⟨(some 2), none, (.prim .mov [(.const (.bool false))])⟩] [0, 2])
  (.seq (.region [⟨(some 3), none, (.prim (.fptr 1) [(.const (.ptr []))])⟩,
    ⟨(some 4), none, (.prim .load [(.tmp 1), (.tmp 3)])⟩,
    ⟨(some 5), none, (.prim (.un .not) [(.tmp 4)])⟩,
    ⟨(some 6), none, (.prim .mov [(.tmp 5)])⟩,
    ⟨(some 7), (some (6, true)), (.prim (.fptr 0) [(.const (.ptr []))])⟩,
    ⟨(some 8), (some (6, true)), (.prim .load [(.tmp 1), (.tmp 7)])⟩,
    ⟨(some 9), (some (6, true)), (.prim .len [(.tmp 8)])⟩,
    ⟨(some 10), (some (6, true)), (.prim (.bin .lss) [(.tmp 9), (.const (.int .i64 24))])⟩,
    ⟨(some 11), none, (.pick (.tmp 6) (.tmp 10) (.const (.bool false)))⟩,
    ⟨(some 2), none, (.prim .mov [(.tmp 11)])⟩] [1, 3, 4, 5, 6, 7, 8, 9, 10, 11])
  .ret)), [2], []⟩
theorem c60 : compile Try.prog sg 60 = some F60 := by kernel_rfl


/-- vmfleet/link.has -/
def F61 : VFunc := ⟨14,
  (.seq (.region [⟨(some 2), none, (.prim .mov [(.tmp 0)])⟩,
    ⟨(some 4), none, (.prim .mov [(.const (.bool false))])⟩] [0, 4])
  (.seq (.region [⟨(some 5), none, (.prim .mov [(.tmp 1)])⟩,
    ⟨(some 6), none, (.prim (.bin .geq) [(.tmp 5), (.const (.int .i64 0))])⟩,
    ⟨(some 7), none, (.prim .mov [(.tmp 6)])⟩,
    ⟨(some 8), (some (7, true)), (.prim .mov [(.tmp 1)])⟩,
    ⟨(some 9), (some (7, true)), (.prim (.fptr 0) [(.const (.ptr []))])⟩,
    ⟨(some 10), (some (7, true)), (.prim .load [(.tmp 2), (.tmp 9)])⟩,
    ⟨(some 11), (some (7, true)), (.prim .len [(.tmp 10)])⟩,
    ⟨(some 12), (some (7, true)), (.prim (.bin .lss) [(.tmp 8), (.tmp 11)])⟩,
    ⟨(some 13), none, (.pick (.tmp 7) (.tmp 12) (.const (.bool false)))⟩,
    ⟨(some 4), none, (.prim .mov [(.tmp 13)])⟩] [1, 2, 5, 6, 7, 8, 9, 10, 11, 12, 13])
  .ret)), [4], []⟩
theorem c61 : compile Try.prog sg 61 = some F61 := by kernel_rfl


/-- vmfleet/link.remove -/
def F62 : VFunc := ⟨18,
  (.seq (.region [⟨(some 2), none, (.prim .mov [(.tmp 0)])⟩,
    ⟨(some 4), none, (.prim .mov [(.const (.agg [(.slice true []), (.bool false)]))])⟩] [0])
  (.seq (.region [⟨(some 5), none, (.prim (.fptr 0) [(.const (.ptr []))])⟩,
    ⟨(some 6), none, (.prim .load [(.tmp 2), (.tmp 5)])⟩,
    ⟨(some 7), none, (.prim .mov [(.tmp 1)])⟩,
    ⟨(some 8), none, (.prim .mov [(.tmp 1)])⟩,
    ⟨(some 9), none, (.prim (.sl3 false) [(.tmp 6), (.tmp 7), (.tmp 8)])⟩,
    ⟨(some 10), none, (.prim (.fptr 0) [(.const (.ptr []))])⟩,
    ⟨(some 11), none, (.prim .load [(.tmp 2), (.tmp 10)])⟩,
    ⟨(some 12), none, (.prim .mov [(.tmp 1)])⟩,
    ⟨(some 13), none, (.prim (.bin .add) [(.tmp 12), (.const (.int .i64 1))])⟩,
    ⟨(some 14), none, (.prim (.sl true false) [(.tmp 11), (.tmp 13)])⟩,
    ⟨(some 15), none, (.prim (.app 16) [(.tmp 9), (.tmp 14)])⟩,
    ⟨(some 16), none, (.prim (.fptr 0) [(.const (.ptr []))])⟩,
    ⟨none, none, (.store 2 (some 16) (.tmp 15))⟩] [1, 5, 6, 7, 8, 9, 10, 11, 12, 13, 14, 15, 16])
  (.seq (.region [⟨(some 17), none, (.prim .load [(.tmp 2), (.const (.ptr []))])⟩,
    ⟨none, none, (.store 4 none (.tmp 17))⟩] [2, 17])
  .ret))), [4], []⟩
theorem c62 : compile Try.prog sg 62 = some F62 := by kernel_rfl

noncomputable def T : Nat → Option VFunc := fun f => compile Try.prog sg f
/-! vmfleet/vmfleetlaw23.LinkCarries -/
theorem lB5x4 (t0 t3 t4 t5 t6 t7 t8 t43 t44 : PV) (K : RK) : denK T B5x4 [t0, .undef, .undef, t3, t4, t5, t6, t7, t8, .undef, .undef, .undef, .undef, .undef, .undef, .undef, .undef, .undef, .undef, .undef, .undef, .undef, .undef, .undef, .undef, .undef, .undef, .undef, .undef, .undef, .undef, .undef, .undef, .undef, .undef, .undef, .undef, .undef, .undef, .undef, .undef, .undef, .undef, t43, t44, .undef, .undef, .undef, .undef, .undef, .undef, .undef, .undef, .undef, .undef, .undef, .undef, .undef, .undef, .undef, .undef, .undef, .undef, .undef, .undef, .undef, .undef, .undef, .undef, .undef, .undef, .undef, .undef, .undef, .undef, .undef, .undef, .undef, .undef, .undef, .undef, .undef, .undef, .undef, .undef, .undef, .undef, .undef, .undef, .undef, .undef, .undef, .undef, .undef, .undef, .undef, .undef, .undef, .undef, .undef, .undef, .undef, .undef, .undef, .undef, .undef, .undef, .undef, .undef, .undef, .undef, .undef, .undef, .undef, .undef, .undef, .undef, .undef, .undef, .undef, .undef, .undef, .undef, .undef, .undef, .undef, .undef, .undef, .undef, .undef, .undef, .undef, .undef, .undef, .undef, .undef, .undef, .undef, .undef, .undef, .undef] K =
  chk t44 fun c0 => isB c0
 (Option.bind (chk t3 fun a0 => Prim.run .load [a0, (.ptr [])]) fun t48 =>
  Option.bind (chk t4 fun a0 => Prim.run .mov [a0]) fun t49 =>
  Option.bind (chk t49 fun a0 => Option.bind (Ans T 24 [a0]) fun rs => retV 1 rs) fun t50 =>
  Option.bind (chk t48 fun a0 => chk t50 fun a1 => Option.bind (Ans T 19 [a0, a1]) fun rs => retV 2 rs) fun t51 =>
  Option.bind (chk t51 fun a0 => Prim.run .mov [a0]) fun t47 =>
  Option.bind (chk t47 fun a0 => Prim.run (.ext 0) [a0]) fun t52 =>
  Option.bind (chk t47 fun a0 => Prim.run (.ext 1) [a0]) fun t53 =>
  Option.bind (Prim.run .mov [(.agg [(.slice true []), (.bool false)])]) fun t9 =>
  chk t52 fun a0 => chk t9 fun y0 => Option.bind (setP [] y0 a0) fun t9 =>
  Option.bind (chk t53 fun a0 => Prim.run .mov [a0]) fun t10 =>
  Option.bind (chk t9 fun a0 => Prim.run .load [a0, (.ptr [])]) fun t54 =>
  chk t54 fun a0 => chk t3 fun y0 => Option.bind (setP [] y0 a0) fun t3 =>
  Option.bind (chk t10 fun a0 => Prim.run .mov [a0]) fun t55 =>
  chk t55 fun c0 => isB c0
 (Option.bind (chk t4 fun a0 => Prim.run .mov [a0]) fun t56 =>
  Option.bind (chk t56 fun a0 => Prim.run (.bin .add) [a0, (.int .i64 1)]) fun t57 =>
  Option.bind (chk t57 fun a0 => Prim.run .mov [a0]) fun t4 =>
  K (.normal, [t0, .undef, .undef, t3, t4, t5, t6, t7, .undef, .undef, .undef, .undef, .undef, .undef, .undef, .undef, .undef, .undef, .undef, .undef, .undef, .undef, .undef, .undef, .undef, .undef, .undef, .undef, .undef, .undef, .undef, .undef, .undef, .undef, .undef, .undef, .undef, .undef, .undef, .undef, .undef, .undef, .undef, .undef, .undef, .undef, .undef, .undef, .undef, .undef, .undef, .undef, .undef, .undef, .undef, .undef, .undef, .undef, .undef, .undef, .undef, .undef, .undef, .undef, .undef, .undef, .undef, .undef, .undef, .undef, .undef, .undef, .undef, .undef, .undef, .undef, .undef, .undef, .undef, .undef, .undef, .undef, .undef, .undef, .undef, .undef, .undef, .undef, .undef, .undef, .undef, .undef, .undef, .undef, .undef, .undef, .undef, .undef, .undef, .undef, .undef, .undef, .undef, .undef, .undef, .undef, .undef, .undef, .undef, .undef, .undef, .undef, .undef, .undef, .undef, .undef, .undef, .undef, .undef, .undef, .undef, .undef, .undef, .undef, .undef, .undef, .undef, .undef, .undef, .undef, .undef, .undef, .undef, .undef, .undef, .undef, .undef, .undef, .undef, .undef, .undef]))
 (K (.normal, [t0, .undef, .undef, t3, t4, t5, t6, t7, .undef, .undef, .undef, .undef, .undef, .undef, .undef, .undef, .undef, .undef, .undef, .undef, .undef, .undef, .undef, .undef, .undef, .undef, .undef, .undef, .undef, .undef, .undef, .undef, .undef, .undef, .undef, .undef, .undef, .undef, .undef, .undef, .undef, .undef, .undef, .undef, .undef, .undef, .undef, .undef, .undef, .undef, .undef, .undef, .undef, .undef, .undef, t55, .undef, .undef, .undef, .undef, .undef, .undef, .undef, .undef, .undef, .undef, .undef, .undef, .undef, .undef, .undef, .undef, .undef, .undef, .undef, .undef, .undef, .undef, .undef, .undef, .undef, .undef, .undef, .undef, .undef, .undef, .undef, .undef, .undef, .undef, .undef, .undef, .undef, .undef, .undef, .undef, .undef, .undef, .undef, .undef, .undef, .undef, .undef, .undef, .undef, .undef, .undef, .undef, .undef, .undef, .undef, .undef, .undef, .undef, .undef, .undef, .undef, .undef, .undef, .undef, .undef, .undef, .undef, .undef, .undef, .undef, .undef, .undef, .undef, .undef, .undef, .undef, .undef, .undef, .undef, .undef, .undef, .undef, .undef, .undef, .undef])))
 (Option.bind (chk t43 fun a0 => Prim.run (.bin .eql) [a0, (.int .i64 2)]) fun t59 =>
  Option.bind (chk t59 fun a0 => Prim.run .mov [a0]) fun t58 =>
  chk t58 fun c0 => isB c0
 (Option.bind (chk t3 fun a0 => Prim.run .load [a0, (.ptr [])]) fun t61 =>
  Option.bind (chk t8 fun a0 => Prim.run .mov [a0]) fun t62 =>
  Option.bind (chk t61 fun a0 => chk t62 fun a1 => Option.bind (Ans T 20 [a0, a1]) fun rs => retV 3 rs) fun t63 =>
  Option.bind (chk t63 fun a0 => Prim.run .mov [a0]) fun t60 =>
  Option.bind (chk t60 fun a0 => Prim.run (.ext 0) [a0]) fun t64 =>
  Option.bind (chk t60 fun a0 => Prim.run (.ext 1) [a0]) fun t65 =>
  Option.bind (chk t60 fun a0 => Prim.run (.ext 2) [a0]) fun t66 =>
  Option.bind (Prim.run .mov [(.agg [(.slice true []), (.bool false)])]) fun t11 =>
  chk t64 fun a0 => chk t11 fun y0 => Option.bind (setP [] y0 a0) fun t11 =>
  Option.bind (chk t65 fun a0 => Prim.run .mov [a0]) fun t12 =>
  Option.bind (chk t66 fun a0 => Prim.run .mov [a0]) fun t13 =>
  Option.bind (chk t13 fun a0 => Prim.run .mov [a0]) fun t67 =>
  Option.bind (chk t67 fun a0 => Prim.run .mov [a0]) fun t68 =>
  Option.bind (grd t68 true (chk t12 fun a0 => Prim.run .mov [a0])) fun t69 =>
  Option.bind (grd t68 true (chk t4 fun a0 => Prim.run .mov [a0])) fun t70 =>
  Option.bind (grd t68 true (chk t69 fun a0 => chk t70 fun a1 => Option.bind (Ans T 25 [a0, a1]) fun rs => retV 1 rs)) fun t71 =>
  Option.bind (grd t68 true (chk t71 fun a0 => Prim.run (.un .not) [a0])) fun t72 =>
  Option.bind (chk t68 fun a0 => isB a0 (chk t72 fun a1 => some a1) (some (.bool false))) fun t73 =>
  chk t73 fun c0 => isB c0
 (Option.bind (Prim.run .mov [(.bool false)]) fun t2 =>
  K (.ret, [.undef, .undef, t2, .undef, .undef, .undef, .undef, .undef, .undef, .undef, .undef, .undef, .undef, .undef, .undef, .undef, .undef, .undef, .undef, .undef, .undef, .undef, .undef, .undef, .undef, .undef, .undef, .undef, .undef, .undef, .undef, .undef, .undef, .undef, .undef, .undef, .undef, .undef, .undef, .undef, .undef, .undef, .undef, .undef, .undef, .undef, .undef, .undef, .undef, .undef, .undef, .undef, .undef, .undef, .undef, .undef, .undef, .undef, .undef, .undef, .undef, .undef, .undef, .undef, .undef, .undef, .undef, .undef, .undef, .undef, .undef, .undef, .undef, .undef, .undef, .undef, .undef, .undef, .undef, .undef, .undef, .undef, .undef, .undef, .undef, .undef, .undef, .undef, .undef, .undef, .undef, .undef, .undef, .undef, .undef, .undef, .undef, .undef, .undef, .undef, .undef, .undef, .undef, .undef, .undef, .undef, .undef, .undef, .undef, .undef, .undef, .undef, .undef, .undef, .undef, .undef, .undef, .undef, .undef, .undef, .undef, .undef, .undef, .undef, .undef, .undef, .undef, .undef, .undef, .undef, .undef, .undef, .undef, .undef, .undef, .undef, .undef, .undef, .undef, .undef, .undef]))
 (Option.bind (chk t11 fun a0 => Prim.run .load [a0, (.ptr [])]) fun t74 =>
  chk t74 fun a0 => chk t3 fun y0 => Option.bind (setP [] y0 a0) fun t3 =>
  Option.bind (chk t13 fun a0 => Prim.run .mov [a0]) fun t75 =>
  chk t75 fun c0 => isB c0
 (Option.bind (chk t5 fun a0 => Prim.run .mov [a0]) fun t76 =>
  Option.bind (chk t76 fun a0 => Prim.run (.bin .add) [a0, (.int .i64 1)]) fun t77 =>
  Option.bind (chk t77 fun a0 => Prim.run .mov [a0]) fun t5 =>
  K (.normal, [t0, .undef, .undef, t3, t4, t5, t6, t7, .undef, .undef, .undef, .undef, .undef, .undef, .undef, .undef, .undef, .undef, .undef, .undef, .undef, .undef, .undef, .undef, .undef, .undef, .undef, .undef, .undef, .undef, .undef, .undef, .undef, .undef, .undef, .undef, .undef, .undef, .undef, .undef, .undef, .undef, .undef, .undef, .undef, .undef, .undef, .undef, .undef, .undef, .undef, .undef, .undef, .undef, .undef, .undef, .undef, .undef, .undef, .undef, .undef, .undef, .undef, .undef, .undef, .undef, .undef, .undef, .undef, t69, t70, t71, t72, .undef, .undef, .undef, .undef, .undef, .undef, .undef, .undef, .undef, .undef, .undef, .undef, .undef, .undef, .undef, .undef, .undef, .undef, .undef, .undef, .undef, .undef, .undef, .undef, .undef, .undef, .undef, .undef, .undef, .undef, .undef, .undef, .undef, .undef, .undef, .undef, .undef, .undef, .undef, .undef, .undef, .undef, .undef, .undef, .undef, .undef, .undef, .undef, .undef, .undef, .undef, .undef, .undef, .undef, .undef, .undef, .undef, .undef, .undef, .undef, .undef, .undef, .undef, .undef, .undef, .undef, .undef, .undef]))
 (K (.normal, [t0, .undef, .undef, t3, t4, t5, t6, t7, .undef, .undef, .undef, .undef, .undef, .undef, .undef, .undef, .undef, .undef, .undef, .undef, .undef, .undef, .undef, .undef, .undef, .undef, .undef, .undef, .undef, .undef, .undef, .undef, .undef, .undef, .undef, .undef, .undef, .undef, .undef, .undef, .undef, .undef, .undef, .undef, .undef, .undef, .undef, .undef, .undef, .undef, .undef, .undef, .undef, .undef, .undef, .undef, .undef, .undef, .undef, .undef, .undef, .undef, .undef, .undef, .undef, .undef, .undef, .undef, .undef, t69, t70, t71, t72, .undef, .undef, t75, .undef, .undef, .undef, .undef, .undef, .undef, .undef, .undef, .undef, .undef, .undef, .undef, .undef, .undef, .undef, .undef, .undef, .undef, .undef, .undef, .undef, .undef, .undef, .undef, .undef, .undef, .undef, .undef, .undef, .undef, .undef, .undef, .undef, .undef, .undef, .undef, .undef, .undef, .undef, .undef, .undef, .undef, .undef, .undef, .undef, .undef, .undef, .undef, .undef, .undef, .undef, .undef, .undef, .undef, .undef, .undef, .undef, .undef, .undef, .undef, .undef, .undef, .undef, .undef, .undef]))))
 (Option.bind (chk t43 fun a0 => Prim.run (.bin .eql) [a0, (.int .i64 3)]) fun t79 =>
  Option.bind (chk t79 fun a0 => Prim.run .mov [a0]) fun t78 =>
  chk t78 fun c0 => isB c0
 (Option.bind (chk t3 fun a0 => Prim.run .load [a0, (.ptr [])]) fun t81 =>
  Option.bind (chk t8 fun a0 => Prim.run .mov [a0]) fun t82 =>
  Option.bind (chk t81 fun a0 => chk t82 fun a1 => Option.bind (Ans T 26 [a0, a1]) fun rs => retV 2 rs) fun t83 =>
  Option.bind (chk t83 fun a0 => Prim.run .mov [a0]) fun t80 =>
  Option.bind (chk t80 fun a0 => Prim.run (.ext 0) [a0]) fun t84 =>
  Option.bind (chk t80 fun a0 => Prim.run (.ext 1) [a0]) fun t85 =>
  Option.bind (Prim.run .mov [(.agg [(.slice true []), (.bool false)])]) fun t14 =>
  chk t84 fun a0 => chk t14 fun y0 => Option.bind (setP [] y0 a0) fun t14 =>
  Option.bind (chk t85 fun a0 => Prim.run .mov [a0]) fun t15 =>
  Option.bind (chk t14 fun a0 => Prim.run .load [a0, (.ptr [])]) fun t86 =>
  Option.bind (chk t6 fun a0 => Prim.run .mov [a0]) fun t87 =>
  Option.bind (chk t87 fun a0 => Prim.run .mov [a0]) fun t88 =>
  Option.bind (grd t88 true (chk t15 fun a0 => Prim.run .mov [a0])) fun t89 =>
  Option.bind (grd t88 true (chk t89 fun a0 => Prim.run (.un .not) [a0])) fun t90 =>
  Option.bind (chk t88 fun a0 => isB a0 (chk t90 fun a1 => some a1) (some (.bool false))) fun t91 =>
  chk t86 fun a0 => chk t3 fun y0 => Option.bind (setP [] y0 a0) fun t3 =>
  Option.bind (chk t91 fun a0 => Prim.run .mov [a0]) fun t6 =>
  K (.normal, [t0, .undef, .undef, t3, t4, t5, t6, t7, .undef, .undef, .undef, .undef, .undef, .undef, .undef, .undef, .undef, .undef, .undef, .undef, .undef, .undef, .undef, .undef, .undef, .undef, .undef, .undef, .undef, .undef, .undef, .undef, .undef, .undef, .undef, .undef, .undef, .undef, .undef, .undef, .undef, .undef, .undef, .undef, .undef, .undef, .undef, .undef, .undef, .undef, .undef, .undef, .undef, .undef, .undef, .undef, .undef, .undef, .undef, .undef, .undef, .undef, .undef, .undef, .undef, .undef, .undef, .undef, .undef, .undef, .undef, .undef, .undef, .undef, .undef, .undef, .undef, .undef, .undef, .undef, .undef, .undef, .undef, .undef, .undef, .undef, .undef, .undef, .undef, t89, t90, .undef, .undef, .undef, .undef, .undef, .undef, .undef, .undef, .undef, .undef, .undef, .undef, .undef, .undef, .undef, .undef, .undef, .undef, .undef, .undef, .undef, .undef, .undef, .undef, .undef, .undef, .undef, .undef, .undef, .undef, .undef, .undef, .undef, .undef, .undef, .undef, .undef, .undef, .undef, .undef, .undef, .undef, .undef, .undef, .undef, .undef, .undef, .undef, .undef, .undef]))
 (Option.bind (chk t43 fun a0 => Prim.run (.bin .eql) [a0, (.int .i64 4)]) fun t93 =>
  Option.bind (chk t93 fun a0 => Prim.run .mov [a0]) fun t92 =>
  chk t92 fun c0 => isB c0
 (Option.bind (chk t3 fun a0 => Prim.run .load [a0, (.ptr [])]) fun t95 =>
  Option.bind (chk t8 fun a0 => Prim.run .mov [a0]) fun t96 =>
  Option.bind (chk t95 fun a0 => chk t96 fun a1 => Option.bind (Ans T 27 [a0, a1]) fun rs => retV 2 rs) fun t97 =>
  Option.bind (chk t97 fun a0 => Prim.run .mov [a0]) fun t94 =>
  Option.bind (chk t94 fun a0 => Prim.run (.ext 0) [a0]) fun t98 =>
  Option.bind (chk t94 fun a0 => Prim.run (.ext 1) [a0]) fun t99 =>
  Option.bind (Prim.run .mov [(.agg [(.slice true []), (.bool false)])]) fun t16 =>
  chk t98 fun a0 => chk t16 fun y0 => Option.bind (setP [] y0 a0) fun t16 =>
  Option.bind (chk t99 fun a0 => Prim.run .mov [a0]) fun t17 =>
  Option.bind (chk t16 fun a0 => Prim.run .load [a0, (.ptr [])]) fun t100 =>
  Option.bind (chk t6 fun a0 => Prim.run .mov [a0]) fun t101 =>
  Option.bind (chk t101 fun a0 => Prim.run .mov [a0]) fun t102 =>
  Option.bind (grd t102 true (chk t17 fun a0 => Prim.run .mov [a0])) fun t103 =>
  Option.bind (grd t102 true (chk t103 fun a0 => Prim.run (.un .not) [a0])) fun t104 =>
  Option.bind (chk t102 fun a0 => isB a0 (chk t104 fun a1 => some a1) (some (.bool false))) fun t105 =>
  chk t100 fun a0 => chk t3 fun y0 => Option.bind (setP [] y0 a0) fun t3 =>
  Option.bind (chk t105 fun a0 => Prim.run .mov [a0]) fun t6 =>
  K (.normal, [t0, .undef, .undef, t3, t4, t5, t6, t7, .undef, .undef, .undef, .undef, .undef, .undef, .undef, .undef, .undef, .undef, .undef, .undef, .undef, .undef, .undef, .undef, .undef, .undef, .undef, .undef, .undef, .undef, .undef, .undef, .undef, .undef, .undef, .undef, .undef, .undef, .undef, .undef, .undef, .undef, .undef, .undef, .undef, .undef, .undef, .undef, .undef, .undef, .undef, .undef, .undef, .undef, .undef, .undef, .undef, .undef, .undef, .undef, .undef, .undef, .undef, .undef, .undef, .undef, .undef, .undef, .undef, .undef, .undef, .undef, .undef, .undef, .undef, .undef, .undef, .undef, .undef, .undef, .undef, .undef, .undef, .undef, .undef, .undef, .undef, .undef, .undef, .undef, .undef, .undef, .undef, .undef, .undef, .undef, .undef, .undef, .undef, .undef, .undef, .undef, .undef, t103, t104, .undef, .undef, .undef, .undef, .undef, .undef, .undef, .undef, .undef, .undef, .undef, .undef, .undef, .undef, .undef, .undef, .undef, .undef, .undef, .undef, .undef, .undef, .undef, .undef, .undef, .undef, .undef, .undef, .undef, .undef, .undef, .undef, .undef, .undef, .undef, .undef]))
 (K (.normal, [t0, .undef, .undef, t3, t4, t5, t6, t7, t8, .undef, .undef, .undef, .undef, .undef, .undef, .undef, .undef, .undef, .undef, .undef, .undef, .undef, .undef, .undef, .undef, .undef, .undef, .undef, .undef, .undef, .undef, .undef, .undef, .undef, .undef, .undef, .undef, .undef, .undef, .undef, .undef, .undef, .undef, .undef, .undef, .undef, .undef, .undef, .undef, .undef, .undef, .undef, .undef, .undef, .undef, .undef, .undef, .undef, .undef, .undef, .undef, .undef, .undef, .undef, .undef, .undef, .undef, .undef, .undef, .undef, .undef, .undef, .undef, .undef, .undef, .undef, .undef, .undef, .undef, .undef, .undef, .undef, .undef, .undef, .undef, .undef, .undef, .undef, .undef, .undef, .undef, .undef, t92, .undef, .undef, .undef, .undef, .undef, .undef, .undef, .undef, .undef, .undef, .undef, .undef, .undef, .undef, .undef, .undef, .undef, .undef, .undef, .undef, .undef, .undef, .undef, .undef, .undef, .undef, .undef, .undef, .undef, .undef, .undef, .undef, .undef, .undef, .undef, .undef, .undef, .undef, .undef, .undef, .undef, .undef, .undef, .undef, .undef, .undef, .undef, .undef]))))) := by kernel_rfl
theorem lB5x3 (t0 t3 t4 t5 t6 t7 t8 t55 t69 t70 t71 t72 t75 t89 t90 t92 t103 t104 : PV) (K : RK) : denK T B5x3 [t0, .undef, .undef, t3, t4, t5, t6, t7, t8, .undef, .undef, .undef, .undef, .undef, .undef, .undef, .undef, .undef, .undef, .undef, .undef, .undef, .undef, .undef, .undef, .undef, .undef, .undef, .undef, .undef, .undef, .undef, .undef, .undef, .undef, .undef, .undef, .undef, .undef, .undef, .undef, .undef, .undef, .undef, .undef, .undef, .undef, .undef, .undef, .undef, .undef, .undef, .undef, .undef, .undef, t55, .undef, .undef, .undef, .undef, .undef, .undef, .undef, .undef, .undef, .undef, .undef, .undef, .undef, t69, t70, t71, t72, .undef, .undef, t75, .undef, .undef, .undef, .undef, .undef, .undef, .undef, .undef, .undef, .undef, .undef, .undef, .undef, t89, t90, .undef, t92, .undef, .undef, .undef, .undef, .undef, .undef, .undef, .undef, .undef, .undef, t103, t104, .undef, .undef, .undef, .undef, .undef, .undef, .undef, .undef, .undef, .undef, .undef, .undef, .undef, .undef, .undef, .undef, .undef, .undef, .undef, .undef, .undef, .undef, .undef, .undef, .undef, .undef, .undef, .undef, .undef, .undef, .undef, .undef, .undef, .undef, .undef, .undef] K =
  Option.bind (chk t7 fun a0 => Prim.run .mov [a0]) fun t27 =>
  Option.bind (chk t27 fun a0 => Prim.run (.bin .add) [a0, (.int .i64 1)]) fun t28 =>
  Option.bind (chk t28 fun a0 => Prim.run .mov [a0]) fun t7 =>
  K (.normal, [t0, .undef, .undef, t3, t4, t5, t6, t7, t8, .undef, .undef, .undef, .undef, .undef, .undef, .undef, .undef, .undef, .undef, .undef, .undef, .undef, .undef, .undef, .undef, .undef, .undef, .undef, .undef, .undef, .undef, .undef, .undef, .undef, .undef, .undef, .undef, .undef, .undef, .undef, .undef, .undef, .undef, .undef, .undef, .undef, .undef, .undef, .undef, .undef, .undef, .undef, .undef, .undef, .undef, t55, .undef, .undef, .undef, .undef, .undef, .undef, .undef, .undef, .undef, .undef, .undef, .undef, .undef, t69, t70, t71, t72, .undef, .undef, t75, .undef, .undef, .undef, .undef, .undef, .undef, .undef, .undef, .undef, .undef, .undef, .undef, .undef, t89, t90, .undef, t92, .undef, .undef, .undef, .undef, .undef, .undef, .undef, .undef, .undef, .undef, t103, t104, .undef, .undef, .undef, .undef, .undef, .undef, .undef, .undef, .undef, .undef, .undef, .undef, .undef, .undef, .undef, .undef, .undef, .undef, .undef, .undef, .undef, .undef, .undef, .undef, .undef, .undef, .undef, .undef, .undef, .undef, .undef, .undef, .undef, .undef, .undef, .undef]) := by kernel_rfl
noncomputable def WL5x2 (t0 t3 t4 t5 t6 t7 : PV) (K : RK) : Option (List PV) := loopK T kL5x2 L5x2 [t0, .undef, .undef, t3, t4, t5, t6, t7, .undef, .undef, .undef, .undef, .undef, .undef, .undef, .undef, .undef, .undef, .undef, .undef, .undef, .undef, .undef, .undef, .undef, .undef, .undef, .undef, .undef, .undef, .undef, .undef, .undef, .undef, .undef, .undef, .undef, .undef, .undef, .undef, .undef, .undef, .undef, .undef, .undef, .undef, .undef, .undef, .undef, .undef, .undef, .undef, .undef, .undef, .undef, .undef, .undef, .undef, .undef, .undef, .undef, .undef, .undef, .undef, .undef, .undef, .undef, .undef, .undef, .undef, .undef, .undef, .undef, .undef, .undef, .undef, .undef, .undef, .undef, .undef, .undef, .undef, .undef, .undef, .undef, .undef, .undef, .undef, .undef, .undef, .undef, .undef, .undef, .undef, .undef, .undef, .undef, .undef, .undef, .undef, .undef, .undef, .undef, .undef, .undef, .undef, .undef, .undef, .undef, .undef, .undef, .undef, .undef, .undef, .undef, .undef, .undef, .undef, .undef, .undef, .undef, .undef, .undef, .undef, .undef, .undef, .undef, .undef, .undef, .undef, .undef, .undef, .undef, .undef, .undef, .undef, .undef, .undef, .undef, .undef, .undef] K
theorem oL5x2 (t0 t3 t4 t5 t6 t7 : PV) (K : RK) {a : List PV} (h : (Option.bind (chk t7 fun a0 => Prim.run .mov [a0]) fun t23 =>
  Option.bind (chk t0 fun a0 => Prim.run .mov [a0]) fun t24 =>
  Option.bind (chk t24 fun a0 => Prim.run .len [a0]) fun t25 =>
  Option.bind (chk t23 fun a0 => chk t25 fun a1 => Prim.run (.bin .lss) [a0, a1]) fun t26 =>
  chk t26 fun c0 => isB c0
 (Option.bind (chk t0 fun a0 => Prim.run .mov [a0]) fun t29 =>
  Option.bind (chk t7 fun a0 => Prim.run .mov [a0]) fun t30 =>
  Option.bind (chk t29 fun a0 => chk t30 fun a1 => Prim.run (.iptr []) [a0, a1]) fun t31 =>
  Option.bind (chk t29 fun a0 => chk t31 fun a1 => Prim.run .load [a0, a1]) fun t32 =>
  Option.bind (chk t32 fun a0 => Prim.run (.bin .shr) [a0, (.int .u64 4)]) fun t33 =>
  Option.bind (Prim.run (.fptr 0) [(.ptr [])]) fun t34 =>
  Option.bind (chk t3 fun a0 => chk t34 fun a1 => Prim.run .load [a0, a1]) fun t35 =>
  Option.bind (chk t35 fun a0 => Prim.run .len [a0]) fun t36 =>
  Option.bind (chk t36 fun a0 => Prim.run (.bin .add) [a0, (.int .i64 1)]) fun t37 =>
  Option.bind (chk t33 fun a0 => chk t37 fun a1 => Option.bind (Ans T 21 [a0, a1]) fun rs => retV 1 rs) fun t38 =>
  Option.bind (chk t38 fun a0 => Prim.run .mov [a0]) fun t8 =>
  Option.bind (chk t0 fun a0 => Prim.run .mov [a0]) fun t39 =>
  Option.bind (chk t7 fun a0 => Prim.run .mov [a0]) fun t40 =>
  Option.bind (chk t39 fun a0 => chk t40 fun a1 => Prim.run (.iptr []) [a0, a1]) fun t41 =>
  Option.bind (chk t39 fun a0 => chk t41 fun a1 => Prim.run .load [a0, a1]) fun t42 =>
  Option.bind (chk t42 fun a0 => Option.bind (Ans T 21 [a0, (.int .i64 6)]) fun rs => retV 1 rs) fun t43 =>
  Option.bind (chk t43 fun a0 => Prim.run (.bin .eql) [a0, (.int .i64 0)]) fun t45 =>
  Option.bind (chk t45 fun a0 => Prim.run .mov [a0]) fun t44 =>
  chk t44 fun c0 => isB c0
 (denK T B5x4 [t0, .undef, .undef, t3, t4, t5, t6, t7, t8, .undef, .undef, .undef, .undef, .undef, .undef, .undef, .undef, .undef, .undef, .undef, .undef, .undef, .undef, .undef, .undef, .undef, .undef, .undef, .undef, .undef, .undef, .undef, .undef, .undef, .undef, .undef, .undef, .undef, .undef, .undef, .undef, .undef, .undef, t43, t44, .undef, .undef, .undef, .undef, .undef, .undef, .undef, .undef, .undef, .undef, .undef, .undef, .undef, .undef, .undef, .undef, .undef, .undef, .undef, .undef, .undef, .undef, .undef, .undef, .undef, .undef, .undef, .undef, .undef, .undef, .undef, .undef, .undef, .undef, .undef, .undef, .undef, .undef, .undef, .undef, .undef, .undef, .undef, .undef, .undef, .undef, .undef, .undef, .undef, .undef, .undef, .undef, .undef, .undef, .undef, .undef, .undef, .undef, .undef, .undef, .undef, .undef, .undef, .undef, .undef, .undef, .undef, .undef, .undef, .undef, .undef, .undef, .undef, .undef, .undef, .undef, .undef, .undef, .undef, .undef, .undef, .undef, .undef, .undef, .undef, .undef, .undef, .undef, .undef, .undef, .undef, .undef, .undef, .undef, .undef, .undef] (blockK 2 (blockK 1 (seqK T B5x3 (againK T kL5x2 L5x2 K)))))
 (Option.bind (chk t43 fun a0 => Prim.run (.bin .eql) [a0, (.int .i64 1)]) fun t46 =>
  Option.bind (chk t46 fun a0 => Prim.run .mov [a0]) fun t44 =>
  denK T B5x4 [t0, .undef, .undef, t3, t4, t5, t6, t7, t8, .undef, .undef, .undef, .undef, .undef, .undef, .undef, .undef, .undef, .undef, .undef, .undef, .undef, .undef, .undef, .undef, .undef, .undef, .undef, .undef, .undef, .undef, .undef, .undef, .undef, .undef, .undef, .undef, .undef, .undef, .undef, .undef, .undef, .undef, t43, t44, .undef, .undef, .undef, .undef, .undef, .undef, .undef, .undef, .undef, .undef, .undef, .undef, .undef, .undef, .undef, .undef, .undef, .undef, .undef, .undef, .undef, .undef, .undef, .undef, .undef, .undef, .undef, .undef, .undef, .undef, .undef, .undef, .undef, .undef, .undef, .undef, .undef, .undef, .undef, .undef, .undef, .undef, .undef, .undef, .undef, .undef, .undef, .undef, .undef, .undef, .undef, .undef, .undef, .undef, .undef, .undef, .undef, .undef, .undef, .undef, .undef, .undef, .undef, .undef, .undef, .undef, .undef, .undef, .undef, .undef, .undef, .undef, .undef, .undef, .undef, .undef, .undef, .undef, .undef, .undef, .undef, .undef, .undef, .undef, .undef, .undef, .undef, .undef, .undef, .undef, .undef, .undef, .undef, .undef, .undef, .undef] (blockK 2 (blockK 1 (seqK T B5x3 (againK T kL5x2 L5x2 K))))))
 (K (.exit 0, [.undef, .undef, .undef, t3, t4, t5, t6, .undef, .undef, .undef, .undef, .undef, .undef, .undef, .undef, .undef, .undef, .undef, .undef, .undef, .undef, .undef, .undef, .undef, .undef, .undef, .undef, .undef, .undef, .undef, .undef, .undef, .undef, .undef, .undef, .undef, .undef, .undef, .undef, .undef, .undef, .undef, .undef, .undef, .undef, .undef, .undef, .undef, .undef, .undef, .undef, .undef, .undef, .undef, .undef, .undef, .undef, .undef, .undef, .undef, .undef, .undef, .undef, .undef, .undef, .undef, .undef, .undef, .undef, .undef, .undef, .undef, .undef, .undef, .undef, .undef, .undef, .undef, .undef, .undef, .undef, .undef, .undef, .undef, .undef, .undef, .undef, .undef, .undef, .undef, .undef, .undef, .undef, .undef, .undef, .undef, .undef, .undef, .undef, .undef, .undef, .undef, .undef, .undef, .undef, .undef, .undef, .undef, .undef, .undef, .undef, .undef, .undef, .undef, .undef, .undef, .undef, .undef, .undef, .undef, .undef, .undef, .undef, .undef, .undef, .undef, .undef, .undef, .undef, .undef, .undef, .undef, .undef, .undef, .undef, .undef, .undef, .undef, .undef, .undef, .undef]))) = some a) : WL5x2 t0 t3 t4 t5 t6 t7 K = some a := loopK_of (Eq.trans (by kernel_rfl) h)
@[simp] theorem aL5x2 (t0 t1 t2 t3 t4 t5 t6 t7 t8 t9 t10 t11 t12 t13 t14 t15 t16 t17 t18 t19 t20 t21 t22 t23 t24 t25 t26 t27 t28 t29 t30 t31 t32 t33 t34 t35 t36 t37 t38 t39 t40 t41 t42 t43 t44 t45 t46 t47 t48 t49 t50 t51 t52 t53 t54 t55 t56 t57 t58 t59 t60 t61 t62 t63 t64 t65 t66 t67 t68 t69 t70 t71 t72 t73 t74 t75 t76 t77 t78 t79 t80 t81 t82 t83 t84 t85 t86 t87 t88 t89 t90 t91 t92 t93 t94 t95 t96 t97 t98 t99 t100 t101 t102 t103 t104 t105 t106 t107 t108 t109 t110 t111 t112 t113 t114 t115 t116 t117 t118 t119 t120 t121 t122 t123 t124 t125 t126 t127 t128 t129 t130 t131 t132 t133 t134 t135 t136 t137 t138 t139 t140 : PV) (K : RK) : againK T kL5x2 L5x2 K (.normal, [t0, t1, t2, t3, t4, t5, t6, t7, t8, t9, t10, t11, t12, t13, t14, t15, t16, t17, t18, t19, t20, t21, t22, t23, t24, t25, t26, t27, t28, t29, t30, t31, t32, t33, t34, t35, t36, t37, t38, t39, t40, t41, t42, t43, t44, t45, t46, t47, t48, t49, t50, t51, t52, t53, t54, t55, t56, t57, t58, t59, t60, t61, t62, t63, t64, t65, t66, t67, t68, t69, t70, t71, t72, t73, t74, t75, t76, t77, t78, t79, t80, t81, t82, t83, t84, t85, t86, t87, t88, t89, t90, t91, t92, t93, t94, t95, t96, t97, t98, t99, t100, t101, t102, t103, t104, t105, t106, t107, t108, t109, t110, t111, t112, t113, t114, t115, t116, t117, t118, t119, t120, t121, t122, t123, t124, t125, t126, t127, t128, t129, t130, t131, t132, t133, t134, t135, t136, t137, t138, t139, t140]) = WL5x2 t0 t3 t4 t5 t6 t7 K := by kernel_rfl
noncomputable def WL5x6 (t3 t4 t5 t6 t18 : PV) (K : RK) : Option (List PV) := loopK T kL5x6 L5x6 [.undef, .undef, .undef, t3, t4, t5, t6, .undef, .undef, .undef, .undef, .undef, .undef, .undef, .undef, .undef, .undef, .undef, t18, .undef, .undef, .undef, .undef, .undef, .undef, .undef, .undef, .undef, .undef, .undef, .undef, .undef, .undef, .undef, .undef, .undef, .undef, .undef, .undef, .undef, .undef, .undef, .undef, .undef, .undef, .undef, .undef, .undef, .undef, .undef, .undef, .undef, .undef, .undef, .undef, .undef, .undef, .undef, .undef, .undef, .undef, .undef, .undef, .undef, .undef, .undef, .undef, .undef, .undef, .undef, .undef, .undef, .undef, .undef, .undef, .undef, .undef, .undef, .undef, .undef, .undef, .undef, .undef, .undef, .undef, .undef, .undef, .undef, .undef, .undef, .undef, .undef, .undef, .undef, .undef, .undef, .undef, .undef, .undef, .undef, .undef, .undef, .undef, .undef, .undef, .undef, .undef, .undef, .undef, .undef, .undef, .undef, .undef, .undef, .undef, .undef, .undef, .undef, .undef, .undef, .undef, .undef, .undef, .undef, .undef, .undef, .undef, .undef, .undef, .undef, .undef, .undef, .undef, .undef, .undef, .undef, .undef, .undef, .undef, .undef, .undef] K
theorem oL5x6 (t3 t4 t5 t6 t18 : PV) (K : RK) {a : List PV} (h : (Option.bind (chk t18 fun a0 => Prim.run .mov [a0]) fun t106 =>
  Option.bind (Prim.run (.fptr 0) [(.ptr [])]) fun t107 =>
  Option.bind (chk t3 fun a0 => chk t107 fun a1 => Prim.run .load [a0, a1]) fun t108 =>
  Option.bind (chk t108 fun a0 => Prim.run .len [a0]) fun t109 =>
  Option.bind (chk t106 fun a0 => chk t109 fun a1 => Prim.run (.bin .lss) [a0, a1]) fun t110 =>
  chk t110 fun c0 => isB c0
 (Option.bind (Prim.run (.fptr 0) [(.ptr [])]) fun t113 =>
  Option.bind (chk t3 fun a0 => chk t113 fun a1 => Prim.run .load [a0, a1]) fun t114 =>
  Option.bind (chk t18 fun a0 => Prim.run .mov [a0]) fun t115 =>
  Option.bind (chk t114 fun a0 => chk t115 fun a1 => Prim.run (.iptr []) [a0, a1]) fun t116 =>
  Option.bind (chk t114 fun a0 => chk t116 fun a1 => Prim.run .load [a0, a1]) fun t117 =>
  Option.bind (chk t4 fun a0 => Prim.run .mov [a0]) fun t118 =>
  Option.bind (chk t117 fun a0 => chk t118 fun a1 => Option.bind (Ans T 25 [a0, a1]) fun rs => retV 1 rs) fun t119 =>
  Option.bind (chk t119 fun a0 => Prim.run (.un .not) [a0]) fun t120 =>
  chk t120 fun c0 => isB c0
 (Option.bind (Prim.run .mov [(.bool false)]) fun t2 =>
  K (.ret, [.undef, .undef, t2, .undef, .undef, .undef, .undef, .undef, .undef, .undef, .undef, .undef, .undef, .undef, .undef, .undef, .undef, .undef, .undef, .undef, .undef, .undef, .undef, .undef, .undef, .undef, .undef, .undef, .undef, .undef, .undef, .undef, .undef, .undef, .undef, .undef, .undef, .undef, .undef, .undef, .undef, .undef, .undef, .undef, .undef, .undef, .undef, .undef, .undef, .undef, .undef, .undef, .undef, .undef, .undef, .undef, .undef, .undef, .undef, .undef, .undef, .undef, .undef, .undef, .undef, .undef, .undef, .undef, .undef, .undef, .undef, .undef, .undef, .undef, .undef, .undef, .undef, .undef, .undef, .undef, .undef, .undef, .undef, .undef, .undef, .undef, .undef, .undef, .undef, .undef, .undef, .undef, .undef, .undef, .undef, .undef, .undef, .undef, .undef, .undef, .undef, .undef, .undef, .undef, .undef, .undef, .undef, .undef, .undef, .undef, .undef, .undef, .undef, .undef, .undef, .undef, .undef, .undef, .undef, .undef, .undef, .undef, .undef, .undef, .undef, .undef, .undef, .undef, .undef, .undef, .undef, .undef, .undef, .undef, .undef, .undef, .undef, .undef, .undef, .undef, .undef]))
 (Option.bind (chk t18 fun a0 => Prim.run .mov [a0]) fun t111 =>
  Option.bind (chk t111 fun a0 => Prim.run (.bin .add) [a0, (.int .i64 1)]) fun t112 =>
  Option.bind (chk t112 fun a0 => Prim.run .mov [a0]) fun t18 =>
  WL5x6 t3 t4 t5 t6 t18 K))
 (K (.exit 3, [.undef, .undef, .undef, t3, t4, t5, t6, .undef, .undef, .undef, .undef, .undef, .undef, .undef, .undef, .undef, .undef, .undef, .undef, .undef, .undef, .undef, .undef, .undef, .undef, .undef, .undef, .undef, .undef, .undef, .undef, .undef, .undef, .undef, .undef, .undef, .undef, .undef, .undef, .undef, .undef, .undef, .undef, .undef, .undef, .undef, .undef, .undef, .undef, .undef, .undef, .undef, .undef, .undef, .undef, .undef, .undef, .undef, .undef, .undef, .undef, .undef, .undef, .undef, .undef, .undef, .undef, .undef, .undef, .undef, .undef, .undef, .undef, .undef, .undef, .undef, .undef, .undef, .undef, .undef, .undef, .undef, .undef, .undef, .undef, .undef, .undef, .undef, .undef, .undef, .undef, .undef, .undef, .undef, .undef, .undef, .undef, .undef, .undef, .undef, .undef, .undef, .undef, .undef, .undef, .undef, .undef, .undef, .undef, .undef, .undef, .undef, .undef, .undef, .undef, .undef, .undef, .undef, .undef, .undef, .undef, .undef, .undef, .undef, .undef, .undef, .undef, .undef, .undef, .undef, .undef, .undef, .undef, .undef, .undef, .undef, .undef, .undef, .undef, .undef, .undef]))) = some a) : WL5x6 t3 t4 t5 t6 t18 K = some a := loopK_of (Eq.trans (by kernel_rfl) h)
@[simp] theorem aL5x6 (t0 t1 t2 t3 t4 t5 t6 t7 t8 t9 t10 t11 t12 t13 t14 t15 t16 t17 t18 t19 t20 t21 t22 t23 t24 t25 t26 t27 t28 t29 t30 t31 t32 t33 t34 t35 t36 t37 t38 t39 t40 t41 t42 t43 t44 t45 t46 t47 t48 t49 t50 t51 t52 t53 t54 t55 t56 t57 t58 t59 t60 t61 t62 t63 t64 t65 t66 t67 t68 t69 t70 t71 t72 t73 t74 t75 t76 t77 t78 t79 t80 t81 t82 t83 t84 t85 t86 t87 t88 t89 t90 t91 t92 t93 t94 t95 t96 t97 t98 t99 t100 t101 t102 t103 t104 t105 t106 t107 t108 t109 t110 t111 t112 t113 t114 t115 t116 t117 t118 t119 t120 t121 t122 t123 t124 t125 t126 t127 t128 t129 t130 t131 t132 t133 t134 t135 t136 t137 t138 t139 t140 : PV) (K : RK) : againK T kL5x6 L5x6 K (.normal, [t0, t1, t2, t3, t4, t5, t6, t7, t8, t9, t10, t11, t12, t13, t14, t15, t16, t17, t18, t19, t20, t21, t22, t23, t24, t25, t26, t27, t28, t29, t30, t31, t32, t33, t34, t35, t36, t37, t38, t39, t40, t41, t42, t43, t44, t45, t46, t47, t48, t49, t50, t51, t52, t53, t54, t55, t56, t57, t58, t59, t60, t61, t62, t63, t64, t65, t66, t67, t68, t69, t70, t71, t72, t73, t74, t75, t76, t77, t78, t79, t80, t81, t82, t83, t84, t85, t86, t87, t88, t89, t90, t91, t92, t93, t94, t95, t96, t97, t98, t99, t100, t101, t102, t103, t104, t105, t106, t107, t108, t109, t110, t111, t112, t113, t114, t115, t116, t117, t118, t119, t120, t121, t122, t123, t124, t125, t126, t127, t128, t129, t130, t131, t132, t133, t134, t135, t136, t137, t138, t139, t140]) = WL5x6 t3 t4 t5 t6 t18 K := by kernel_rfl
theorem lB5x5 (t3 t4 t5 t6 : PV) (K : RK) : denK T B5x5 [.undef, .undef, .undef, t3, t4, t5, t6, .undef, .undef, .undef, .undef, .undef, .undef, .undef, .undef, .undef, .undef, .undef, .undef, .undef, .undef, .undef, .undef, .undef, .undef, .undef, .undef, .undef, .undef, .undef, .undef, .undef, .undef, .undef, .undef, .undef, .undef, .undef, .undef, .undef, .undef, .undef, .undef, .undef, .undef, .undef, .undef, .undef, .undef, .undef, .undef, .undef, .undef, .undef, .undef, .undef, .undef, .undef, .undef, .undef, .undef, .undef, .undef, .undef, .undef, .undef, .undef, .undef, .undef, .undef, .undef, .undef, .undef, .undef, .undef, .undef, .undef, .undef, .undef, .undef, .undef, .undef, .undef, .undef, .undef, .undef, .undef, .undef, .undef, .undef, .undef, .undef, .undef, .undef, .undef, .undef, .undef, .undef, .undef, .undef, .undef, .undef, .undef, .undef, .undef, .undef, .undef, .undef, .undef, .undef, .undef, .undef, .undef, .undef, .undef, .undef, .undef, .undef, .undef, .undef, .undef, .undef, .undef, .undef, .undef, .undef, .undef, .undef, .undef, .undef, .undef, .undef, .undef, .undef, .undef, .undef, .undef, .undef, .undef, .undef, .undef] K =
  Option.bind (chk t6 fun a0 => Prim.run .mov [a0]) fun t121 =>
  Option.bind (chk t121 fun a0 => Prim.run (.un .not) [a0]) fun t122 =>
  Option.bind (chk t122 fun a0 => Prim.run .mov [a0]) fun t123 =>
  Option.bind (grd t123 false (chk t5 fun a0 => Prim.run .mov [a0])) fun t124 =>
  Option.bind (grd t123 false (Prim.run (.fptr 0) [(.ptr [])])) fun t125 =>
  Option.bind (grd t123 false (chk t3 fun a0 => chk t125 fun a1 => Prim.run .load [a0, a1])) fun t126 =>
  Option.bind (grd t123 false (chk t126 fun a0 => Prim.run .len [a0])) fun t127 =>
  Option.bind (grd t123 false (chk t124 fun a0 => chk t127 fun a1 => Prim.run (.bin .add) [a0, a1])) fun t128 =>
  Option.bind (grd t123 false (chk t4 fun a0 => Prim.run .mov [a0])) fun t129 =>
  Option.bind (grd t123 false (chk t128 fun a0 => chk t129 fun a1 => Prim.run (.bin .eql) [a0, a1])) fun t130 =>
  Option.bind (chk t123 fun a0 => isB a0 (some (.bool true)) (chk t130 fun a1 => some a1)) fun t131 =>
  Option.bind (chk t131 fun a0 => Prim.run .mov [a0]) fun t132 =>
  Option.bind (grd t132 true (Prim.run (.fptr 0) [(.ptr [])])) fun t133 =>
  Option.bind (grd t132 true (chk t3 fun a0 => chk t133 fun a1 => Prim.run .load [a0, a1])) fun t134 =>
  Option.bind (grd t132 true (chk t134 fun a0 => Prim.run .len [a0])) fun t135 =>
  Option.bind (grd t132 true (chk t135 fun a0 => Prim.run (.bin .leq) [a0, (.int .i64 24)])) fun t136 =>
  Option.bind (chk t132 fun a0 => isB a0 (chk t136 fun a1 => some a1) (some (.bool false))) fun t137 =>
  Option.bind (chk t137 fun a0 => Prim.run .mov [a0]) fun t138 =>
  Option.bind (grd t138 true (Option.bind (Ans T 17 []) fun rs => retV 1 rs)) fun t139 =>
  Option.bind (chk t138 fun a0 => isB a0 (chk t139 fun a1 => some a1) (some (.bool false))) fun t140 =>
  Option.bind (chk t140 fun a0 => Prim.run .mov [a0]) fun t2 =>
  K (.ret, [.undef, .undef, t2, .undef, .undef, .undef, .undef, .undef, .undef, .undef, .undef, .undef, .undef, .undef, .undef, .undef, .undef, .undef, .undef, .undef, .undef, .undef, .undef, .undef, .undef, .undef, .undef, .undef, .undef, .undef, .undef, .undef, .undef, .undef, .undef, .undef, .undef, .undef, .undef, .undef, .undef, .undef, .undef, .undef, .undef, .undef, .undef, .undef, .undef, .undef, .undef, .undef, .undef, .undef, .undef, .undef, .undef, .undef, .undef, .undef, .undef, .undef, .undef, .undef, .undef, .undef, .undef, .undef, .undef, .undef, .undef, .undef, .undef, .undef, .undef, .undef, .undef, .undef, .undef, .undef, .undef, .undef, .undef, .undef, .undef, .undef, .undef, .undef, .undef, .undef, .undef, .undef, .undef, .undef, .undef, .undef, .undef, .undef, .undef, .undef, .undef, .undef, .undef, .undef, .undef, .undef, .undef, .undef, .undef, .undef, .undef, .undef, .undef, .undef, .undef, .undef, .undef, .undef, .undef, .undef, .undef, .undef, .undef, .undef, .undef, .undef, .undef, .undef, .undef, .undef, .undef, .undef, .undef, .undef, .undef, .undef, .undef, .undef, .undef, .undef, .undef]) := by kernel_rfl
theorem lB5x1 (t3 t4 t5 t6 : PV) (K : RK) : denK T B5x1 [.undef, .undef, .undef, t3, t4, t5, t6, .undef, .undef, .undef, .undef, .undef, .undef, .undef, .undef, .undef, .undef, .undef, .undef, .undef, .undef, .undef, .undef, .undef, .undef, .undef, .undef, .undef, .undef, .undef, .undef, .undef, .undef, .undef, .undef, .undef, .undef, .undef, .undef, .undef, .undef, .undef, .undef, .undef, .undef, .undef, .undef, .undef, .undef, .undef, .undef, .undef, .undef, .undef, .undef, .undef, .undef, .undef, .undef, .undef, .undef, .undef, .undef, .undef, .undef, .undef, .undef, .undef, .undef, .undef, .undef, .undef, .undef, .undef, .undef, .undef, .undef, .undef, .undef, .undef, .undef, .undef, .undef, .undef, .undef, .undef, .undef, .undef, .undef, .undef, .undef, .undef, .undef, .undef, .undef, .undef, .undef, .undef, .undef, .undef, .undef, .undef, .undef, .undef, .undef, .undef, .undef, .undef, .undef, .undef, .undef, .undef, .undef, .undef, .undef, .undef, .undef, .undef, .undef, .undef, .undef, .undef, .undef, .undef, .undef, .undef, .undef, .undef, .undef, .undef, .undef, .undef, .undef, .undef, .undef, .undef, .undef, .undef, .undef, .undef, .undef] K =
  Option.bind (Prim.run .mov [(.int .i64 0)]) fun t18 =>
  WL5x6 t3 t4 t5 t6 t18 (blockK 3 (seqK T B5x5 K)) := by kernel_rfl
theorem f5 (t0 : PV) {rs : List PV} (h : (Option.bind (Prim.run .mov [(.bool false)]) fun t2 =>
  Option.bind (chk t0 fun a0 => Prim.run .mov [a0]) fun t19 =>
  Option.bind (chk t19 fun a0 => Prim.run .len [a0]) fun t20 =>
  Option.bind (chk t20 fun a0 => Prim.run (.bin .gtr) [a0, (.int .i64 60)]) fun t21 =>
  chk t21 fun c0 => isB c0
 (Option.bind (Option.bind (Ans T 17 []) fun rs => retV 1 rs) fun t22 =>
  Option.bind (chk t22 fun a0 => Prim.run .mov [a0]) fun t2 =>
  allDef [t2])
 (Option.bind (Prim.run .mov [(.agg [(.slice true []), (.bool false)])]) fun t3 =>
  Option.bind (Prim.run .mov [(.int .i64 0)]) fun t4 =>
  Option.bind (Prim.run .mov [(.int .i64 0)]) fun t5 =>
  Option.bind (Prim.run .mov [(.bool true)]) fun t6 =>
  Option.bind (Prim.run .mov [(.int .i64 0)]) fun t7 =>
  WL5x2 t0 t3 t4 t5 t6 t7 (blockK 0 (seqK T B5x1 (endK [2]))))) = some rs) : Ans T 5 [t0] = some rs := call_of (T := T) c5 (Eq.trans (by kernel_rfl) h)
/-! vmfleet/vmfleetlaw23.awake -/
theorem f17 {rs : List PV} (h : (Option.bind (Prim.run .mov [(.bool false)]) fun t0 =>
  Option.bind (Prim.run (.build [(.slice true []), (.bool false)] []) []) fun t9 =>
  Option.bind (chk t9 fun a0 => Option.bind (Ans T 19 [a0, (.str [97])]) fun rs => retV 2 rs) fun t10 =>
  Option.bind (chk t10 fun a0 => Prim.run .mov [a0]) fun t8 =>
  Option.bind (chk t8 fun a0 => Prim.run (.ext 0) [a0]) fun t11 =>
  Option.bind (chk t8 fun a0 => Prim.run (.ext 1) [a0]) fun t12 =>
  Option.bind (Prim.run .mov [(.agg [(.slice true []), (.bool false)])]) fun t1 =>
  chk t11 fun a0 => chk t1 fun y0 => Option.bind (setP [] y0 a0) fun t1 =>
  Option.bind (chk t12 fun a0 => Prim.run .mov [a0]) fun t2 =>
  Option.bind (chk t1 fun a0 => Prim.run .load [a0, (.ptr [])]) fun t14 =>
  Option.bind (chk t14 fun a0 => Option.bind (Ans T 20 [a0, (.int .i64 0)]) fun rs => retV 3 rs) fun t15 =>
  Option.bind (chk t15 fun a0 => Prim.run .mov [a0]) fun t13 =>
  Option.bind (chk t13 fun a0 => Prim.run (.ext 0) [a0]) fun t16 =>
  Option.bind (chk t13 fun a0 => Prim.run (.ext 1) [a0]) fun t17 =>
  Option.bind (chk t13 fun a0 => Prim.run (.ext 2) [a0]) fun t18 =>
  Option.bind (Prim.run .mov [(.agg [(.slice true []), (.bool false)])]) fun t3 =>
  chk t16 fun a0 => chk t3 fun y0 => Option.bind (setP [] y0 a0) fun t3 =>
  Option.bind (chk t17 fun a0 => Prim.run .mov [a0]) fun t4 =>
  Option.bind (chk t18 fun a0 => Prim.run .mov [a0]) fun t5 =>
  Option.bind (chk t1 fun a0 => Prim.run .load [a0, (.ptr [])]) fun t20 =>
  Option.bind (chk t20 fun a0 => Option.bind (Ans T 18 [a0, (.bool true)]) fun rs => retV 1 rs) fun t21 =>
  Option.bind (chk t21 fun a0 => Option.bind (Ans T 19 [a0, (.str [98])]) fun rs => retV 2 rs) fun t22 =>
  Option.bind (chk t22 fun a0 => Prim.run .mov [a0]) fun t19 =>
  Option.bind (chk t19 fun a0 => Prim.run (.ext 0) [a0]) fun t23 =>
  Option.bind (chk t19 fun a0 => Prim.run (.ext 1) [a0]) fun t24 =>
  Option.bind (Prim.run .mov [(.agg [(.slice true []), (.bool false)])]) fun t6 =>
  chk t23 fun a0 => chk t6 fun y0 => Option.bind (setP [] y0 a0) fun t6 =>
  Option.bind (chk t24 fun a0 => Prim.run .mov [a0]) fun t7 =>
  Option.bind (chk t2 fun a0 => Prim.run .mov [a0]) fun t25 =>
  Option.bind (chk t25 fun a0 => Prim.run .mov [a0]) fun t26 =>
  Option.bind (grd t26 true (chk t5 fun a0 => Prim.run .mov [a0])) fun t27 =>
  Option.bind (chk t26 fun a0 => isB a0 (chk t27 fun a1 => some a1) (some (.bool false))) fun t28 =>
  Option.bind (chk t28 fun a0 => Prim.run .mov [a0]) fun t29 =>
  Option.bind (grd t29 true (chk t4 fun a0 => Prim.run .mov [a0])) fun t30 =>
  Option.bind (grd t29 true (chk t30 fun a0 => Prim.run (.bin .eql) [a0, (.str [97])])) fun t31 =>
  Option.bind (chk t29 fun a0 => isB a0 (chk t31 fun a1 => some a1) (some (.bool false))) fun t32 =>
  Option.bind (chk t32 fun a0 => Prim.run .mov [a0]) fun t33 =>
  Option.bind (grd t33 true (Prim.run (.fptr 0) [(.ptr [])])) fun t34 =>
  Option.bind (grd t33 true (chk t3 fun a0 => chk t34 fun a1 => Prim.run .load [a0, a1])) fun t35 =>
  Option.bind (grd t33 true (chk t35 fun a0 => Prim.run .len [a0])) fun t36 =>
  Option.bind (grd t33 true (chk t36 fun a0 => Prim.run (.bin .eql) [a0, (.int .i64 0)])) fun t37 =>
  Option.bind (chk t33 fun a0 => isB a0 (chk t37 fun a1 => some a1) (some (.bool false))) fun t38 =>
  Option.bind (chk t38 fun a0 => Prim.run .mov [a0]) fun t39 =>
  Option.bind (grd t39 true (chk t7 fun a0 => Prim.run .mov [a0])) fun t40 =>
  Option.bind (grd t39 true (chk t40 fun a0 => Prim.run (.un .not) [a0])) fun t41 =>
  Option.bind (chk t39 fun a0 => isB a0 (chk t41 fun a1 => some a1) (some (.bool false))) fun t42 =>
  Option.bind (chk t42 fun a0 => Prim.run .mov [a0]) fun t43 =>
  Option.bind (grd t43 true (chk t1 fun a0 => Prim.run .load [a0, (.ptr [])])) fun t44 =>
  Option.bind (grd t43 true (chk t44 fun a0 => Option.bind (Ans T 18 [a0, (.bool true)]) fun rs => retV 1 rs)) fun t45 =>
  Option.bind (grd t43 true (chk t45 fun a0 => Prim.run (.field 0) [a0])) fun t46 =>
  Option.bind (grd t43 true (chk t46 fun a0 => Prim.run .len [a0])) fun t47 =>
  Option.bind (grd t43 true (chk t47 fun a0 => Prim.run (.bin .eql) [a0, (.int .i64 0)])) fun t48 =>
  Option.bind (chk t43 fun a0 => isB a0 (chk t48 fun a1 => some a1) (some (.bool false))) fun t49 =>
  Option.bind (chk t49 fun a0 => Prim.run .mov [a0]) fun t0 =>
  allDef [t0]) = some rs) : Ans T 17 [] = some rs := call_of (T := T) c17 (Eq.trans (by kernel_rfl) h)
/-! vmfleet/link.SetCut -/
theorem f18 (t0 t1 : PV) {rs : List PV} (h : (Option.bind (chk t0 fun a0 => Prim.run .mov [a0]) fun t2 =>
  Option.bind (Prim.run .mov [(.agg [(.slice true []), (.bool false)])]) fun t4 =>
  Option.bind (chk t2 fun a0 => Prim.run .load [a0, (.ptr [])]) fun t5 =>
  Option.bind (chk t5 fun a0 => Option.bind (Ans T 59 [a0]) fun rs => retV 1 rs) fun t6 =>
  chk t6 fun a0 => chk t2 fun y0 => Option.bind (setP [] y0 a0) fun t2 =>
  Option.bind (chk t1 fun a0 => Prim.run .mov [a0]) fun t7 =>
  Option.bind (Prim.run (.fptr 1) [(.ptr [])]) fun t8 =>
  chk t7 fun a0 => asPath t8 fun q0 => chk t2 fun y0 => Option.bind (setP q0 y0 a0) fun t2 =>
  Option.bind (chk t1 fun a0 => Prim.run .mov [a0]) fun t9 =>
  chk t9 fun c0 => isB c0
 (Option.bind (Prim.run (.fptr 0) [(.ptr [])]) fun t10 =>
  asPath t10 fun q0 => chk t2 fun y0 => Option.bind (setP q0 y0 (.slice true [])) fun t2 =>
  Option.bind (chk t2 fun a0 => Prim.run .load [a0, (.ptr [])]) fun t11 =>
  chk t11 fun a0 => chk t4 fun y0 => Option.bind (setP [] y0 a0) fun t4 =>
  allDef [t4])
 (Option.bind (chk t2 fun a0 => Prim.run .load [a0, (.ptr [])]) fun t11 =>
  chk t11 fun a0 => chk t4 fun y0 => Option.bind (setP [] y0 a0) fun t4 =>
  allDef [t4])) = some rs) : Ans T 18 [t0, t1] = some rs := call_of (T := T) c18 (Eq.trans (by kernel_rfl) h)
/-! vmfleet/link.Send -/
theorem f19 (t0 t1 : PV) {rs : List PV} (h : (Option.bind (chk t0 fun a0 => Prim.run .mov [a0]) fun t2 =>
  Option.bind (Prim.run .mov [(.agg [(.slice true []), (.bool false)])]) fun t4 =>
  Option.bind (Prim.run .mov [(.bool false)]) fun t5 =>
  Option.bind (chk t2 fun a0 => Prim.run .load [a0, (.ptr [])]) fun t6 =>
  Option.bind (chk t6 fun a0 => Option.bind (Ans T 59 [a0]) fun rs => retV 1 rs) fun t7 =>
  chk t7 fun a0 => chk t2 fun y0 => Option.bind (setP [] y0 a0) fun t2 =>
  Option.bind (chk t2 fun a0 => Prim.run .load [a0, (.ptr [])]) fun t8 =>
  Option.bind (chk t8 fun a0 => Option.bind (Ans T 60 [a0]) fun rs => retV 1 rs) fun t9 =>
  Option.bind (chk t9 fun a0 => Prim.run (.un .not) [a0]) fun t10 =>
  chk t10 fun c0 => isB c0
 (Option.bind (chk t2 fun a0 => Prim.run .load [a0, (.ptr [])]) fun t11 =>
  chk t11 fun a0 => chk t4 fun y0 => Option.bind (setP [] y0 a0) fun t4 =>
  Option.bind (Prim.run .mov [(.bool false)]) fun t5 =>
  allDef [t4, t5])
 (Option.bind (Prim.run (.fptr 0) [(.ptr [])]) fun t12 =>
  Option.bind (chk t2 fun a0 => chk t12 fun a1 => Prim.run .load [a0, a1]) fun t13 =>
  Option.bind (chk t1 fun a0 => Prim.run .mov [a0]) fun t14 =>
  Option.bind (chk t14 fun a0 => Prim.run (.buildSl (.str []) 1 [0]) [a0]) fun t15 =>
  Option.bind (chk t13 fun a0 => chk t15 fun a1 => Prim.run (.app 16) [a0, a1]) fun t16 =>
  Option.bind (Prim.run (.fptr 0) [(.ptr [])]) fun t17 =>
  chk t16 fun a0 => asPath t17 fun q0 => chk t2 fun y0 => Option.bind (setP q0 y0 a0) fun t2 =>
  Option.bind (chk t2 fun a0 => Prim.run .load [a0, (.ptr [])]) fun t18 =>
  chk t18 fun a0 => chk t4 fun y0 => Option.bind (setP [] y0 a0) fun t4 =>
  Option.bind (Prim.run .mov [(.bool true)]) fun t5 =>
  allDef [t4, t5])) = some rs) : Ans T 19 [t0, t1] = some rs := call_of (T := T) c19 (Eq.trans (by kernel_rfl) h)
/-! vmfleet/link.Deliver -/
theorem f20 (t0 t1 : PV) {rs : List PV} (h : (Option.bind (chk t0 fun a0 => Prim.run .mov [a0]) fun t2 =>
  Option.bind (Prim.run .mov [(.agg [(.slice true []), (.bool false)])]) fun t4 =>
  Option.bind (Prim.run .mov [(.str [])]) fun t5 =>
  Option.bind (Prim.run .mov [(.bool false)]) fun t6 =>
  Option.bind (chk t2 fun a0 => Prim.run .load [a0, (.ptr [])]) fun t8 =>
  Option.bind (chk t8 fun a0 => Option.bind (Ans T 59 [a0]) fun rs => retV 1 rs) fun t9 =>
  chk t9 fun a0 => chk t2 fun y0 => Option.bind (setP [] y0 a0) fun t2 =>
  Option.bind (Prim.run (.fptr 1) [(.ptr [])]) fun t10 =>
  Option.bind (chk t2 fun a0 => chk t10 fun a1 => Prim.run .load [a0, a1]) fun t11 =>
  Option.bind (chk t11 fun a0 => Prim.run .mov [a0]) fun t12 =>
  Option.bind (grd t12 false (chk t2 fun a0 => Prim.run .load [a0, (.ptr [])])) fun t13 =>
  Option.bind (grd t12 false (chk t1 fun a0 => Prim.run .mov [a0])) fun t14 =>
  Option.bind (grd t12 false (chk t13 fun a0 => chk t14 fun a1 => Option.bind (Ans T 61 [a0, a1]) fun rs => retV 1 rs)) fun t15 =>
  Option.bind (grd t12 false (chk t15 fun a0 => Prim.run (.un .not) [a0])) fun t16 =>
  Option.bind (chk t12 fun a0 => isB a0 (some (.bool true)) (chk t16 fun a1 => some a1)) fun t17 =>
  chk t17 fun c0 => isB c0
 (Option.bind (chk t2 fun a0 => Prim.run .load [a0, (.ptr [])]) fun t18 =>
  chk t18 fun a0 => chk t4 fun y0 => Option.bind (setP [] y0 a0) fun t4 =>
  Option.bind (Prim.run .mov [(.str [])]) fun t5 =>
  Option.bind (Prim.run .mov [(.bool false)]) fun t6 =>
  allDef [t4, t5, t6])
 (Option.bind (Prim.run (.fptr 0) [(.ptr [])]) fun t19 =>
  Option.bind (chk t2 fun a0 => chk t19 fun a1 => Prim.run .load [a0, a1]) fun t20 =>
  Option.bind (chk t1 fun a0 => Prim.run .mov [a0]) fun t21 =>
  Option.bind (chk t20 fun a0 => chk t21 fun a1 => Prim.run (.iptr [0]) [a0, a1]) fun t22 =>
  Option.bind (chk t2 fun a0 => chk t22 fun a1 => Prim.run .load [a0, a1]) fun t23 =>
  Option.bind (chk t23 fun a0 => Prim.run .mov [a0]) fun t7 =>
  Option.bind (chk t2 fun a0 => Prim.run .load [a0, (.ptr [])]) fun t24 =>
  Option.bind (chk t1 fun a0 => Prim.run .mov [a0]) fun t25 =>
  Option.bind (chk t24 fun a0 => chk t25 fun a1 => Option.bind (Ans T 62 [a0, a1]) fun rs => retV 1 rs) fun t26 =>
  Option.bind (chk t7 fun a0 => Prim.run .mov [a0]) fun t27 =>
  chk t26 fun a0 => chk t4 fun y0 => Option.bind (setP [] y0 a0) fun t4 =>
  Option.bind (chk t27 fun a0 => Prim.run .mov [a0]) fun t5 =>
  Option.bind (Prim.run .mov [(.bool true)]) fun t6 =>
  allDef [t4, t5, t6])) = some rs) : Ans T 20 [t0, t1] = some rs := call_of (T := T) c20 (Eq.trans (by kernel_rfl) h)
/-! vmfleet/vmfleetmake.Round -/
theorem f21 (t0 t1 : PV) {rs : List PV} (h : (Option.bind (Prim.run .mov [(.int .i64 0)]) fun t4 =>
  Option.bind (chk t0 fun a0 => Prim.run .mov [a0]) fun t6 =>
  Option.bind (chk t1 fun a0 => Prim.run .mov [a0]) fun t7 =>
  Option.bind (chk t6 fun a0 => chk t7 fun a1 => Prim.run (.bin .rem) [a0, a1]) fun t8 =>
  Option.bind (chk t8 fun a0 => Prim.run .mov [a0]) fun t5 =>
  Option.bind (chk t5 fun a0 => Prim.run .mov [a0]) fun t9 =>
  Option.bind (chk t9 fun a0 => Prim.run (.bin .lss) [a0, (.int .i64 0)]) fun t10 =>
  chk t10 fun c0 => isB c0
 (Option.bind (chk t5 fun a0 => Prim.run .mov [a0]) fun t11 =>
  Option.bind (chk t1 fun a0 => Prim.run .mov [a0]) fun t12 =>
  Option.bind (chk t11 fun a0 => chk t12 fun a1 => Prim.run (.bin .add) [a0, a1]) fun t13 =>
  Option.bind (chk t13 fun a0 => Prim.run .mov [a0]) fun t5 =>
  Option.bind (chk t5 fun a0 => Prim.run .mov [a0]) fun t14 =>
  Option.bind (chk t14 fun a0 => Prim.run .mov [a0]) fun t4 =>
  allDef [t4])
 (Option.bind (chk t5 fun a0 => Prim.run .mov [a0]) fun t14 =>
  Option.bind (chk t14 fun a0 => Prim.run .mov [a0]) fun t4 =>
  allDef [t4])) = some rs) : Ans T 21 [t0, t1] = some rs := call_of (T := T) c21 (Eq.trans (by kernel_rfl) h)
/-! vmfleet/vmfleetlaw23.name -/
theorem f24 (t0 : PV) {rs : List PV} (h : (Option.bind (Prim.run .mov [(.str [])]) fun t2 =>
  Option.bind (chk t0 fun a0 => Prim.run .mov [a0]) fun t3 =>
  Option.bind (chk t3 fun a1 => Prim.run (.bin .add) [(.int .i64 65), a1]) fun t4 =>
  Option.bind (chk t4 fun a0 => Prim.run (.toInt .u8) [a0]) fun t5 =>
  Option.bind (chk t5 fun a0 => Prim.run (.buildSl (.int .u8 0) 1 [0]) [a0]) fun t6 =>
  Option.bind (chk t6 fun a0 => Prim.run .toStr [a0]) fun t7 =>
  Option.bind (chk t7 fun a1 => Prim.run (.bin .add) [(.str [112]), a1]) fun t8 =>
  Option.bind (chk t8 fun a0 => Prim.run .mov [a0]) fun t2 =>
  allDef [t2]) = some rs) : Ans T 24 [t0] = some rs := call_of (T := T) c24 (Eq.trans (by kernel_rfl) h)
/-! vmfleet/vmfleetlaw23.known -/
noncomputable def WL25x2 (t0 t1 t5 : PV) (K : RK) : Option (List PV) := loopK T kL25x2 L25x2 [t0, t1, .undef, .undef, .undef, t5, .undef, .undef, .undef, .undef, .undef, .undef, .undef, .undef, .undef] K
theorem oL25x2 (t0 t1 t5 : PV) (K : RK) {a : List PV} (h : (Option.bind (chk t5 fun a0 => Prim.run .mov [a0]) fun t6 =>
  Option.bind (chk t1 fun a0 => Prim.run .mov [a0]) fun t7 =>
  Option.bind (chk t6 fun a0 => chk t7 fun a1 => Prim.run (.bin .lss) [a0, a1]) fun t8 =>
  chk t8 fun c0 => isB c0
 (Option.bind (chk t0 fun a0 => Prim.run .mov [a0]) fun t11 =>
  Option.bind (chk t5 fun a0 => Prim.run .mov [a0]) fun t12 =>
  Option.bind (chk t12 fun a0 => Option.bind (Ans T 24 [a0]) fun rs => retV 1 rs) fun t13 =>
  Option.bind (chk t11 fun a0 => chk t13 fun a1 => Prim.run (.bin .eql) [a0, a1]) fun t14 =>
  chk t14 fun c0 => isB c0
 (Option.bind (Prim.run .mov [(.bool true)]) fun t4 =>
  K (.ret, [.undef, .undef, .undef, .undef, t4, .undef, .undef, .undef, .undef, .undef, .undef, .undef, .undef, .undef, .undef]))
 (Option.bind (chk t5 fun a0 => Prim.run .mov [a0]) fun t9 =>
  Option.bind (chk t9 fun a0 => Prim.run (.bin .add) [a0, (.int .i64 1)]) fun t10 =>
  Option.bind (chk t10 fun a0 => Prim.run .mov [a0]) fun t5 =>
  WL25x2 t0 t1 t5 K))
 (K (.exit 0, [.undef, .undef, .undef, .undef, .undef, .undef, .undef, .undef, .undef, .undef, .undef, .undef, .undef, .undef, .undef]))) = some a) : WL25x2 t0 t1 t5 K = some a := loopK_of (Eq.trans (by kernel_rfl) h)
@[simp] theorem aL25x2 (t0 t1 t2 t3 t4 t5 t6 t7 t8 t9 t10 t11 t12 t13 t14 : PV) (K : RK) : againK T kL25x2 L25x2 K (.normal, [t0, t1, t2, t3, t4, t5, t6, t7, t8, t9, t10, t11, t12, t13, t14]) = WL25x2 t0 t1 t5 K := by kernel_rfl
theorem lB25x1 (K : RK) : denK T B25x1 [.undef, .undef, .undef, .undef, .undef, .undef, .undef, .undef, .undef, .undef, .undef, .undef, .undef, .undef, .undef] K =
  Option.bind (Prim.run .mov [(.bool false)]) fun t4 =>
  K (.ret, [.undef, .undef, .undef, .undef, t4, .undef, .undef, .undef, .undef, .undef, .undef, .undef, .undef, .undef, .undef]) := by kernel_rfl
theorem f25 (t0 t1 : PV) {rs : List PV} (h : (Option.bind (Prim.run .mov [(.bool false)]) fun t4 =>
  Option.bind (Prim.run .mov [(.int .i64 0)]) fun t5 =>
  WL25x2 t0 t1 t5 (blockK 0 (seqK T B25x1 (endK [4])))) = some rs) : Ans T 25 [t0, t1] = some rs := call_of (T := T) c25 (Eq.trans (by kernel_rfl) h)
/-! vmfleet/link.Lose -/
theorem f26 (t0 t1 : PV) {rs : List PV} (h : (Option.bind (chk t0 fun a0 => Prim.run .mov [a0]) fun t2 =>
  Option.bind (Prim.run .mov [(.agg [(.slice true []), (.bool false)])]) fun t4 =>
  Option.bind (Prim.run .mov [(.bool false)]) fun t5 =>
  Option.bind (chk t2 fun a0 => Prim.run .load [a0, (.ptr [])]) fun t6 =>
  Option.bind (chk t6 fun a0 => Option.bind (Ans T 59 [a0]) fun rs => retV 1 rs) fun t7 =>
  chk t7 fun a0 => chk t2 fun y0 => Option.bind (setP [] y0 a0) fun t2 =>
  Option.bind (chk t2 fun a0 => Prim.run .load [a0, (.ptr [])]) fun t8 =>
  Option.bind (chk t1 fun a0 => Prim.run .mov [a0]) fun t9 =>
  Option.bind (chk t8 fun a0 => chk t9 fun a1 => Option.bind (Ans T 61 [a0, a1]) fun rs => retV 1 rs) fun t10 =>
  Option.bind (chk t10 fun a0 => Prim.run (.un .not) [a0]) fun t11 =>
  chk t11 fun c0 => isB c0
 (Option.bind (chk t2 fun a0 => Prim.run .load [a0, (.ptr [])]) fun t12 =>
  chk t12 fun a0 => chk t4 fun y0 => Option.bind (setP [] y0 a0) fun t4 =>
  Option.bind (Prim.run .mov [(.bool false)]) fun t5 =>
  allDef [t4, t5])
 (Option.bind (chk t2 fun a0 => Prim.run .load [a0, (.ptr [])]) fun t13 =>
  Option.bind (chk t1 fun a0 => Prim.run .mov [a0]) fun t14 =>
  Option.bind (chk t13 fun a0 => chk t14 fun a1 => Option.bind (Ans T 62 [a0, a1]) fun rs => retV 1 rs) fun t15 =>
  chk t15 fun a0 => chk t4 fun y0 => Option.bind (setP [] y0 a0) fun t4 =>
  Option.bind (Prim.run .mov [(.bool true)]) fun t5 =>
  allDef [t4, t5])) = some rs) : Ans T 26 [t0, t1] = some rs := call_of (T := T) c26 (Eq.trans (by kernel_rfl) h)
/-! vmfleet/link.Duplicate -/
theorem f27 (t0 t1 : PV) {rs : List PV} (h : (Option.bind (chk t0 fun a0 => Prim.run .mov [a0]) fun t2 =>
  Option.bind (Prim.run .mov [(.agg [(.slice true []), (.bool false)])]) fun t4 =>
  Option.bind (Prim.run .mov [(.bool false)]) fun t5 =>
  Option.bind (chk t2 fun a0 => Prim.run .load [a0, (.ptr [])]) fun t6 =>
  Option.bind (chk t6 fun a0 => Option.bind (Ans T 59 [a0]) fun rs => retV 1 rs) fun t7 =>
  chk t7 fun a0 => chk t2 fun y0 => Option.bind (setP [] y0 a0) fun t2 =>
  Option.bind (chk t2 fun a0 => Prim.run .load [a0, (.ptr [])]) fun t8 =>
  Option.bind (chk t8 fun a0 => Option.bind (Ans T 60 [a0]) fun rs => retV 1 rs) fun t9 =>
  Option.bind (chk t9 fun a0 => Prim.run (.un .not) [a0]) fun t10 =>
  Option.bind (chk t10 fun a0 => Prim.run .mov [a0]) fun t11 =>
  Option.bind (grd t11 false (chk t2 fun a0 => Prim.run .load [a0, (.ptr [])])) fun t12 =>
  Option.bind (grd t11 false (chk t1 fun a0 => Prim.run .mov [a0])) fun t13 =>
  Option.bind (grd t11 false (chk t12 fun a0 => chk t13 fun a1 => Option.bind (Ans T 61 [a0, a1]) fun rs => retV 1 rs)) fun t14 =>
  Option.bind (grd t11 false (chk t14 fun a0 => Prim.run (.un .not) [a0])) fun t15 =>
  Option.bind (chk t11 fun a0 => isB a0 (some (.bool true)) (chk t15 fun a1 => some a1)) fun t16 =>
  chk t16 fun c0 => isB c0
 (Option.bind (chk t2 fun a0 => Prim.run .load [a0, (.ptr [])]) fun t17 =>
  chk t17 fun a0 => chk t4 fun y0 => Option.bind (setP [] y0 a0) fun t4 =>
  Option.bind (Prim.run .mov [(.bool false)]) fun t5 =>
  allDef [t4, t5])
 (Option.bind (Prim.run (.fptr 0) [(.ptr [])]) fun t18 =>
  Option.bind (chk t2 fun a0 => chk t18 fun a1 => Prim.run .load [a0, a1]) fun t19 =>
  Option.bind (Prim.run (.fptr 0) [(.ptr [])]) fun t20 =>
  Option.bind (chk t2 fun a0 => chk t20 fun a1 => Prim.run .load [a0, a1]) fun t21 =>
  Option.bind (chk t1 fun a0 => Prim.run .mov [a0]) fun t22 =>
  Option.bind (chk t21 fun a0 => chk t22 fun a1 => Prim.run (.iptr [0]) [a0, a1]) fun t23 =>
  Option.bind (chk t2 fun a0 => chk t23 fun a1 => Prim.run .load [a0, a1]) fun t24 =>
  Option.bind (chk t24 fun a0 => Prim.run (.buildSl (.str []) 1 [0]) [a0]) fun t25 =>
  Option.bind (chk t19 fun a0 => chk t25 fun a1 => Prim.run (.app 16) [a0, a1]) fun t26 =>
  Option.bind (Prim.run (.fptr 0) [(.ptr [])]) fun t27 =>
  chk t26 fun a0 => asPath t27 fun q0 => chk t2 fun y0 => Option.bind (setP q0 y0 a0) fun t2 =>
  Option.bind (chk t2 fun a0 => Prim.run .load [a0, (.ptr [])]) fun t28 =>
  chk t28 fun a0 => chk t4 fun y0 => Option.bind (setP [] y0 a0) fun t4 =>
  Option.bind (Prim.run .mov [(.bool true)]) fun t5 =>
  allDef [t4, t5])) = some rs) : Ans T 27 [t0, t1] = some rs := call_of (T := T) c27 (Eq.trans (by kernel_rfl) h)
/-! vmfleet/link.copyOf -/
theorem f59 (t0 : PV) {rs : List PV} (h : (Option.bind (chk t0 fun a0 => Prim.run .mov [a0]) fun t1 =>
  Option.bind (Prim.run .mov [(.agg [(.slice true []), (.bool false)])]) fun t2 =>
  Option.bind (Prim.run (.fptr 0) [(.ptr [])]) fun t4 =>
  Option.bind (chk t1 fun a0 => chk t4 fun a1 => Prim.run .load [a0, a1]) fun t5 =>
  Option.bind (chk t5 fun a0 => Prim.run .len [a0]) fun t6 =>
  Option.bind (chk t6 fun a0 => Prim.run .mov [a0]) fun t3 =>
  Option.bind (Prim.run (.fptr 0) [(.ptr [])]) fun t7 =>
  Option.bind (chk t1 fun a0 => chk t7 fun a1 => Prim.run .load [a0, a1]) fun t8 =>
  Option.bind (chk t3 fun a0 => Prim.run .mov [a0]) fun t9 =>
  Option.bind (chk t3 fun a0 => Prim.run .mov [a0]) fun t10 =>
  Option.bind (chk t8 fun a0 => chk t9 fun a1 => chk t10 fun a2 => Prim.run (.sl3 false) [a0, a1, a2]) fun t11 =>
  Option.bind (chk t11 fun a1 => Prim.run (.app 16) [(.slice true []), a1]) fun t12 =>
  Option.bind (Prim.run (.fptr 0) [(.ptr [])]) fun t13 =>
  chk t12 fun a0 => asPath t13 fun q0 => chk t1 fun y0 => Option.bind (setP q0 y0 a0) fun t1 =>
  Option.bind (chk t1 fun a0 => Prim.run .load [a0, (.ptr [])]) fun t14 =>
  chk t14 fun a0 => chk t2 fun y0 => Option.bind (setP [] y0 a0) fun t2 =>
  allDef [t2]) = some rs) : Ans T 59 [t0] = some rs := call_of (T := T) c59 (Eq.trans (by kernel_rfl) h)
/-! vmfleet/link.room -/
theorem f60 (t0 : PV) {rs : List PV} (h : (Option.bind (chk t0 fun a0 => Prim.run .mov [a0]) fun t1 =>
  Option.bind (Prim.run .mov [(.bool false)]) fun t2 =>
  Option.bind (Prim.run (.fptr 1) [(.ptr [])]) fun t3 =>
  Option.bind (chk t1 fun a0 => chk t3 fun a1 => Prim.run .load [a0, a1]) fun t4 =>
  Option.bind (chk t4 fun a0 => Prim.run (.un .not) [a0]) fun t5 =>
  Option.bind (chk t5 fun a0 => Prim.run .mov [a0]) fun t6 =>
  Option.bind (grd t6 true (Prim.run (.fptr 0) [(.ptr [])])) fun t7 =>
  Option.bind (grd t6 true (chk t1 fun a0 => chk t7 fun a1 => Prim.run .load [a0, a1])) fun t8 =>
  Option.bind (grd t6 true (chk t8 fun a0 => Prim.run .len [a0])) fun t9 =>
  Option.bind (grd t6 true (chk t9 fun a0 => Prim.run (.bin .lss) [a0, (.int .i64 24)])) fun t10 =>
  Option.bind (chk t6 fun a0 => isB a0 (chk t10 fun a1 => some a1) (some (.bool false))) fun t11 =>
  Option.bind (chk t11 fun a0 => Prim.run .mov [a0]) fun t2 =>
  allDef [t2]) = some rs) : Ans T 60 [t0] = some rs := call_of (T := T) c60 (Eq.trans (by kernel_rfl) h)
/-! vmfleet/link.has -/
theorem f61 (t0 t1 : PV) {rs : List PV} (h : (Option.bind (chk t0 fun a0 => Prim.run .mov [a0]) fun t2 =>
  Option.bind (Prim.run .mov [(.bool false)]) fun t4 =>
  Option.bind (chk t1 fun a0 => Prim.run .mov [a0]) fun t5 =>
  Option.bind (chk t5 fun a0 => Prim.run (.bin .geq) [a0, (.int .i64 0)]) fun t6 =>
  Option.bind (chk t6 fun a0 => Prim.run .mov [a0]) fun t7 =>
  Option.bind (grd t7 true (chk t1 fun a0 => Prim.run .mov [a0])) fun t8 =>
  Option.bind (grd t7 true (Prim.run (.fptr 0) [(.ptr [])])) fun t9 =>
  Option.bind (grd t7 true (chk t2 fun a0 => chk t9 fun a1 => Prim.run .load [a0, a1])) fun t10 =>
  Option.bind (grd t7 true (chk t10 fun a0 => Prim.run .len [a0])) fun t11 =>
  Option.bind (grd t7 true (chk t8 fun a0 => chk t11 fun a1 => Prim.run (.bin .lss) [a0, a1])) fun t12 =>
  Option.bind (chk t7 fun a0 => isB a0 (chk t12 fun a1 => some a1) (some (.bool false))) fun t13 =>
  Option.bind (chk t13 fun a0 => Prim.run .mov [a0]) fun t4 =>
  allDef [t4]) = some rs) : Ans T 61 [t0, t1] = some rs := call_of (T := T) c61 (Eq.trans (by kernel_rfl) h)
/-! vmfleet/link.remove -/
theorem f62 (t0 t1 : PV) {rs : List PV} (h : (Option.bind (chk t0 fun a0 => Prim.run .mov [a0]) fun t2 =>
  Option.bind (Prim.run .mov [(.agg [(.slice true []), (.bool false)])]) fun t4 =>
  Option.bind (Prim.run (.fptr 0) [(.ptr [])]) fun t5 =>
  Option.bind (chk t2 fun a0 => chk t5 fun a1 => Prim.run .load [a0, a1]) fun t6 =>
  Option.bind (chk t1 fun a0 => Prim.run .mov [a0]) fun t7 =>
  Option.bind (chk t1 fun a0 => Prim.run .mov [a0]) fun t8 =>
  Option.bind (chk t6 fun a0 => chk t7 fun a1 => chk t8 fun a2 => Prim.run (.sl3 false) [a0, a1, a2]) fun t9 =>
  Option.bind (Prim.run (.fptr 0) [(.ptr [])]) fun t10 =>
  Option.bind (chk t2 fun a0 => chk t10 fun a1 => Prim.run .load [a0, a1]) fun t11 =>
  Option.bind (chk t1 fun a0 => Prim.run .mov [a0]) fun t12 =>
  Option.bind (chk t12 fun a0 => Prim.run (.bin .add) [a0, (.int .i64 1)]) fun t13 =>
  Option.bind (chk t11 fun a0 => chk t13 fun a1 => Prim.run (.sl true false) [a0, a1]) fun t14 =>
  Option.bind (chk t9 fun a0 => chk t14 fun a1 => Prim.run (.app 16) [a0, a1]) fun t15 =>
  Option.bind (Prim.run (.fptr 0) [(.ptr [])]) fun t16 =>
  chk t15 fun a0 => asPath t16 fun q0 => chk t2 fun y0 => Option.bind (setP q0 y0 a0) fun t2 =>
  Option.bind (chk t2 fun a0 => Prim.run .load [a0, (.ptr [])]) fun t17 =>
  chk t17 fun a0 => chk t4 fun y0 => Option.bind (setP [] y0 a0) fun t4 =>
  allDef [t4]) = some rs) : Ans T 62 [t0, t1] = some rs := call_of (T := T) c62 (Eq.trans (by kernel_rfl) h)

end Go.Proofs.Ytaldhebldjphbaa

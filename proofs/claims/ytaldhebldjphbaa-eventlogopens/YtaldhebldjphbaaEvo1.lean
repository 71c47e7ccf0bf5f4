/-
  The law EventlogOpens: what its functions compute, and that it answers true.
  Conditions: none.
-/
import Derived.Test.YtaldhebldjphbaaRows
import Derived.Test.YtaldhebldjphbaaVmF
namespace Go.Proofs.Ytaldhebldjphbaa
open Go.Vm
set_option maxRecDepth 100000
set_option linter.unusedVariables false
def sg : Sigs := fun f => match f with
  | 10 => some ⟨[(.val (.agg [.sc, .sc, .sc])), (.val .sc), (.val .sc)], [.sc], false⟩
  | 11 => some ⟨[(.val .sc), (.val .sc), (.val .sc)], [.sc], false⟩
  | 12 => some ⟨[(.val .sc), (.val .sc), (.val .sc), (.val .sc)], [.sc], false⟩
  | 21 => some ⟨[(.val .sc), (.val .sc)], [.sc], false⟩
  | 43 => some ⟨[(.val .sc)], [(.agg [.sc, .sc, .sc])], false⟩
  | 44 => some ⟨[], [.sc], false⟩
  | 45 => some ⟨[(.val (.agg [.sc, .sc, .sc]))], [.sc], false⟩
  | 46 => some ⟨[(.val (.agg [.sc, .sc, .sc]))], [.sc], false⟩
  | 47 => some ⟨[(.val .sc), (.val .sc)], [.sc], false⟩
  | 48 => some ⟨[(.val .sc)], [.sc, .sc, .sc], false⟩
  | 49 => some ⟨[(.val .sc), (.val .sc)], [.sc], false⟩
  | 50 => some ⟨[(.val .sc)], [.sc, .sc, .sc], false⟩
  | 63 => some ⟨[(.val .sc)], [.sc, .sc, .sc], false⟩
  | 66 => some ⟨[(.val .sc)], [.sc], false⟩
  | 67 => some ⟨[(.val .sc)], [.sc], false⟩
  | 68 => some ⟨[(.val .sc), (.val .sc)], [.sc], false⟩
  | 69 => some ⟨[(.val .sc), (.val .sc)], [.sc], false⟩
  | 70 => some ⟨[(.val (.sl .sh (.agg [.sc, (.agg [.sc, .sc, .sc])]))), (.val .sc)], [.sc, .sc], false⟩
  | 71 => some ⟨[(.val .sc)], [.sc], false⟩
  | 72 => some ⟨[(.val .sc)], [.sc], false⟩
  | 73 => some ⟨[(.ref (.agg [.sc, .sc]) (.agg [.sc, .sc]))], [.sc], false⟩
  | 74 => some ⟨[(.ref (.agg [.sc, .sc]) (.agg [.sc, .sc]))], [.sc], false⟩
  | 75 => some ⟨[(.val .sc)], [.sc], false⟩
  | 76 => some ⟨[(.val .sc), (.val .sc)], [.sc], false⟩
  | 77 => some ⟨[(.ref (.agg [.sc, .sc]) (.agg [.sc, .sc]))], [.sc], false⟩
  | 78 => some ⟨[(.ref (.agg [.sc, .sc]) (.agg [.sc, .sc])), (.val .sc)], [.sc], false⟩
  | 90 => some ⟨[(.val .sc)], [.sc, .sc, .sc], false⟩
  | 91 => some ⟨[(.val .sc)], [.sc, .sc], false⟩
  | 92 => some ⟨[(.val (.sl .sh (.agg [.sc, (.agg [.sc, .sc, .sc])]))), (.val .sc)], [.sc], false⟩
  | 93 => some ⟨[(.val (.agg [.sc, .sc, .sc]))], [.sc], false⟩
  | 94 => some ⟨[(.val .sc), (.val .sc)], [.sc], false⟩
  | 109 => some ⟨[(.val (.sl .sh (.agg [.sc, (.agg [.sc, .sc, .sc])])))], [.sc], false⟩
  | _ => none
def A10x1 : VCode := (.seq (.region [⟨(some 7), none, (.prim .mov [(.tmp 2)])⟩] [2])
  (.cond (.tmp 7)
  (.seq (.region [⟨(some 8), none, (.prim .mov [(.tmp 1)])⟩,
    ⟨(some 9), none, (.call 43 1 [(.tmp 8)] [])⟩,
    ⟨none, none, (.store 3 none (.tmp 9))⟩] [7, 8, 9])
  (.region [⟨(some 10), none, (.prim (.fptr 1) [(.const (.ptr []))])⟩,
    ⟨(some 11), none, (.prim .load [(.tmp 3), (.tmp 10)])⟩,
    ⟨(some 12), none, (.prim .mov [(.tmp 1)])⟩,
    ⟨(some 13), none, (.prim (.bin .and) [(.tmp 12), (.const (.int .i64 1))])⟩,
    ⟨(some 14), none, (.prim (.toInt .u32) [(.tmp 13)])⟩,
    ⟨(some 15), none, (.prim (.bin .add) [(.tmp 11), (.tmp 14)])⟩,
    ⟨(some 16), none, (.prim (.fptr 1) [(.const (.ptr []))])⟩,
    ⟨none, none, (.store 3 (some 16) (.tmp 15))⟩] [1, 10, 11, 12, 13, 14, 15, 16]))
  .skip))
def B10x1 : VCode := (.seq (.seq (.region [⟨(some 17), none, (.prim (.fptr 2) [(.const (.ptr []))])⟩,
    ⟨(some 18), none, (.prim .load [(.tmp 3), (.tmp 17)])⟩,
    ⟨(some 19), none, (.prim .len [(.tmp 18)])⟩,
    ⟨(some 20), none, (.prim (.bin .gtr) [(.tmp 19), (.const (.int .i64 300))])⟩] [17, 18, 19])
  (.cond (.tmp 20)
  (.seq (.region [⟨(some 21), none, (.call 44 1 [] [])⟩,
    ⟨(some 6), none, (.prim .mov [(.tmp 21)])⟩] [3, 20, 21])
  .ret)
  .skip))
  (.seq (.region [⟨(some 22), none, (.prim .load [(.tmp 3), (.const (.ptr []))])⟩,
    ⟨(some 23), none, (.call 45 1 [(.tmp 22)] [])⟩,
    ⟨(some 24), none, (.prim .load [(.tmp 3), (.const (.ptr []))])⟩,
    ⟨(some 25), none, (.call 46 1 [(.tmp 24)] [])⟩,
    ⟨(some 26), none, (.prim (.eqv false (.bool false)) [(.tmp 23), (.tmp 25)])⟩,
    ⟨(some 27), none, (.prim .mov [(.tmp 26)])⟩,
    ⟨(some 28), (some (27, true)), (.call 44 1 [] [])⟩,
    ⟨(some 29), none, (.pick (.tmp 27) (.tmp 28) (.const (.bool false)))⟩,
    ⟨(some 6), none, (.prim .mov [(.tmp 29)])⟩] [3, 20, 22, 23, 24, 25, 26, 27, 28, 29])
  .ret))

/-- vmfleet/vmfleetlaw19.EventlogValid -/
def F10 : VFunc := ⟨30,
  (.seq (.region [⟨(some 3), none, (.prim .mov [(.tmp 0)])⟩,
    ⟨(some 6), none, (.prim .mov [(.const (.bool false))])⟩] [0, 6])
  (.seq A10x1
  B10x1)), [6], []⟩
theorem c10 : compile Try.prog sg 10 = some F10 := by kernel_rfl


/-- vmfleet/vmfleetlaw19.EventlogSeals -/
def F11 : VFunc := ⟨81,
  (.seq (.region [⟨(some 6), none, (.prim .mov [(.const (.bool false))])⟩] [6])
  (.seq (.seq (.region [⟨(some 16), none, (.prim .mov [(.tmp 1)])⟩,
    ⟨(some 17), none, (.prim .len [(.tmp 16)])⟩,
    ⟨(some 18), none, (.prim (.bin .gtr) [(.tmp 17), (.const (.int .i64 300))])⟩] [16, 17])
  (.cond (.tmp 18)
  (.seq (.region [⟨(some 19), none, (.call 44 1 [] [])⟩,
    ⟨(some 6), none, (.prim .mov [(.tmp 19)])⟩] [0, 1, 2, 18, 19])
  .ret)
  .skip))
  (.seq (.region [⟨(some 20), none, (.prim .mov [(.tmp 0)])⟩,
    ⟨(some 21), none, (.prim .mov [(.tmp 1)])⟩,
    ⟨(some 22), none, (.call 47 1 [(.tmp 20), (.tmp 21)] [])⟩,
    ⟨(some 7), none, (.prim .mov [(.tmp 22)])⟩] [18, 20, 21, 22])
  (.seq (.region [⟨(some 24), none, (.prim .mov [(.tmp 7)])⟩,
    ⟨(some 25), none, (.call 48 3 [(.tmp 24)] [])⟩,
    ⟨(some 23), none, (.prim .mov [(.tmp 25)])⟩,
    ⟨(some 26), none, (.prim (.ext 0) [(.tmp 23)])⟩,
    ⟨(some 27), none, (.prim (.ext 1) [(.tmp 23)])⟩,
    ⟨(some 28), none, (.prim (.ext 2) [(.tmp 23)])⟩,
    ⟨(some 8), none, (.prim .mov [(.tmp 26)])⟩,
    ⟨(some 9), none, (.prim .mov [(.tmp 27)])⟩,
    ⟨(some 10), none, (.prim .mov [(.tmp 28)])⟩] [23, 24, 25, 26, 27, 28])
  (.seq (.seq (.region [⟨(some 29), none, (.prim .mov [(.tmp 7)])⟩,
    ⟨(some 30), none, (.prim .mov [(.tmp 0)])⟩,
    ⟨(some 31), none, (.prim .mov [(.tmp 1)])⟩,
    ⟨(some 32), none, (.call 49 1 [(.tmp 30), (.tmp 31)] [])⟩,
    ⟨(some 33), none, (.prim (.bin .neq) [(.tmp 29), (.tmp 32)])⟩,
    ⟨(some 34), none, (.prim .mov [(.tmp 33)])⟩,
    ⟨(some 35), (some (34, false)), (.prim .mov [(.tmp 8)])⟩,
    ⟨(some 36), (some (34, false)), (.prim .mov [(.tmp 0)])⟩,
    ⟨(some 37), (some (34, false)), (.prim (.bin .neq) [(.tmp 35), (.tmp 36)])⟩,
    ⟨(some 38), none, (.pick (.tmp 34) (.const (.bool true)) (.tmp 37))⟩,
    ⟨(some 39), none, (.prim .mov [(.tmp 38)])⟩,
    ⟨(some 40), (some (39, false)), (.prim .mov [(.tmp 9)])⟩,
    ⟨(some 41), (some (39, false)), (.prim .mov [(.tmp 1)])⟩,
    ⟨(some 42), (some (39, false)), (.prim (.bin .neq) [(.tmp 40), (.tmp 41)])⟩,
    ⟨(some 43), none, (.pick (.tmp 39) (.const (.bool true)) (.tmp 42))⟩,
    ⟨(some 44), none, (.prim .mov [(.tmp 43)])⟩,
    ⟨(some 45), (some (44, false)), (.prim .mov [(.tmp 10)])⟩,
    ⟨(some 46), (some (44, false)), (.prim (.bin .neq) [(.tmp 45), (.const (.int .i64 0))])⟩,
    ⟨(some 47), none, (.pick (.tmp 44) (.const (.bool true)) (.tmp 46))⟩] [0, 1, 8, 9, 10, 29, 30, 31, 32, 33, 34, 35, 36, 37, 38, 39, 40, 41, 42, 43, 44, 45, 46])
  (.cond (.tmp 47)
  (.seq (.region [⟨(some 6), none, (.prim .mov [(.const (.bool false))])⟩] [2, 7, 47])
  .ret)
  .skip))
  (.seq (.region [⟨(some 48), none, (.prim .mov [(.tmp 7)])⟩,
    ⟨(some 49), none, (.prim .toBytes [(.tmp 48)])⟩,
    ⟨(some 11), none, (.prim .mov [(.tmp 49)])⟩] [7, 47, 48, 49])
  (.seq (.region [⟨(some 50), none, (.prim .mov [(.tmp 2)])⟩,
    ⟨(some 51), none, (.prim .mov [(.tmp 11)])⟩,
    ⟨(some 52), none, (.prim .len [(.tmp 51)])⟩,
    ⟨(some 53), none, (.prim (.bin .mul) [(.const (.int .i64 8)), (.tmp 52)])⟩,
    ⟨(some 54), none, (.call 21 1 [(.tmp 50), (.tmp 53)] [])⟩,
    ⟨(some 12), none, (.prim .mov [(.tmp 54)])⟩] [2, 50, 51, 52, 53, 54])
  (.seq (.region [⟨(some 55), none, (.prim .mov [(.tmp 11)])⟩,
    ⟨(some 56), none, (.prim .mov [(.tmp 12)])⟩,
    ⟨(some 57), none, (.prim (.bin .quo) [(.tmp 56), (.const (.int .i64 8))])⟩,
    ⟨(some 58), none, (.prim .mov [(.tmp 11)])⟩,
    ⟨(some 59), none, (.prim .mov [(.tmp 12)])⟩,
    ⟨(some 60), none, (.prim (.bin .quo) [(.tmp 59), (.const (.int .i64 8))])⟩,
    ⟨(some 61), none, (.prim (.iptr []) [(.tmp 58), (.tmp 60)])⟩,
    ⟨(some 62), none, (.prim .load [(.tmp 11), (.tmp 61)])⟩,
    ⟨(some 63), none, (.prim .mov [(.tmp 12)])⟩,
    ⟨(some 64), none, (.prim (.bin .rem) [(.tmp 63), (.const (.int .i64 8))])⟩,
    ⟨(some 65), none, (.prim (.toInt .u64) [(.tmp 64)])⟩,
    ⟨(some 66), none, (.prim (.bin .shl) [(.const (.int .u8 1)), (.tmp 65)])⟩,
    ⟨(some 67), none, (.prim (.bin .xor) [(.tmp 62), (.tmp 66)])⟩,
    ⟨(some 68), none, (.prim (.iptr []) [(.tmp 55), (.tmp 57)])⟩,
    ⟨none, none, (.store 11 (some 68) (.tmp 67))⟩] [12, 56, 57, 59, 60, 61, 62, 63, 64, 65, 66, 67, 68])
  (.seq (.region [⟨(some 70), none, (.prim .mov [(.tmp 11)])⟩,
    ⟨(some 71), none, (.prim .toStr [(.tmp 70)])⟩,
    ⟨(some 72), none, (.call 48 3 [(.tmp 71)] [])⟩,
    ⟨(some 69), none, (.prim .mov [(.tmp 72)])⟩,
    ⟨(some 73), none, (.prim (.ext 0) [(.tmp 69)])⟩,
    ⟨(some 74), none, (.prim (.ext 1) [(.tmp 69)])⟩,
    ⟨(some 75), none, (.prim (.ext 2) [(.tmp 69)])⟩,
    ⟨(some 13), none, (.prim .mov [(.tmp 73)])⟩,
    ⟨(some 14), none, (.prim .mov [(.tmp 74)])⟩,
    ⟨(some 15), none, (.prim .mov [(.tmp 75)])⟩] [11, 13, 14, 69, 70, 71, 72, 73, 74, 75])
  (.seq (.region [⟨(some 76), none, (.prim .mov [(.tmp 15)])⟩,
    ⟨(some 77), none, (.prim (.bin .neq) [(.tmp 76), (.const (.int .i64 0))])⟩,
    ⟨(some 78), none, (.prim .mov [(.tmp 77)])⟩,
    ⟨(some 79), (some (78, true)), (.call 44 1 [] [])⟩,
    ⟨(some 80), none, (.pick (.tmp 78) (.tmp 79) (.const (.bool false)))⟩,
    ⟨(some 6), none, (.prim .mov [(.tmp 80)])⟩] [15, 76, 77, 78, 79, 80])
  .ret)))))))))), [6], []⟩
theorem c11 : compile Try.prog sg 11 = some F11 := by kernel_rfl

def A12x1 : VCode := (.seq (.region [⟨(some 20), none, (.prim .mov [(.tmp 1)])⟩] [1, 18])
  (.cond (.tmp 20)
  (.seq (.region [⟨(some 21), none, (.prim .mov [(.tmp 2)])⟩,
    ⟨(some 22), none, (.prim .mov [(.tmp 0)])⟩,
    ⟨(some 23), none, (.call 49 1 [(.tmp 21), (.tmp 22)] [])⟩,
    ⟨(some 9), none, (.prim .mov [(.tmp 23)])⟩] [2, 20, 21, 22, 23])
  (.region [⟨(some 24), none, (.prim .mov [(.tmp 9)])⟩,
    ⟨(some 25), none, (.prim .mov [(.tmp 3)])⟩,
    ⟨(some 26), none, (.prim .mov [(.tmp 9)])⟩,
    ⟨(some 27), none, (.prim .len [(.tmp 26)])⟩,
    ⟨(some 28), none, (.prim (.bin .add) [(.tmp 27), (.const (.int .i64 1))])⟩,
    ⟨(some 29), none, (.call 21 1 [(.tmp 25), (.tmp 28)] [])⟩,
    ⟨(some 30), none, (.prim (.sl false true) [(.tmp 24), (.tmp 29)])⟩,
    ⟨(some 31), none, (.prim .mov [(.tmp 0)])⟩,
    ⟨(some 32), none, (.prim (.bin .add) [(.tmp 30), (.tmp 31)])⟩,
    ⟨(some 0), none, (.prim .mov [(.tmp 32)])⟩] [3, 9, 24, 25, 26, 27, 28, 29, 30, 31, 32]))
  .skip))
def B12x1 : VCode := (.seq (.region [⟨(some 34), none, (.prim .mov [(.tmp 0)])⟩,
    ⟨(some 35), none, (.call 48 3 [(.tmp 34)] [])⟩,
    ⟨(some 33), none, (.prim .mov [(.tmp 35)])⟩,
    ⟨(some 36), none, (.prim (.ext 0) [(.tmp 33)])⟩,
    ⟨(some 37), none, (.prim (.ext 1) [(.tmp 33)])⟩,
    ⟨(some 38), none, (.prim (.ext 2) [(.tmp 33)])⟩,
    ⟨(some 10), none, (.prim .mov [(.tmp 36)])⟩,
    ⟨(some 11), none, (.prim .mov [(.tmp 37)])⟩,
    ⟨(some 12), none, (.prim .mov [(.tmp 38)])⟩] [33, 34, 35, 36, 37, 38])
  (.seq (.region [⟨(some 40), none, (.prim .mov [(.tmp 0)])⟩,
    ⟨(some 41), none, (.call 50 3 [(.tmp 40)] [])⟩,
    ⟨(some 39), none, (.prim .mov [(.tmp 41)])⟩,
    ⟨(some 42), none, (.prim (.ext 0) [(.tmp 39)])⟩,
    ⟨(some 43), none, (.prim (.ext 1) [(.tmp 39)])⟩,
    ⟨(some 44), none, (.prim (.ext 2) [(.tmp 39)])⟩,
    ⟨(some 13), none, (.prim .mov [(.tmp 42)])⟩,
    ⟨(some 14), none, (.prim .mov [(.tmp 43)])⟩,
    ⟨(some 15), none, (.prim .mov [(.tmp 44)])⟩] [0, 39, 40, 41, 42, 43, 44])
  (.seq (.region [⟨(some 45), none, (.prim .mov [(.tmp 10)])⟩,
    ⟨(some 46), none, (.prim .mov [(.tmp 13)])⟩,
    ⟨(some 47), none, (.prim (.bin .eql) [(.tmp 45), (.tmp 46)])⟩,
    ⟨(some 48), none, (.prim .mov [(.tmp 47)])⟩,
    ⟨(some 49), (some (48, true)), (.prim .mov [(.tmp 11)])⟩,
    ⟨(some 50), (some (48, true)), (.prim .mov [(.tmp 14)])⟩,
    ⟨(some 51), (some (48, true)), (.prim (.bin .eql) [(.tmp 49), (.tmp 50)])⟩,
    ⟨(some 52), none, (.pick (.tmp 48) (.tmp 51) (.const (.bool false)))⟩,
    ⟨(some 53), none, (.prim .mov [(.tmp 52)])⟩,
    ⟨(some 54), (some (53, true)), (.prim .mov [(.tmp 12)])⟩,
    ⟨(some 55), (some (53, true)), (.prim .mov [(.tmp 15)])⟩,
    ⟨(some 56), (some (53, true)), (.prim (.bin .eql) [(.tmp 54), (.tmp 55)])⟩,
    ⟨(some 57), none, (.pick (.tmp 53) (.tmp 56) (.const (.bool false)))⟩,
    ⟨(some 58), none, (.prim .mov [(.tmp 57)])⟩,
    ⟨(some 59), (some (58, true)), (.call 44 1 [] [])⟩,
    ⟨(some 60), none, (.pick (.tmp 58) (.tmp 59) (.const (.bool false)))⟩,
    ⟨(some 8), none, (.prim .mov [(.tmp 60)])⟩] [10, 11, 12, 13, 14, 15, 45, 46, 47, 48, 49, 50, 51, 52, 53, 54, 55, 56, 57, 58, 59, 60])
  .ret)))

/-- vmfleet/vmfleetlaw19.EventlogOpens -/
def F12 : VFunc := ⟨61,
  (.seq (.region [⟨(some 8), none, (.prim .mov [(.const (.bool false))])⟩] [8])
  (.seq (.seq (.region [⟨(some 16), none, (.prim .mov [(.tmp 0)])⟩,
    ⟨(some 17), none, (.prim .len [(.tmp 16)])⟩,
    ⟨(some 18), none, (.prim (.bin .gtr) [(.tmp 17), (.const (.int .i64 300))])⟩] [16, 17])
  (.cond (.tmp 18)
  (.seq (.region [⟨(some 19), none, (.call 44 1 [] [])⟩,
    ⟨(some 8), none, (.prim .mov [(.tmp 19)])⟩] [0, 1, 2, 3, 18, 19])
  .ret)
  .skip))
  (.seq A12x1
  B12x1))), [8], []⟩
theorem c12 : compile Try.prog sg 12 = some F12 := by kernel_rfl


/-- vmfleet/vmfleetmake.Round -/
def F21 : VFunc := ⟨15,
  (.seq (.region [⟨(some 4), none, (.prim .mov [(.const (.int .i64 0))])⟩] [4])
  (.seq (.region [⟨(some 6), none, (.prim .mov [(.tmp 0)])⟩,
    ⟨(some 7), none, (.prim .mov [(.tmp 1)])⟩,
    ⟨(some 8), none, (.prim (.bin .rem) [(.tmp 6), (.tmp 7)])⟩,
    ⟨(some 5), none, (.prim .mov [(.tmp 8)])⟩] [0, 6, 7, 8])
  (.seq (.seq (.region [⟨(some 9), none, (.prim .mov [(.tmp 5)])⟩,
    ⟨(some 10), none, (.prim (.bin .lss) [(.tmp 9), (.const (.int .i64 0))])⟩] [9])
  (.cond (.tmp 10)
  (.region [⟨(some 11), none, (.prim .mov [(.tmp 5)])⟩,
    ⟨(some 12), none, (.prim .mov [(.tmp 1)])⟩,
    ⟨(some 13), none, (.prim (.bin .add) [(.tmp 11), (.tmp 12)])⟩,
    ⟨(some 5), none, (.prim .mov [(.tmp 13)])⟩] [1, 10, 11, 12, 13])
  .skip))
  (.seq (.region [⟨(some 14), none, (.prim .mov [(.tmp 5)])⟩,
    ⟨(some 4), none, (.prim .mov [(.tmp 14)])⟩] [5, 14])
  .ret)))), [4], []⟩
theorem c21 : compile Try.prog sg 21 = some F21 := by kernel_rfl

def A43x2 : VCode := (.seq (.region [⟨(some 12), none, (.prim (.bin .eql) [(.tmp 7), (.const (.int .i64 1))])⟩,
    ⟨(some 11), none, (.prim .mov [(.tmp 12)])⟩] [8, 12])
  (.cond (.tmp 11)
  .skip
  (.region [⟨(some 13), none, (.prim (.bin .eql) [(.tmp 7), (.const (.int .i64 2))])⟩,
    ⟨(some 11), none, (.prim .mov [(.tmp 13)])⟩] [13])))
def B43x2 : VCode := (.cond (.tmp 11)
  (.seq (.region [⟨(some 14), none, (.prim .mov [(.tmp 3)])⟩,
    ⟨(some 15), none, (.prim (.bin .shr) [(.tmp 14), (.const (.int .u64 8))])⟩,
    ⟨(some 16), none, (.prim (.bin .and) [(.tmp 15), (.const (.int .i64 255))])⟩,
    ⟨(some 17), none, (.prim (.toInt .u32) [(.tmp 16)])⟩,
    ⟨(some 18), none, (.prim (.build [(.int .i64 0), (.int .u32 0), (.str [])] [0, 1]) [(.const (.int .i64 3)), (.tmp 17)])⟩,
    ⟨none, none, (.store 2 none (.tmp 18))⟩] [3, 7, 11, 14, 15, 16, 17, 18])
  .ret)
  (.seq (.region [⟨(some 20), none, (.prim (.bin .eql) [(.tmp 7), (.const (.int .i64 3))])⟩,
    ⟨(some 19), none, (.prim .mov [(.tmp 20)])⟩] [11, 20])
  (.cond (.tmp 19)
  (.seq (.region [⟨(some 21), none, (.prim (.build [(.int .i64 0), (.int .u32 0), (.str [])] [0, 1]) [(.const (.int .i64 4)), (.const (.int .u32 1))])⟩,
    ⟨none, none, (.store 2 none (.tmp 21))⟩] [3, 7, 19, 21])
  .ret)
  (.seq (.region [⟨(some 23), none, (.prim (.bin .eql) [(.tmp 7), (.const (.int .i64 4))])⟩,
    ⟨(some 22), none, (.prim .mov [(.tmp 23)])⟩] [19, 23])
  (.cond (.tmp 22)
  (.seq (.region [⟨(some 24), none, (.prim .mov [(.tmp 3)])⟩,
    ⟨(some 25), none, (.call 69 1 [(.tmp 24), (.const (.int .i64 128))] [])⟩,
    ⟨(some 26), none, (.prim (.build [(.int .i64 0), (.int .u32 0), (.str [])] [0, 1, 2]) [(.const (.int .i64 4)), (.const (.int .u32 1)), (.tmp 25)])⟩,
    ⟨none, none, (.store 2 none (.tmp 26))⟩] [3, 7, 22, 24, 25, 26])
  .ret)
  (.seq (.region [⟨(some 28), none, (.prim (.bin .eql) [(.tmp 7), (.const (.int .i64 5))])⟩,
    ⟨(some 27), none, (.prim .mov [(.tmp 28)])⟩] [7, 22, 28])
  (.cond (.tmp 27)
  (.seq (.region [⟨(some 29), none, (.prim .mov [(.tmp 3)])⟩,
    ⟨(some 30), none, (.prim .mov [(.tmp 3)])⟩,
    ⟨(some 31), none, (.prim (.bin .shr) [(.tmp 30), (.const (.int .u64 8))])⟩,
    ⟨(some 32), none, (.prim (.bin .rem) [(.tmp 31), (.const (.int .i64 40))])⟩,
    ⟨(some 33), none, (.prim (.bin .add) [(.const (.int .i64 1)), (.tmp 32)])⟩,
    ⟨(some 34), none, (.call 69 1 [(.tmp 29), (.tmp 33)] [])⟩,
    ⟨(some 35), none, (.prim (.build [(.int .i64 0), (.int .u32 0), (.str [])] [0, 2]) [(.const (.int .i64 5)), (.tmp 34)])⟩,
    ⟨none, none, (.store 2 none (.tmp 35))⟩] [3, 27, 29, 30, 31, 32, 33, 34, 35])
  .ret)
  .skip)))))))
def A43x1 : VCode := (.seq (.region [⟨(some 6), none, (.prim .mov [(.tmp 3)])⟩,
    ⟨(some 7), none, (.prim (.bin .rem) [(.tmp 6), (.const (.int .i64 7))])⟩] [6])
  (.block 0 (.seq (.region [⟨(some 9), none, (.prim (.bin .eql) [(.tmp 7), (.const (.int .i64 0))])⟩,
    ⟨(some 8), none, (.prim .mov [(.tmp 9)])⟩] [9])
  (.cond (.tmp 8)
  (.seq (.region [⟨(some 10), none, (.prim (.build [(.int .i64 0), (.int .u32 0), (.str [])] [0]) [(.const (.int .i64 2))])⟩,
    ⟨none, none, (.store 2 none (.tmp 10))⟩] [3, 7, 8, 10])
  .ret)
  (.seq A43x2
  B43x2)))))
def B43x1 : VCode := (.seq (.seq (.region [⟨(some 36), none, (.prim .mov [(.tmp 3)])⟩,
    ⟨(some 37), none, (.prim (.bin .shr) [(.tmp 36), (.const (.int .u64 8))])⟩,
    ⟨(some 38), none, (.prim (.bin .rem) [(.tmp 37), (.const (.int .i64 4))])⟩,
    ⟨(some 39), none, (.prim (.bin .eql) [(.tmp 38), (.const (.int .i64 0))])⟩] [27, 36, 37, 38])
  (.cond (.tmp 39)
  (.seq (.region [⟨(some 40), none, (.prim (.build [(.int .i64 0), (.int .u32 0), (.str [])] [0]) [(.const (.int .i64 4))])⟩,
    ⟨none, none, (.store 2 none (.tmp 40))⟩] [3, 39, 40])
  .ret)
  .skip))
  (.seq (.region [⟨(some 41), none, (.prim .mov [(.tmp 3)])⟩,
    ⟨(some 42), none, (.prim (.bin .shr) [(.tmp 41), (.const (.int .u64 8))])⟩,
    ⟨(some 43), none, (.prim (.bin .rem) [(.tmp 42), (.const (.int .i64 3))])⟩,
    ⟨(some 44), none, (.prim (.toInt .u32) [(.tmp 43)])⟩,
    ⟨(some 45), none, (.prim (.build [(.int .i64 0), (.int .u32 0), (.str [])] [0, 1]) [(.const (.int .i64 6)), (.tmp 44)])⟩,
    ⟨none, none, (.store 2 none (.tmp 45))⟩] [3, 39, 41, 42, 43, 44, 45])
  .ret))

/-- vmfleet/vmfleetmake.Event -/
def F43 : VFunc := ⟨46,
  (.seq (.region [⟨(some 2), none, (.prim .mov [(.const (.agg [(.int .i64 0), (.int .u32 0), (.str [])]))])⟩] [])
  (.seq (.region [⟨(some 4), none, (.prim .mov [(.tmp 0)])⟩,
    ⟨(some 5), none, (.call 68 1 [(.tmp 4), (.const (.int .i64 2))] [])⟩,
    ⟨(some 3), none, (.prim .mov [(.tmp 5)])⟩] [0, 4, 5])
  (.seq A43x1
  B43x1))), [2], []⟩
theorem c43 : compile Try.prog sg 43 = some F43 := by kernel_rfl


/-- vmfleet/vmfleetlaw19.awake -/
def F44 : VFunc := ⟨41,
  (.seq (.region [⟨(some 0), none, (.prim .mov [(.const (.bool false))])⟩] [0])
  (.seq (.region [⟨(some 7), none, (.prim (.build [(.int .i64 0), (.int .u32 0), (.str [])] [0]) [(.const (.int .i64 2))])⟩,
    ⟨(some 8), none, (.prim (.build [(.int .u64 0), (.agg [(.int .i64 0), (.int .u32 0), (.str [])])] [0, 1]) [(.const (.int .u64 7)), (.tmp 7)])⟩,
    ⟨(some 9), none, (.prim (.buildSl (.agg [(.int .u64 0), (.agg [(.int .i64 0), (.int .u32 0), (.str [])])]) 1 [0]) [(.tmp 8)])⟩,
    ⟨(some 10), none, (.call 70 2 [(.tmp 9), (.const (.int .u64 5))] [])⟩,
    ⟨(some 6), none, (.prim .mov [(.tmp 10)])⟩,
    ⟨(some 11), none, (.prim (.ext 0) [(.tmp 6)])⟩,
    ⟨(some 12), none, (.prim (.ext 1) [(.tmp 6)])⟩,
    ⟨(some 1), none, (.prim .mov [(.tmp 11)])⟩,
    ⟨(some 2), none, (.prim .mov [(.tmp 12)])⟩] [6, 7, 8, 9, 10, 11, 12])
  (.seq (.region [⟨(some 14), none, (.call 47 1 [(.const (.int .u64 300)), (.const (.str [97, 98]))] [])⟩,
    ⟨(some 15), none, (.call 48 3 [(.tmp 14)] [])⟩,
    ⟨(some 13), none, (.prim .mov [(.tmp 15)])⟩,
    ⟨(some 16), none, (.prim (.ext 0) [(.tmp 13)])⟩,
    ⟨(some 17), none, (.prim (.ext 1) [(.tmp 13)])⟩,
    ⟨(some 18), none, (.prim (.ext 2) [(.tmp 13)])⟩,
    ⟨(some 3), none, (.prim .mov [(.tmp 16)])⟩,
    ⟨(some 4), none, (.prim .mov [(.tmp 17)])⟩,
    ⟨(some 5), none, (.prim .mov [(.tmp 18)])⟩] [13, 14, 15, 16, 17, 18])
  (.seq (.region [⟨(some 19), none, (.prim .mov [(.tmp 2)])⟩,
    ⟨(some 20), none, (.prim (.bin .eql) [(.tmp 19), (.const (.int .i64 0))])⟩,
    ⟨(some 21), none, (.prim .mov [(.tmp 20)])⟩,
    ⟨(some 22), (some (21, true)), (.prim .mov [(.tmp 1)])⟩,
    ⟨(some 23), (some (21, true)), (.prim (.bin .eql) [(.tmp 22), (.const (.str [1, 2, 2]))])⟩,
    ⟨(some 24), none, (.pick (.tmp 21) (.tmp 23) (.const (.bool false)))⟩,
    ⟨(some 25), none, (.prim .mov [(.tmp 24)])⟩,
    ⟨(some 26), (some (25, true)), (.prim .mov [(.tmp 5)])⟩,
    ⟨(some 27), (some (25, true)), (.prim (.bin .eql) [(.tmp 26), (.const (.int .i64 0))])⟩,
    ⟨(some 28), none, (.pick (.tmp 25) (.tmp 27) (.const (.bool false)))⟩,
    ⟨(some 29), none, (.prim .mov [(.tmp 28)])⟩,
    ⟨(some 30), (some (29, true)), (.prim .mov [(.tmp 3)])⟩,
    ⟨(some 31), (some (29, true)), (.prim (.bin .eql) [(.tmp 30), (.const (.int .u64 300))])⟩,
    ⟨(some 32), none, (.pick (.tmp 29) (.tmp 31) (.const (.bool false)))⟩,
    ⟨(some 33), none, (.prim .mov [(.tmp 32)])⟩,
    ⟨(some 34), (some (33, true)), (.prim .mov [(.tmp 4)])⟩,
    ⟨(some 35), (some (33, true)), (.prim (.bin .eql) [(.tmp 34), (.const (.str [97, 98]))])⟩,
    ⟨(some 36), none, (.pick (.tmp 33) (.tmp 35) (.const (.bool false)))⟩,
    ⟨(some 37), none, (.prim .mov [(.tmp 36)])⟩,
    ⟨(some 38), (some (37, true)), (.prim (.build [(.int .i64 0), (.int .u32 0), (.str [])] [0]) [(.const (.int .i64 2))])⟩,
    ⟨(some 39), (some (37, true)), (.call 45 1 [(.tmp 38)] [])⟩,
    ⟨(some 40), none, (.pick (.tmp 37) (.tmp 39) (.const (.bool false)))⟩,
    ⟨(some 0), none, (.prim .mov [(.tmp 40)])⟩] [1, 2, 3, 4, 5, 19, 20, 21, 22, 23, 24, 25, 26, 27, 28, 29, 30, 31, 32, 33, 34, 35, 36, 37, 38, 39, 40])
  .ret)))), [0], []⟩
theorem c44 : compile Try.prog sg 44 = some F44 := by kernel_rfl

def A45x2 : VCode := (.seq (.region [⟨(some 10), none, (.prim (.bin .eql) [(.tmp 8), (.const (.int .i64 1))])⟩,
    ⟨(some 9), none, (.prim .mov [(.tmp 10)])⟩] [10])
  (.cond (.tmp 9)
  .skip
  (.region [⟨(some 11), none, (.prim (.bin .eql) [(.tmp 8), (.const (.int .i64 6))])⟩,
    ⟨(some 9), none, (.prim .mov [(.tmp 11)])⟩] [11])))
def B45x2 : VCode := (.cond (.tmp 9)
  (.seq (.region [⟨(some 12), none, (.prim .mov [(.tmp 3)])⟩,
    ⟨(some 13), none, (.prim (.bin .eql) [(.tmp 12), (.const (.int .i64 0))])⟩,
    ⟨(some 2), none, (.prim .mov [(.tmp 13)])⟩] [1, 3, 8, 9, 12, 13])
  .ret)
  (.seq (.region [⟨(some 15), none, (.prim (.bin .eql) [(.tmp 8), (.const (.int .i64 2))])⟩,
    ⟨(some 14), none, (.prim .mov [(.tmp 15)])⟩] [9, 15])
  (.cond (.tmp 14)
  (.seq (.region [⟨(some 16), none, (.prim (.fptr 1) [(.const (.ptr []))])⟩,
    ⟨(some 17), none, (.prim .load [(.tmp 1), (.tmp 16)])⟩,
    ⟨(some 18), none, (.prim (.bin .eql) [(.tmp 17), (.const (.int .u32 0))])⟩,
    ⟨(some 19), none, (.prim .mov [(.tmp 18)])⟩,
    ⟨(some 20), (some (19, true)), (.prim .mov [(.tmp 3)])⟩,
    ⟨(some 21), (some (19, true)), (.prim (.bin .eql) [(.tmp 20), (.const (.int .i64 0))])⟩,
    ⟨(some 22), none, (.pick (.tmp 19) (.tmp 21) (.const (.bool false)))⟩,
    ⟨(some 2), none, (.prim .mov [(.tmp 22)])⟩] [1, 3, 8, 14, 16, 17, 18, 19, 20, 21, 22])
  .ret)
  (.seq (.region [⟨(some 24), none, (.prim (.bin .eql) [(.tmp 8), (.const (.int .i64 3))])⟩,
    ⟨(some 23), none, (.prim .mov [(.tmp 24)])⟩] [14, 24])
  (.cond (.tmp 23)
  (.seq (.region [⟨(some 25), none, (.prim (.fptr 1) [(.const (.ptr []))])⟩,
    ⟨(some 26), none, (.prim .load [(.tmp 1), (.tmp 25)])⟩,
    ⟨(some 27), none, (.prim (.bin .leq) [(.tmp 26), (.const (.int .u32 255))])⟩,
    ⟨(some 28), none, (.prim .mov [(.tmp 27)])⟩,
    ⟨(some 29), (some (28, true)), (.prim .mov [(.tmp 3)])⟩,
    ⟨(some 30), (some (28, true)), (.prim (.bin .eql) [(.tmp 29), (.const (.int .i64 0))])⟩,
    ⟨(some 31), none, (.pick (.tmp 28) (.tmp 30) (.const (.bool false)))⟩,
    ⟨(some 2), none, (.prim .mov [(.tmp 31)])⟩] [1, 3, 8, 23, 25, 26, 27, 28, 29, 30, 31])
  .ret)
  (.seq (.region [⟨(some 33), none, (.prim (.bin .eql) [(.tmp 8), (.const (.int .i64 4))])⟩,
    ⟨(some 32), none, (.prim .mov [(.tmp 33)])⟩] [23, 33])
  (.cond (.tmp 32)
  (.seq (.region [⟨(some 34), none, (.prim (.fptr 1) [(.const (.ptr []))])⟩,
    ⟨(some 35), none, (.prim .load [(.tmp 1), (.tmp 34)])⟩,
    ⟨(some 36), none, (.prim (.bin .leq) [(.tmp 35), (.const (.int .u32 1))])⟩,
    ⟨(some 37), none, (.prim .mov [(.tmp 36)])⟩,
    ⟨(some 38), (some (37, true)), (.prim .mov [(.tmp 3)])⟩,
    ⟨(some 39), (some (37, true)), (.prim (.bin .eql) [(.tmp 38), (.const (.int .i64 0))])⟩,
    ⟨(some 40), none, (.pick (.tmp 37) (.tmp 39) (.const (.bool false)))⟩,
    ⟨(some 41), none, (.prim .mov [(.tmp 40)])⟩,
    ⟨(some 42), (some (41, false)), (.prim (.fptr 1) [(.const (.ptr []))])⟩,
    ⟨(some 43), (some (41, false)), (.prim .load [(.tmp 1), (.tmp 42)])⟩,
    ⟨(some 44), (some (41, false)), (.prim (.bin .eql) [(.tmp 43), (.const (.int .u32 1))])⟩,
    ⟨(some 45), (some (41, false)), (.prim .mov [(.tmp 44)])⟩,
    ⟨(some 46), (some (45, true)), (.prim .mov [(.tmp 3)])⟩,
    ⟨(some 47), (some (45, true)), (.prim (.bin .eql) [(.tmp 46), (.const (.int .i64 128))])⟩,
    ⟨(some 48), (some (41, false)), (.pick (.tmp 45) (.tmp 47) (.const (.bool false)))⟩,
    ⟨(some 49), none, (.pick (.tmp 41) (.const (.bool true)) (.tmp 48))⟩,
    ⟨(some 2), none, (.prim .mov [(.tmp 49)])⟩] [1, 3, 8, 32, 34, 35, 36, 37, 38, 39, 40, 41, 42, 43, 44, 45, 46, 47, 48, 49])
  .ret)
  (.seq (.region [⟨(some 51), none, (.prim (.bin .eql) [(.tmp 8), (.const (.int .i64 5))])⟩,
    ⟨(some 50), none, (.prim .mov [(.tmp 51)])⟩] [8, 32, 51])
  (.cond (.tmp 50)
  (.seq (.region [⟨(some 52), none, (.prim (.fptr 1) [(.const (.ptr []))])⟩,
    ⟨(some 53), none, (.prim .load [(.tmp 1), (.tmp 52)])⟩,
    ⟨(some 54), none, (.prim (.bin .eql) [(.tmp 53), (.const (.int .u32 0))])⟩,
    ⟨(some 55), none, (.prim .mov [(.tmp 54)])⟩,
    ⟨(some 56), (some (55, true)), (.prim .mov [(.tmp 3)])⟩,
    ⟨(some 57), (some (55, true)), (.prim (.bin .geq) [(.tmp 56), (.const (.int .i64 1))])⟩,
    ⟨(some 58), none, (.pick (.tmp 55) (.tmp 57) (.const (.bool false)))⟩,
    ⟨(some 59), none, (.prim .mov [(.tmp 58)])⟩,
    ⟨(some 60), (some (59, true)), (.prim .mov [(.tmp 3)])⟩,
    ⟨(some 61), (some (59, true)), (.prim (.bin .leq) [(.tmp 60), (.const (.int .i64 128))])⟩,
    ⟨(some 62), none, (.pick (.tmp 59) (.tmp 61) (.const (.bool false)))⟩,
    ⟨(some 2), none, (.prim .mov [(.tmp 62)])⟩] [1, 3, 50, 52, 53, 54, 55, 56, 57, 58, 59, 60, 61, 62])
  .ret)
  .skip)))))))))
def A45x1 : VCode := (.seq (.region [⟨(some 7), none, (.prim (.fptr 0) [(.const (.ptr []))])⟩,
    ⟨(some 8), none, (.prim .load [(.tmp 1), (.tmp 7)])⟩] [7])
  (.block 0 (.seq A45x2
  B45x2)))
def B45x1 : VCode := (.seq (.region [⟨(some 2), none, (.prim .mov [(.const (.bool false))])⟩] [1, 3, 50])
  .ret)

/-- vmfleet/eventlog.Valid -/
def F45 : VFunc := ⟨63,
  (.seq (.region [⟨(some 1), none, (.prim .mov [(.tmp 0)])⟩,
    ⟨(some 2), none, (.prim .mov [(.const (.bool false))])⟩] [0, 2])
  (.seq (.region [⟨(some 4), none, (.prim (.fptr 2) [(.const (.ptr []))])⟩,
    ⟨(some 5), none, (.prim .load [(.tmp 1), (.tmp 4)])⟩,
    ⟨(some 6), none, (.prim .len [(.tmp 5)])⟩,
    ⟨(some 3), none, (.prim .mov [(.tmp 6)])⟩] [4, 5, 6])
  (.seq A45x1
  B45x1))), [2], []⟩
theorem c45 : compile Try.prog sg 45 = some F45 := by kernel_rfl

def A46x2 : VCode := (.seq (.region [⟨(some 6), none, (.prim (.bin .eql) [(.tmp 4), (.const (.int .i64 1))])⟩,
    ⟨(some 5), none, (.prim .mov [(.tmp 6)])⟩] [6])
  (.cond (.tmp 5)
  .skip
  (.region [⟨(some 7), none, (.prim (.bin .eql) [(.tmp 4), (.const (.int .i64 6))])⟩,
    ⟨(some 5), none, (.prim .mov [(.tmp 7)])⟩] [7])))
def B46x2 : VCode := (.cond (.tmp 5)
  (.seq (.region [⟨(some 8), none, (.prim (.fptr 2) [(.const (.ptr []))])⟩,
    ⟨(some 9), none, (.prim .load [(.tmp 1), (.tmp 8)])⟩,
    ⟨(some 10), none, (.prim (.bin .eql) [(.tmp 9), (.const (.str []))])⟩,
    ⟨(some 2), none, (.prim .mov [(.tmp 10)])⟩] [1, 4, 5, 8, 9, 10])
  .ret)
  (.seq (.region [⟨(some 12), none, (.prim (.bin .eql) [(.tmp 4), (.const (.int .i64 2))])⟩,
    ⟨(some 11), none, (.prim .mov [(.tmp 12)])⟩] [5, 12])
  (.cond (.tmp 11)
  (.seq (.region [⟨(some 13), none, (.prim (.fptr 1) [(.const (.ptr []))])⟩,
    ⟨(some 14), none, (.prim .load [(.tmp 1), (.tmp 13)])⟩,
    ⟨(some 15), none, (.prim (.bin .eql) [(.tmp 14), (.const (.int .u32 0))])⟩,
    ⟨(some 16), none, (.prim .mov [(.tmp 15)])⟩,
    ⟨(some 17), (some (16, true)), (.prim (.fptr 2) [(.const (.ptr []))])⟩,
    ⟨(some 18), (some (16, true)), (.prim .load [(.tmp 1), (.tmp 17)])⟩,
    ⟨(some 19), (some (16, true)), (.prim (.bin .eql) [(.tmp 18), (.const (.str []))])⟩,
    ⟨(some 20), none, (.pick (.tmp 16) (.tmp 19) (.const (.bool false)))⟩,
    ⟨(some 2), none, (.prim .mov [(.tmp 20)])⟩] [1, 4, 11, 13, 14, 15, 16, 17, 18, 19, 20])
  .ret)
  (.seq (.region [⟨(some 22), none, (.prim (.bin .eql) [(.tmp 4), (.const (.int .i64 3))])⟩,
    ⟨(some 21), none, (.prim .mov [(.tmp 22)])⟩] [11, 22])
  (.cond (.tmp 21)
  (.seq (.region [⟨(some 23), none, (.prim (.fptr 1) [(.const (.ptr []))])⟩,
    ⟨(some 24), none, (.prim .load [(.tmp 1), (.tmp 23)])⟩,
    ⟨(some 25), none, (.prim (.bin .leq) [(.tmp 24), (.const (.int .u32 255))])⟩,
    ⟨(some 26), none, (.prim .mov [(.tmp 25)])⟩,
    ⟨(some 27), (some (26, true)), (.prim (.fptr 2) [(.const (.ptr []))])⟩,
    ⟨(some 28), (some (26, true)), (.prim .load [(.tmp 1), (.tmp 27)])⟩,
    ⟨(some 29), (some (26, true)), (.prim (.bin .eql) [(.tmp 28), (.const (.str []))])⟩,
    ⟨(some 30), none, (.pick (.tmp 26) (.tmp 29) (.const (.bool false)))⟩,
    ⟨(some 2), none, (.prim .mov [(.tmp 30)])⟩] [1, 4, 21, 23, 24, 25, 26, 27, 28, 29, 30])
  .ret)
  (.seq (.region [⟨(some 32), none, (.prim (.bin .eql) [(.tmp 4), (.const (.int .i64 4))])⟩,
    ⟨(some 31), none, (.prim .mov [(.tmp 32)])⟩] [21, 32])
  (.cond (.tmp 31)
  (.seq (.region [⟨(some 33), none, (.prim (.fptr 1) [(.const (.ptr []))])⟩,
    ⟨(some 34), none, (.prim .load [(.tmp 1), (.tmp 33)])⟩,
    ⟨(some 35), none, (.prim (.bin .leq) [(.tmp 34), (.const (.int .u32 1))])⟩,
    ⟨(some 36), none, (.prim .mov [(.tmp 35)])⟩,
    ⟨(some 37), (some (36, true)), (.prim (.fptr 2) [(.const (.ptr []))])⟩,
    ⟨(some 38), (some (36, true)), (.prim .load [(.tmp 1), (.tmp 37)])⟩,
    ⟨(some 39), (some (36, true)), (.prim (.bin .eql) [(.tmp 38), (.const (.str []))])⟩,
    ⟨(some 40), (some (36, true)), (.prim .mov [(.tmp 39)])⟩,
    ⟨(some 41), (some (40, false)), (.prim (.fptr 1) [(.const (.ptr []))])⟩,
    ⟨(some 42), (some (40, false)), (.prim .load [(.tmp 1), (.tmp 41)])⟩,
    ⟨(some 43), (some (40, false)), (.prim (.bin .eql) [(.tmp 42), (.const (.int .u32 1))])⟩,
    ⟨(some 44), (some (40, false)), (.prim .mov [(.tmp 43)])⟩,
    ⟨(some 45), (some (44, true)), (.prim (.fptr 2) [(.const (.ptr []))])⟩,
    ⟨(some 46), (some (44, true)), (.prim .load [(.tmp 1), (.tmp 45)])⟩,
    ⟨(some 47), (some (44, true)), (.prim .len [(.tmp 46)])⟩,
    ⟨(some 48), (some (44, true)), (.prim (.bin .eql) [(.tmp 47), (.const (.int .i64 128))])⟩,
    ⟨(some 49), (some (40, false)), (.pick (.tmp 44) (.tmp 48) (.const (.bool false)))⟩,
    ⟨(some 50), (some (36, true)), (.pick (.tmp 40) (.const (.bool true)) (.tmp 49))⟩,
    ⟨(some 51), none, (.pick (.tmp 36) (.tmp 50) (.const (.bool false)))⟩,
    ⟨(some 2), none, (.prim .mov [(.tmp 51)])⟩] [1, 4, 31, 33, 34, 35, 36, 37, 38, 39, 40, 41, 42, 43, 44, 45, 46, 47, 48, 49, 50, 51])
  .ret)
  (.seq (.region [⟨(some 53), none, (.prim (.bin .eql) [(.tmp 4), (.const (.int .i64 5))])⟩,
    ⟨(some 52), none, (.prim .mov [(.tmp 53)])⟩] [4, 31, 53])
  (.cond (.tmp 52)
  (.seq (.region [⟨(some 54), none, (.prim (.fptr 1) [(.const (.ptr []))])⟩,
    ⟨(some 55), none, (.prim .load [(.tmp 1), (.tmp 54)])⟩,
    ⟨(some 56), none, (.prim (.bin .eql) [(.tmp 55), (.const (.int .u32 0))])⟩,
    ⟨(some 57), none, (.prim .mov [(.tmp 56)])⟩,
    ⟨(some 58), (some (57, true)), (.prim (.fptr 2) [(.const (.ptr []))])⟩,
    ⟨(some 59), (some (57, true)), (.prim .load [(.tmp 1), (.tmp 58)])⟩,
    ⟨(some 60), (some (57, true)), (.prim .len [(.tmp 59)])⟩,
    ⟨(some 61), (some (57, true)), (.prim (.bin .geq) [(.tmp 60), (.const (.int .i64 1))])⟩,
    ⟨(some 62), none, (.pick (.tmp 57) (.tmp 61) (.const (.bool false)))⟩,
    ⟨(some 63), none, (.prim .mov [(.tmp 62)])⟩,
    ⟨(some 64), (some (63, true)), (.prim (.fptr 2) [(.const (.ptr []))])⟩,
    ⟨(some 65), (some (63, true)), (.prim .load [(.tmp 1), (.tmp 64)])⟩,
    ⟨(some 66), (some (63, true)), (.prim .len [(.tmp 65)])⟩,
    ⟨(some 67), (some (63, true)), (.prim (.bin .leq) [(.tmp 66), (.const (.int .i64 128))])⟩,
    ⟨(some 68), none, (.pick (.tmp 63) (.tmp 67) (.const (.bool false)))⟩,
    ⟨(some 2), none, (.prim .mov [(.tmp 68)])⟩] [1, 52, 54, 55, 56, 57, 58, 59, 60, 61, 62, 63, 64, 65, 66, 67, 68])
  .ret)
  .skip)))))))))
def A46x1 : VCode := (.seq (.region [⟨(some 3), none, (.prim (.fptr 0) [(.const (.ptr []))])⟩,
    ⟨(some 4), none, (.prim .load [(.tmp 1), (.tmp 3)])⟩] [3])
  (.block 0 (.seq A46x2
  B46x2)))
def B46x1 : VCode := (.seq (.region [⟨(some 2), none, (.prim .mov [(.const (.bool false))])⟩] [1, 52])
  .ret)

/-- vmfleet/vmfleetref19.Valid -/
def F46 : VFunc := ⟨69,
  (.seq (.region [⟨(some 1), none, (.prim .mov [(.tmp 0)])⟩,
    ⟨(some 2), none, (.prim .mov [(.const (.bool false))])⟩] [0, 2])
  (.seq A46x1
  B46x1)), [2], []⟩
theorem c46 : compile Try.prog sg 46 = some F46 := by kernel_rfl


/-- vmfleet/eventlog.Seal -/
def F47 : VFunc := ⟨15,
  (.seq (.region [⟨(some 4), none, (.prim .mov [(.const (.str []))])⟩] [4])
  (.seq (.region [⟨(some 6), none, (.prim .mov [(.tmp 0)])⟩,
    ⟨(some 7), none, (.call 66 1 [(.tmp 6)] [])⟩,
    ⟨(some 8), none, (.prim .mov [(.tmp 1)])⟩,
    ⟨(some 9), none, (.call 71 1 [(.tmp 8)] [])⟩,
    ⟨(some 10), none, (.prim (.bin .add) [(.tmp 7), (.tmp 9)])⟩,
    ⟨(some 5), none, (.prim .mov [(.tmp 10)])⟩] [0, 1, 6, 7, 8, 9, 10])
  (.seq (.region [⟨(some 11), none, (.prim .mov [(.tmp 5)])⟩,
    ⟨(some 12), none, (.prim .mov [(.tmp 5)])⟩,
    ⟨(some 13), none, (.call 72 1 [(.tmp 12)] [])⟩,
    ⟨(some 14), none, (.prim (.bin .add) [(.tmp 11), (.tmp 13)])⟩,
    ⟨(some 4), none, (.prim .mov [(.tmp 14)])⟩] [5, 11, 12, 13, 14])
  .ret))), [4], []⟩
theorem c47 : compile Try.prog sg 47 = some F47 := by kernel_rfl


/-- vmfleet/eventlog.Open -/
def F48 : VFunc := ⟨41,
  (.seq (.region [⟨(some 2), none, (.prim .mov [(.const (.int .u64 0))])⟩,
    ⟨(some 3), none, (.prim .mov [(.const (.str []))])⟩,
    ⟨(some 4), none, (.prim .mov [(.const (.int .i64 0))])⟩] [2, 3, 4])
  (.seq (.region [⟨(some 8), none, (.prim .mov [(.tmp 0)])⟩,
    ⟨(some 9), none, (.prim (.build [(.str []), (.bool false)] [0, 1]) [(.tmp 8), (.const (.bool true))])⟩,
    ⟨(some 10), none, (.prim .mov [(.tmp 9)])⟩,
    ⟨(some 5), none, (.prim .mov [(.const (.ptr []))])⟩] [8, 9])
  (.seq (.region [⟨(some 11), none, (.prim .mov [(.tmp 5)])⟩,
    ⟨(some 12), none, (.call 73 1 [(.deref 10 (some 11))] [(10, (some 11))])⟩,
    ⟨(some 13), none, (.prim .mov [(.tmp 5)])⟩,
    ⟨(some 14), none, (.call 74 1 [(.deref 10 (some 13))] [(10, (some 13))])⟩,
    ⟨(some 6), none, (.prim .mov [(.tmp 12)])⟩,
    ⟨(some 7), none, (.prim .mov [(.tmp 14)])⟩] [11, 12, 13, 14])
  (.seq (.seq (.region [⟨(some 15), none, (.prim .mov [(.tmp 5)])⟩,
    ⟨(some 16), none, (.prim .mov [(.tmp 15)])⟩,
    ⟨(some 17), none, (.prim (.fptr 1) [(.tmp 16)])⟩,
    ⟨(some 18), none, (.prim .load [(.tmp 10), (.tmp 17)])⟩,
    ⟨(some 19), none, (.prim (.un .not) [(.tmp 18)])⟩,
    ⟨(some 20), none, (.prim .mov [(.tmp 19)])⟩,
    ⟨(some 21), (some (20, false)), (.prim .mov [(.tmp 5)])⟩,
    ⟨(some 22), (some (20, false)), (.prim .mov [(.tmp 21)])⟩,
    ⟨(some 23), (some (20, false)), (.prim (.fptr 0) [(.tmp 22)])⟩,
    ⟨(some 24), (some (20, false)), (.prim .load [(.tmp 10), (.tmp 23)])⟩,
    ⟨(some 25), (some (20, false)), (.prim .len [(.tmp 24)])⟩,
    ⟨(some 26), (some (20, false)), (.prim (.bin .neq) [(.tmp 25), (.const (.int .i64 8))])⟩,
    ⟨(some 27), none, (.pick (.tmp 20) (.const (.bool true)) (.tmp 26))⟩] [15, 16, 17, 18, 19, 20, 21, 22, 23, 24, 25, 26])
  (.cond (.tmp 27)
  (.seq (.region [⟨(some 2), none, (.prim .mov [(.const (.int .u64 0))])⟩,
    ⟨(some 3), none, (.prim .mov [(.const (.str []))])⟩,
    ⟨(some 4), none, (.prim .mov [(.const (.int .i64 1900))])⟩] [0, 5, 6, 7, 10, 27])
  .ret)
  .skip))
  (.seq (.seq (.region [⟨(some 28), none, (.prim .mov [(.tmp 5)])⟩,
    ⟨(some 29), none, (.prim .mov [(.tmp 28)])⟩,
    ⟨(some 30), none, (.prim (.fptr 0) [(.tmp 29)])⟩,
    ⟨(some 31), none, (.prim .load [(.tmp 10), (.tmp 30)])⟩,
    ⟨(some 32), none, (.prim .mov [(.tmp 0)])⟩,
    ⟨(some 33), none, (.prim .mov [(.tmp 0)])⟩,
    ⟨(some 34), none, (.prim .len [(.tmp 33)])⟩,
    ⟨(some 35), none, (.prim (.bin .sub) [(.tmp 34), (.const (.int .i64 8))])⟩,
    ⟨(some 36), none, (.prim (.sl false true) [(.tmp 32), (.tmp 35)])⟩,
    ⟨(some 37), none, (.call 72 1 [(.tmp 36)] [])⟩,
    ⟨(some 38), none, (.prim (.bin .neq) [(.tmp 31), (.tmp 37)])⟩] [0, 5, 10, 27, 28, 29, 30, 31, 32, 33, 34, 35, 36, 37])
  (.cond (.tmp 38)
  (.seq (.region [⟨(some 2), none, (.prim .mov [(.const (.int .u64 0))])⟩,
    ⟨(some 3), none, (.prim .mov [(.const (.str []))])⟩,
    ⟨(some 4), none, (.prim .mov [(.const (.int .i64 1903))])⟩] [6, 7, 38])
  .ret)
  .skip))
  (.seq (.region [⟨(some 39), none, (.prim .mov [(.tmp 6)])⟩,
    ⟨(some 40), none, (.prim .mov [(.tmp 7)])⟩,
    ⟨(some 2), none, (.prim .mov [(.tmp 39)])⟩,
    ⟨(some 3), none, (.prim .mov [(.tmp 40)])⟩,
    ⟨(some 4), none, (.prim .mov [(.const (.int .i64 0))])⟩] [6, 7, 38, 39, 40])
  .ret)))))), [2, 3, 4], []⟩
theorem c48 : compile Try.prog sg 48 = some F48 := by kernel_rfl


/-- vmfleet/vmfleetref19.Seal -/
def F49 : VFunc := ⟨20,
  (.seq (.region [⟨(some 4), none, (.prim .mov [(.const (.str []))])⟩] [4])
  (.seq (.region [⟨(some 6), none, (.prim .mov [(.tmp 0)])⟩,
    ⟨(some 7), none, (.call 67 1 [(.tmp 6)] [])⟩,
    ⟨(some 8), none, (.prim .mov [(.tmp 1)])⟩,
    ⟨(some 9), none, (.prim .len [(.tmp 8)])⟩,
    ⟨(some 10), none, (.prim (.toInt .u64) [(.tmp 9)])⟩,
    ⟨(some 11), none, (.call 67 1 [(.tmp 10)] [])⟩,
    ⟨(some 12), none, (.prim (.bin .add) [(.tmp 7), (.tmp 11)])⟩,
    ⟨(some 13), none, (.prim .mov [(.tmp 1)])⟩,
    ⟨(some 14), none, (.prim (.bin .add) [(.tmp 12), (.tmp 13)])⟩,
    ⟨(some 5), none, (.prim .mov [(.tmp 14)])⟩] [0, 1, 6, 7, 8, 9, 10, 11, 12, 13, 14])
  (.seq (.region [⟨(some 15), none, (.prim .mov [(.tmp 5)])⟩,
    ⟨(some 16), none, (.prim .mov [(.tmp 5)])⟩,
    ⟨(some 17), none, (.call 76 1 [(.const (.int .u64 14695981039346656037)), (.tmp 16)] [])⟩,
    ⟨(some 18), none, (.call 75 1 [(.tmp 17)] [])⟩,
    ⟨(some 19), none, (.prim (.bin .add) [(.tmp 15), (.tmp 18)])⟩,
    ⟨(some 4), none, (.prim .mov [(.tmp 19)])⟩] [5, 15, 16, 17, 18, 19])
  .ret))), [4], []⟩
theorem c49 : compile Try.prog sg 49 = some F49 := by kernel_rfl


/-- vmfleet/vmfleetref19.Open -/
def F50 : VFunc := ⟨43,
  (.seq (.region [⟨(some 2), none, (.prim .mov [(.const (.int .u64 0))])⟩,
    ⟨(some 3), none, (.prim .mov [(.const (.str []))])⟩,
    ⟨(some 4), none, (.prim .mov [(.const (.int .i64 0))])⟩] [2, 3, 4])
  (.seq (.region [⟨(some 8), none, (.prim .mov [(.tmp 0)])⟩,
    ⟨(some 9), none, (.prim (.build [(.str []), (.bool false)] [0]) [(.tmp 8)])⟩,
    ⟨(some 10), none, (.prim .mov [(.tmp 9)])⟩,
    ⟨(some 5), none, (.prim .mov [(.const (.ptr []))])⟩] [8, 9])
  (.seq (.region [⟨(some 11), none, (.prim .mov [(.tmp 5)])⟩,
    ⟨(some 12), none, (.call 77 1 [(.deref 10 (some 11))] [(10, (some 11))])⟩,
    ⟨(some 6), none, (.prim .mov [(.tmp 12)])⟩] [11, 12])
  (.seq (.region [⟨(some 13), none, (.prim .mov [(.tmp 5)])⟩,
    ⟨(some 14), none, (.prim .mov [(.tmp 5)])⟩,
    ⟨(some 15), none, (.call 77 1 [(.deref 10 (some 14))] [(10, (some 14))])⟩,
    ⟨(some 16), none, (.call 78 1 [(.deref 10 (some 13)), (.tmp 15)] [(10, (some 13))])⟩,
    ⟨(some 7), none, (.prim .mov [(.tmp 16)])⟩] [13, 14, 15, 16])
  (.seq (.seq (.region [⟨(some 17), none, (.prim .mov [(.tmp 5)])⟩,
    ⟨(some 18), none, (.prim .mov [(.tmp 17)])⟩,
    ⟨(some 19), none, (.prim (.fptr 1) [(.tmp 18)])⟩,
    ⟨(some 20), none, (.prim .load [(.tmp 10), (.tmp 19)])⟩,
    ⟨(some 21), none, (.prim .mov [(.tmp 20)])⟩,
    ⟨(some 22), (some (21, false)), (.prim .mov [(.tmp 5)])⟩,
    ⟨(some 23), (some (21, false)), (.prim .mov [(.tmp 22)])⟩,
    ⟨(some 24), (some (21, false)), (.prim (.fptr 0) [(.tmp 23)])⟩,
    ⟨(some 25), (some (21, false)), (.prim .load [(.tmp 10), (.tmp 24)])⟩,
    ⟨(some 26), (some (21, false)), (.prim .len [(.tmp 25)])⟩,
    ⟨(some 27), (some (21, false)), (.prim (.bin .neq) [(.tmp 26), (.const (.int .i64 8))])⟩,
    ⟨(some 28), none, (.pick (.tmp 21) (.const (.bool true)) (.tmp 27))⟩] [17, 18, 19, 20, 21, 22, 23, 24, 25, 26, 27])
  (.cond (.tmp 28)
  (.seq (.region [⟨(some 2), none, (.prim .mov [(.const (.int .u64 0))])⟩,
    ⟨(some 3), none, (.prim .mov [(.const (.str []))])⟩,
    ⟨(some 4), none, (.prim .mov [(.const (.int .i64 1900))])⟩] [0, 5, 6, 7, 10, 28])
  .ret)
  .skip))
  (.seq (.seq (.region [⟨(some 29), none, (.prim .mov [(.tmp 0)])⟩,
    ⟨(some 30), none, (.prim .mov [(.tmp 0)])⟩,
    ⟨(some 31), none, (.prim .len [(.tmp 30)])⟩,
    ⟨(some 32), none, (.prim (.bin .sub) [(.tmp 31), (.const (.int .i64 8))])⟩,
    ⟨(some 33), none, (.prim (.sl false true) [(.tmp 29), (.tmp 32)])⟩,
    ⟨(some 34), none, (.call 76 1 [(.const (.int .u64 14695981039346656037)), (.tmp 33)] [])⟩,
    ⟨(some 35), none, (.call 75 1 [(.tmp 34)] [])⟩,
    ⟨(some 36), none, (.prim .mov [(.tmp 5)])⟩,
    ⟨(some 37), none, (.prim .mov [(.tmp 36)])⟩,
    ⟨(some 38), none, (.prim (.fptr 0) [(.tmp 37)])⟩,
    ⟨(some 39), none, (.prim .load [(.tmp 10), (.tmp 38)])⟩,
    ⟨(some 40), none, (.prim (.bin .neq) [(.tmp 35), (.tmp 39)])⟩] [0, 5, 10, 28, 29, 30, 31, 32, 33, 34, 35, 36, 37, 38, 39])
  (.cond (.tmp 40)
  (.seq (.region [⟨(some 2), none, (.prim .mov [(.const (.int .u64 0))])⟩,
    ⟨(some 3), none, (.prim .mov [(.const (.str []))])⟩,
    ⟨(some 4), none, (.prim .mov [(.const (.int .i64 1903))])⟩] [6, 7, 40])
  .ret)
  .skip))
  (.seq (.region [⟨(some 41), none, (.prim .mov [(.tmp 6)])⟩,
    ⟨(some 42), none, (.prim .mov [(.tmp 7)])⟩,
    ⟨(some 2), none, (.prim .mov [(.tmp 41)])⟩,
    ⟨(some 3), none, (.prim .mov [(.tmp 42)])⟩,
    ⟨(some 4), none, (.prim .mov [(.const (.int .i64 0))])⟩] [6, 7, 40, 41, 42])
  .ret))))))), [2, 3, 4], []⟩
theorem c50 : compile Try.prog sg 50 = some F50 := by kernel_rfl

def kL63x2 : List Nat := [1, 2, 3, 4, 6, 7, 8, 9, 12, 13, 14, 15, 16, 17, 18, 19, 20, 21, 22, 23, 24, 25, 26, 27, 28, 29, 30, 31, 32, 33, 34, 35, 36, 37, 38, 39, 40, 41, 42]
def L63x2 : VCode := (.seq (.region [⟨(some 12), none, (.prim (.bin .lss) [(.tmp 11), (.tmp 10)])⟩] [])
  (.seq (.cond (.tmp 12)
  .skip
  (.seq (.region [] [0, 1, 2, 3, 4, 5, 6, 7, 8, 9, 10, 11, 12, 13, 14, 15, 16, 17, 18, 19, 20, 21, 22, 23, 24, 25, 26, 27, 28, 29, 30, 31, 32, 33, 34, 35, 36, 37, 38, 39, 40, 41, 42])
  (.exit 0)))
  (.seq (.block 1 (.seq (.region [⟨(some 13), none, (.prim .mov [(.tmp 11)])⟩,
    ⟨(some 6), none, (.prim .mov [(.tmp 13)])⟩] [12, 13])
  (.seq (.region [⟨(some 14), none, (.prim .mov [(.tmp 0)])⟩,
    ⟨(some 15), none, (.prim .mov [(.tmp 6)])⟩,
    ⟨(some 16), none, (.prim .index [(.tmp 14), (.tmp 15)])⟩,
    ⟨(some 7), none, (.prim .mov [(.tmp 16)])⟩] [14, 15, 16])
  (.seq (.seq (.region [⟨(some 17), none, (.prim .mov [(.tmp 6)])⟩,
    ⟨(some 18), none, (.prim (.bin .eql) [(.tmp 17), (.const (.int .i64 9))])⟩,
    ⟨(some 19), none, (.prim .mov [(.tmp 18)])⟩,
    ⟨(some 20), (some (19, true)), (.prim .mov [(.tmp 7)])⟩,
    ⟨(some 21), (some (19, true)), (.prim (.bin .gtr) [(.tmp 20), (.const (.int .u8 1))])⟩,
    ⟨(some 22), none, (.pick (.tmp 19) (.tmp 21) (.const (.bool false)))⟩] [17, 18, 19])
  (.cond (.tmp 22)
  (.seq (.region [⟨(some 2), none, (.prim .mov [(.const (.int .u64 0))])⟩,
    ⟨(some 3), none, (.prim .mov [(.const (.int .i64 0))])⟩,
    ⟨(some 4), none, (.prim .mov [(.const (.bool false))])⟩] [0, 5, 6, 7, 10, 11, 20, 21, 22])
  .ret)
  .skip))
  (.seq (.region [⟨(some 23), none, (.prim .mov [(.tmp 5)])⟩,
    ⟨(some 24), none, (.prim .mov [(.tmp 7)])⟩,
    ⟨(some 25), none, (.prim (.bin .and) [(.tmp 24), (.const (.int .u8 127))])⟩,
    ⟨(some 26), none, (.prim (.toInt .u64) [(.tmp 25)])⟩,
    ⟨(some 27), none, (.prim .mov [(.tmp 6)])⟩,
    ⟨(some 28), none, (.prim (.bin .mul) [(.const (.int .i64 7)), (.tmp 27)])⟩,
    ⟨(some 29), none, (.prim (.bin .shl) [(.tmp 26), (.tmp 28)])⟩,
    ⟨(some 30), none, (.prim (.bin .or) [(.tmp 23), (.tmp 29)])⟩,
    ⟨(some 5), none, (.prim .mov [(.tmp 30)])⟩] [22, 23, 24, 25, 26, 27, 28, 29, 30])
  (.seq (.region [⟨(some 31), none, (.prim .mov [(.tmp 7)])⟩,
    ⟨(some 32), none, (.prim (.bin .lss) [(.tmp 31), (.const (.int .u8 128))])⟩] [31])
  (.cond (.tmp 32)
  (.seq (.seq (.region [⟨(some 33), none, (.prim .mov [(.tmp 7)])⟩,
    ⟨(some 34), none, (.prim (.bin .eql) [(.tmp 33), (.const (.int .u8 0))])⟩,
    ⟨(some 35), none, (.prim .mov [(.tmp 34)])⟩,
    ⟨(some 36), (some (35, true)), (.prim .mov [(.tmp 6)])⟩,
    ⟨(some 37), (some (35, true)), (.prim (.bin .gtr) [(.tmp 36), (.const (.int .i64 0))])⟩,
    ⟨(some 38), none, (.pick (.tmp 35) (.tmp 37) (.const (.bool false)))⟩] [0, 7, 10, 11, 20, 21, 32, 33, 34, 35, 36, 37])
  (.cond (.tmp 38)
  (.seq (.region [⟨(some 2), none, (.prim .mov [(.const (.int .u64 0))])⟩,
    ⟨(some 3), none, (.prim .mov [(.const (.int .i64 0))])⟩,
    ⟨(some 4), none, (.prim .mov [(.const (.bool false))])⟩] [5, 6, 38])
  .ret)
  .skip))
  (.seq (.region [⟨(some 39), none, (.prim .mov [(.tmp 5)])⟩,
    ⟨(some 40), none, (.prim .mov [(.tmp 6)])⟩,
    ⟨(some 41), none, (.prim (.bin .add) [(.tmp 40), (.const (.int .i64 1))])⟩,
    ⟨(some 2), none, (.prim .mov [(.tmp 39)])⟩,
    ⟨(some 3), none, (.prim .mov [(.tmp 41)])⟩,
    ⟨(some 4), none, (.prim .mov [(.const (.bool true))])⟩] [5, 6, 38, 39, 40, 41])
  .ret))
  .skip)))))))
  (.region [⟨(some 42), none, (.prim (.bin .add) [(.tmp 11), (.const (.int .i64 1))])⟩,
    ⟨(some 11), none, (.prim .mov [(.tmp 42)])⟩] [6, 7, 32, 42]))))
def A63x1 : VCode := (.seq (.region [⟨(some 8), none, (.prim .mov [(.tmp 0)])⟩,
    ⟨(some 9), none, (.prim .len [(.tmp 8)])⟩,
    ⟨(some 10), none, (.prim .minI [(.tmp 9), (.const (.int .i64 10))])⟩,
    ⟨(some 11), none, (.prim .mov [(.const (.int .i64 0))])⟩] [8, 9])
  (.block 0 (.loop kL63x2 L63x2)))
def B63x1 : VCode := (.seq (.region [⟨(some 2), none, (.prim .mov [(.const (.int .u64 0))])⟩,
    ⟨(some 3), none, (.prim .mov [(.const (.int .i64 0))])⟩,
    ⟨(some 4), none, (.prim .mov [(.const (.bool false))])⟩] [])
  .ret)

/-- vmfleet/bits.Uvarint -/
def F63 : VFunc := ⟨43,
  (.seq (.region [⟨(some 2), none, (.prim .mov [(.const (.int .u64 0))])⟩,
    ⟨(some 3), none, (.prim .mov [(.const (.int .i64 0))])⟩,
    ⟨(some 4), none, (.prim .mov [(.const (.bool false))])⟩] [2, 3, 4])
  (.seq (.region [⟨(some 5), none, (.prim .mov [(.const (.int .u64 0))])⟩] [])
  (.seq A63x1
  B63x1))), [2, 3, 4], []⟩
theorem c63 : compile Try.prog sg 63 = some F63 := by kernel_rfl

def kL66x2 : List Nat := [1, 2, 4, 5, 6, 7, 8, 9, 10, 11, 12, 13, 14, 15, 16, 17, 18, 19]
def L66x2 : VCode := (.seq (.seq (.region [⟨(some 4), none, (.prim .mov [(.tmp 0)])⟩,
    ⟨(some 5), none, (.prim (.bin .geq) [(.tmp 4), (.const (.int .u64 128))])⟩] [4])
  (.cond (.tmp 5)
  .skip
  (.seq (.region [] [1, 2, 4, 5, 6, 7, 8, 9, 10, 11, 12, 13, 14, 15, 16, 17, 18, 19])
  (.exit 0))))
  (.block 1 (.seq (.region [⟨(some 6), none, (.prim .mov [(.tmp 3)])⟩,
    ⟨(some 7), none, (.prim .mov [(.tmp 0)])⟩,
    ⟨(some 8), none, (.prim (.toInt .u8) [(.tmp 7)])⟩,
    ⟨(some 9), none, (.prim (.bin .or) [(.tmp 8), (.const (.int .u8 128))])⟩,
    ⟨(some 10), none, (.prim (.buildSl (.int .u8 0) 1 [0]) [(.tmp 9)])⟩,
    ⟨(some 11), none, (.prim (.app 1) [(.tmp 6), (.tmp 10)])⟩,
    ⟨(some 3), none, (.prim .mov [(.tmp 11)])⟩] [5, 7, 8, 9, 10, 11])
  (.region [⟨(some 12), none, (.prim .mov [(.tmp 0)])⟩,
    ⟨(some 13), none, (.prim (.bin .shr) [(.tmp 12), (.const (.int .u64 7))])⟩,
    ⟨(some 0), none, (.prim .mov [(.tmp 13)])⟩] [12, 13]))))
def A66x1 : VCode := (.block 0 (.loop kL66x2 L66x2))
def B66x1 : VCode := (.seq (.region [⟨(some 14), none, (.prim .mov [(.tmp 3)])⟩,
    ⟨(some 15), none, (.prim .mov [(.tmp 0)])⟩,
    ⟨(some 16), none, (.prim (.toInt .u8) [(.tmp 15)])⟩,
    ⟨(some 17), none, (.prim (.buildSl (.int .u8 0) 1 [0]) [(.tmp 16)])⟩,
    ⟨(some 18), none, (.prim (.app 1) [(.tmp 14), (.tmp 17)])⟩,
    ⟨(some 19), none, (.prim .toStr [(.tmp 18)])⟩,
    ⟨(some 2), none, (.prim .mov [(.tmp 19)])⟩] [0, 3, 15, 16, 17, 18, 19])
  .ret)

/-- vmfleet/bits.PutUvarint -/
def F66 : VFunc := ⟨20,
  (.seq (.region [⟨(some 2), none, (.prim .mov [(.const (.str []))])⟩] [2])
  (.seq (.region [⟨(some 3), none, (.prim .mov [(.const (.slice true []))])⟩] [])
  (.seq A66x1
  B66x1))), [2], []⟩
theorem c66 : compile Try.prog sg 66 = some F66 := by kernel_rfl

def kL67x2 : List Nat := [1, 2, 4, 5, 6, 7, 8, 9, 10, 11, 12, 13, 14, 15, 16, 17, 18, 19, 20]
def L67x2 : VCode := (.seq (.seq (.region [⟨(some 4), none, (.prim .mov [(.tmp 0)])⟩,
    ⟨(some 5), none, (.prim (.bin .geq) [(.tmp 4), (.const (.int .u64 128))])⟩] [4])
  (.cond (.tmp 5)
  .skip
  (.seq (.region [] [1, 2, 4, 5, 6, 7, 8, 9, 10, 11, 12, 13, 14, 15, 16, 17, 18, 19, 20])
  (.exit 0))))
  (.block 1 (.seq (.region [⟨(some 6), none, (.prim .mov [(.tmp 3)])⟩,
    ⟨(some 7), none, (.prim .mov [(.tmp 0)])⟩,
    ⟨(some 8), none, (.prim (.bin .and) [(.tmp 7), (.const (.int .u64 127))])⟩,
    ⟨(some 9), none, (.prim (.toInt .u8) [(.tmp 8)])⟩,
    ⟨(some 10), none, (.prim (.bin .or) [(.tmp 9), (.const (.int .u8 128))])⟩,
    ⟨(some 11), none, (.prim (.buildSl (.int .u8 0) 1 [0]) [(.tmp 10)])⟩,
    ⟨(some 12), none, (.prim (.app 1) [(.tmp 6), (.tmp 11)])⟩,
    ⟨(some 3), none, (.prim .mov [(.tmp 12)])⟩] [5, 7, 8, 9, 10, 11, 12])
  (.region [⟨(some 13), none, (.prim .mov [(.tmp 0)])⟩,
    ⟨(some 14), none, (.prim (.bin .shr) [(.tmp 13), (.const (.int .u64 7))])⟩,
    ⟨(some 0), none, (.prim .mov [(.tmp 14)])⟩] [13, 14]))))
def A67x1 : VCode := (.block 0 (.loop kL67x2 L67x2))
def B67x1 : VCode := (.seq (.region [⟨(some 15), none, (.prim .mov [(.tmp 3)])⟩,
    ⟨(some 16), none, (.prim .mov [(.tmp 0)])⟩,
    ⟨(some 17), none, (.prim (.toInt .u8) [(.tmp 16)])⟩,
    ⟨(some 18), none, (.prim (.buildSl (.int .u8 0) 1 [0]) [(.tmp 17)])⟩,
    ⟨(some 19), none, (.prim (.app 1) [(.tmp 15), (.tmp 18)])⟩,
    ⟨(some 20), none, (.prim .toStr [(.tmp 19)])⟩,
    ⟨(some 2), none, (.prim .mov [(.tmp 20)])⟩] [0, 3, 16, 17, 18, 19, 20])
  .ret)

/-- vmfleet/vmfleetref1.PutUvarint -/
def F67 : VFunc := ⟨21,
  (.seq (.region [⟨(some 2), none, (.prim .mov [(.const (.str []))])⟩] [2])
  (.seq (.region [⟨(some 3), none, (.prim .mov [(.const (.slice true []))])⟩] [])
  (.seq A67x1
  B67x1))), [2], []⟩
theorem c67 : compile Try.prog sg 67 = some F67 := by kernel_rfl


/-- vmfleet/vmfleetmake.Mix -/
def F68 : VFunc := ⟨20,
  (.seq (.region [⟨(some 4), none, (.prim .mov [(.const (.int .i64 0))])⟩] [4])
  (.seq (.region [⟨(some 8), none, (.prim .mov [(.tmp 0)])⟩,
    ⟨(some 9), none, (.prim (.toInt .u64) [(.tmp 8)])⟩,
    ⟨(some 10), none, (.prim .mov [(.tmp 1)])⟩,
    ⟨(some 11), none, (.prim (.toInt .u64) [(.tmp 10)])⟩,
    ⟨(some 12), none, (.prim (.bin .mul) [(.tmp 11), (.const (.int .u64 11400714819323198485))])⟩,
    ⟨(some 13), none, (.prim (.bin .xor) [(.tmp 9), (.tmp 12)])⟩,
    ⟨(some 14), none, (.call 91 2 [(.tmp 13)] [])⟩,
    ⟨(some 7), none, (.prim .mov [(.tmp 14)])⟩,
    ⟨(some 15), none, (.prim (.ext 0) [(.tmp 7)])⟩,
    ⟨(some 16), none, (.prim (.ext 1) [(.tmp 7)])⟩,
    ⟨(some 5), none, (.prim .mov [(.tmp 15)])⟩,
    ⟨(some 6), none, (.prim .mov [(.tmp 16)])⟩] [0, 1, 6, 7, 8, 9, 10, 11, 12, 13, 14, 15, 16])
  (.seq (.region [⟨(some 17), none, (.prim .mov [(.tmp 5)])⟩,
    ⟨(some 18), none, (.prim (.bin .shr) [(.tmp 17), (.const (.int .u64 1))])⟩,
    ⟨(some 19), none, (.prim (.toInt .i64) [(.tmp 18)])⟩,
    ⟨(some 4), none, (.prim .mov [(.tmp 19)])⟩] [5, 17, 18, 19])
  .ret))), [4], []⟩
theorem c68 : compile Try.prog sg 68 = some F68 := by kernel_rfl

def kL69x2 : List Nat := [2, 3, 4, 7, 8, 9, 10, 11, 12, 13, 14, 15, 16, 17, 18, 19, 20, 21]
def L69x2 : VCode := (.seq (.seq (.region [⟨(some 7), none, (.prim .mov [(.tmp 6)])⟩,
    ⟨(some 8), none, (.prim .mov [(.tmp 1)])⟩,
    ⟨(some 9), none, (.prim (.bin .lss) [(.tmp 7), (.tmp 8)])⟩] [7, 8])
  (.cond (.tmp 9)
  .skip
  (.seq (.region [] [0, 1, 2, 3, 4, 6, 7, 8, 9, 10, 11, 12, 13, 14, 15, 16, 17, 18, 19, 20, 21])
  (.exit 0))))
  (.seq (.block 1 (.region [⟨(some 12), none, (.prim .mov [(.tmp 5)])⟩,
    ⟨(some 13), none, (.prim .mov [(.tmp 0)])⟩,
    ⟨(some 14), none, (.prim .mov [(.tmp 6)])⟩,
    ⟨(some 15), none, (.prim (.bin .quo) [(.tmp 14), (.const (.int .i64 9))])⟩,
    ⟨(some 16), none, (.call 68 1 [(.tmp 13), (.tmp 15)] [])⟩,
    ⟨(some 17), none, (.prim (.toInt .u8) [(.tmp 16)])⟩,
    ⟨(some 18), none, (.prim (.buildSl (.int .u8 0) 1 [0]) [(.tmp 17)])⟩,
    ⟨(some 19), none, (.prim (.app 1) [(.tmp 12), (.tmp 18)])⟩,
    ⟨(some 5), none, (.prim .mov [(.tmp 19)])⟩] [9, 13, 14, 15, 16, 17, 18, 19]))
  (.region [⟨(some 10), none, (.prim .mov [(.tmp 6)])⟩,
    ⟨(some 11), none, (.prim (.bin .add) [(.tmp 10), (.const (.int .i64 1))])⟩,
    ⟨(some 6), none, (.prim .mov [(.tmp 11)])⟩] [10, 11])))
def A69x1 : VCode := (.seq (.region [⟨(some 6), none, (.prim .mov [(.const (.int .i64 0))])⟩] [])
  (.block 0 (.loop kL69x2 L69x2)))
def B69x1 : VCode := (.seq (.region [⟨(some 20), none, (.prim .mov [(.tmp 5)])⟩,
    ⟨(some 21), none, (.prim .toStr [(.tmp 20)])⟩,
    ⟨(some 4), none, (.prim .mov [(.tmp 21)])⟩] [5, 20, 21])
  .ret)

/-- vmfleet/vmfleetmake.Data -/
def F69 : VFunc := ⟨22,
  (.seq (.region [⟨(some 4), none, (.prim .mov [(.const (.str []))])⟩] [4])
  (.seq (.region [⟨(some 5), none, (.prim .mov [(.const (.slice true []))])⟩] [])
  (.seq A69x1
  B69x1))), [4], []⟩
theorem c69 : compile Try.prog sg 69 = some F69 := by kernel_rfl

def kL70x2 : List Nat := [0, 2, 3, 4, 5, 6, 8, 9, 10, 11, 12, 13, 14, 15, 16, 17, 18, 19, 23, 24, 25, 26, 27, 28, 29, 30, 31, 32, 33, 34, 35, 36, 37, 38, 39, 40, 41, 42, 43]
def L70x2 : VCode := (.seq (.region [⟨(some 23), none, (.prim (.bin .lss) [(.tmp 22), (.tmp 21)])⟩] [])
  (.seq (.cond (.tmp 23)
  .skip
  (.seq (.region [] [0, 1, 2, 3, 4, 5, 6, 8, 9, 10, 11, 12, 13, 14, 15, 16, 17, 18, 19, 20, 21, 22, 23, 24, 25, 26, 27, 28, 29, 30, 31, 32, 33, 34, 35, 36, 37, 38, 39, 40, 41, 42, 43])
  (.exit 0)))
  (.seq (.block 1 (.seq (.region [⟨(some 24), none, (.prim (.iptr []) [(.tmp 20), (.tmp 22)])⟩,
    ⟨(some 25), none, (.prim .load [(.tmp 20), (.tmp 24)])⟩,
    ⟨(some 9), none, (.prim .mov [(.const (.agg [(.int .u64 0), (.agg [(.int .i64 0), (.int .u32 0), (.str [])])]))])⟩,
    ⟨none, none, (.store 9 none (.tmp 25))⟩] [23, 24, 25])
  (.seq (.region [⟨(some 26), none, (.prim .mov [(.tmp 7)])⟩,
    ⟨(some 27), none, (.prim (.fptr 0) [(.const (.ptr []))])⟩,
    ⟨(some 28), none, (.prim .load [(.tmp 9), (.tmp 27)])⟩,
    ⟨(some 29), none, (.prim .mov [(.tmp 1)])⟩,
    ⟨(some 30), none, (.prim (.bin .sub) [(.tmp 28), (.tmp 29)])⟩,
    ⟨(some 31), none, (.call 66 1 [(.tmp 30)] [])⟩,
    ⟨(some 32), none, (.prim (.fptr 1) [(.const (.ptr []))])⟩,
    ⟨(some 33), none, (.prim .load [(.tmp 9), (.tmp 32)])⟩,
    ⟨(some 34), none, (.call 93 1 [(.tmp 33)] [])⟩,
    ⟨(some 35), none, (.prim (.bin .add) [(.tmp 31), (.tmp 34)])⟩,
    ⟨(some 36), none, (.prim (.bin .add) [(.tmp 26), (.tmp 35)])⟩,
    ⟨(some 7), none, (.prim .mov [(.tmp 36)])⟩] [1, 26, 27, 28, 29, 30, 31, 32, 33, 34, 35, 36])
  (.region [⟨(some 37), none, (.prim (.fptr 0) [(.const (.ptr []))])⟩,
    ⟨(some 38), none, (.prim .load [(.tmp 9), (.tmp 37)])⟩,
    ⟨(some 1), none, (.prim .mov [(.tmp 38)])⟩] [9, 37, 38]))))
  (.region [⟨(some 39), none, (.prim (.bin .add) [(.tmp 22), (.const (.int .i64 1))])⟩,
    ⟨(some 22), none, (.prim .mov [(.tmp 39)])⟩] [39]))))
def A70x1 : VCode := (.seq (.region [⟨(some 20), none, (.prim .mov [(.tmp 0)])⟩,
    ⟨(some 21), none, (.prim .len [(.tmp 20)])⟩,
    ⟨(some 22), none, (.prim .mov [(.const (.int .i64 0))])⟩] [0])
  (.block 0 (.loop kL70x2 L70x2)))
def B70x1 : VCode := (.seq (.seq (.region [⟨(some 40), none, (.prim .mov [(.tmp 7)])⟩,
    ⟨(some 41), none, (.prim .len [(.tmp 40)])⟩,
    ⟨(some 42), none, (.prim (.bin .gtr) [(.tmp 41), (.const (.int .i64 65536))])⟩] [40, 41])
  (.cond (.tmp 42)
  (.seq (.region [⟨(some 4), none, (.prim .mov [(.const (.str []))])⟩,
    ⟨(some 5), none, (.prim .mov [(.const (.int .i64 1902))])⟩] [7, 42])
  .ret)
  .skip))
  (.seq (.region [⟨(some 43), none, (.prim .mov [(.tmp 7)])⟩,
    ⟨(some 4), none, (.prim .mov [(.tmp 43)])⟩,
    ⟨(some 5), none, (.prim .mov [(.const (.int .i64 0))])⟩] [7, 42, 43])
  .ret))

/-- vmfleet/eventlog.Encode -/
def F70 : VFunc := ⟨44,
  (.seq (.region [⟨(some 4), none, (.prim .mov [(.const (.str []))])⟩,
    ⟨(some 5), none, (.prim .mov [(.const (.int .i64 0))])⟩] [4, 5])
  (.seq (.seq (.region [⟨(some 10), none, (.prim .mov [(.tmp 0)])⟩,
    ⟨(some 11), none, (.prim .mov [(.tmp 1)])⟩,
    ⟨(some 12), none, (.call 92 1 [(.tmp 10), (.tmp 11)] [])⟩,
    ⟨(some 6), none, (.prim .mov [(.tmp 12)])⟩] [10, 11, 12])
  (.seq (.region [⟨(some 13), none, (.prim .mov [(.tmp 6)])⟩,
    ⟨(some 14), none, (.prim (.bin .neq) [(.tmp 13), (.const (.int .i64 0))])⟩] [13])
  (.cond (.tmp 14)
  (.seq (.region [⟨(some 15), none, (.prim .mov [(.tmp 6)])⟩,
    ⟨(some 4), none, (.prim .mov [(.const (.str []))])⟩,
    ⟨(some 5), none, (.prim .mov [(.tmp 15)])⟩] [0, 1, 6, 14, 15])
  .ret)
  .skip)))
  (.seq (.region [⟨(some 16), none, (.prim .mov [(.tmp 0)])⟩,
    ⟨(some 17), none, (.prim .len [(.tmp 16)])⟩,
    ⟨(some 18), none, (.prim (.toInt .u64) [(.tmp 17)])⟩,
    ⟨(some 19), none, (.call 66 1 [(.tmp 18)] [])⟩,
    ⟨(some 7), none, (.prim .mov [(.tmp 19)])⟩] [6, 14, 16, 17, 18, 19])
  (.seq A70x1
  B70x1)))), [4, 5], []⟩
theorem c70 : compile Try.prog sg 70 = some F70 := by kernel_rfl


/-- vmfleet/eventlog.text -/
def F71 : VFunc := ⟨9,
  (.seq (.region [⟨(some 2), none, (.prim .mov [(.const (.str []))])⟩] [2])
  (.seq (.region [⟨(some 3), none, (.prim .mov [(.tmp 0)])⟩,
    ⟨(some 4), none, (.prim .len [(.tmp 3)])⟩,
    ⟨(some 5), none, (.prim (.toInt .u64) [(.tmp 4)])⟩,
    ⟨(some 6), none, (.call 66 1 [(.tmp 5)] [])⟩,
    ⟨(some 7), none, (.prim .mov [(.tmp 0)])⟩,
    ⟨(some 8), none, (.prim (.bin .add) [(.tmp 6), (.tmp 7)])⟩,
    ⟨(some 2), none, (.prim .mov [(.tmp 8)])⟩] [0, 3, 4, 5, 6, 7, 8])
  .ret)), [2], []⟩
theorem c71 : compile Try.prog sg 71 = some F71 := by kernel_rfl

def kL72x2 : List Nat := [0, 1, 2, 5, 6, 7, 8, 9, 12, 13, 14, 15, 16, 17, 18, 19, 20, 21, 22, 23, 24, 25]
def L72x2 : VCode := (.seq (.region [⟨(some 12), none, (.prim (.bin .lss) [(.tmp 11), (.tmp 10)])⟩] [])
  (.seq (.cond (.tmp 12)
  .skip
  (.seq (.region [] [0, 1, 2, 3, 5, 6, 7, 8, 9, 10, 11, 12, 13, 14, 15, 16, 17, 18, 19, 20, 21, 22, 23, 24, 25])
  (.exit 0)))
  (.seq (.block 1 (.seq (.region [⟨(some 13), none, (.prim .mov [(.tmp 11)])⟩,
    ⟨(some 5), none, (.prim .mov [(.tmp 13)])⟩] [12, 13])
  (.region [⟨(some 14), none, (.prim .mov [(.tmp 4)])⟩,
    ⟨(some 15), none, (.prim .mov [(.tmp 5)])⟩,
    ⟨(some 16), none, (.prim .mov [(.tmp 3)])⟩,
    ⟨(some 17), none, (.prim .mov [(.tmp 5)])⟩,
    ⟨(some 18), none, (.prim (.bin .mul) [(.const (.int .i64 8)), (.tmp 17)])⟩,
    ⟨(some 19), none, (.prim (.bin .sub) [(.const (.int .i64 56)), (.tmp 18)])⟩,
    ⟨(some 20), none, (.prim (.bin .shr) [(.tmp 16), (.tmp 19)])⟩,
    ⟨(some 21), none, (.prim (.toInt .u8) [(.tmp 20)])⟩,
    ⟨(some 22), none, (.prim (.iptr []) [(.tmp 14), (.tmp 15)])⟩,
    ⟨none, none, (.store 4 (some 22) (.tmp 21))⟩] [5, 15, 16, 17, 18, 19, 20, 21, 22])))
  (.region [⟨(some 23), none, (.prim (.bin .add) [(.tmp 11), (.const (.int .i64 1))])⟩,
    ⟨(some 11), none, (.prim .mov [(.tmp 23)])⟩] [23]))))
def A72x1 : VCode := (.seq (.region [⟨(some 9), none, (.prim .mov [(.tmp 4)])⟩,
    ⟨(some 10), none, (.prim .len [(.tmp 9)])⟩,
    ⟨(some 11), none, (.prim .mov [(.const (.int .i64 0))])⟩] [9])
  (.block 0 (.loop kL72x2 L72x2)))
def B72x1 : VCode := (.seq (.region [⟨(some 24), none, (.prim .mov [(.tmp 4)])⟩,
    ⟨(some 25), none, (.prim .toStr [(.tmp 24)])⟩,
    ⟨(some 2), none, (.prim .mov [(.tmp 25)])⟩] [4, 24, 25])
  .ret)

/-- vmfleet/eventlog.sum -/
def F72 : VFunc := ⟨26,
  (.seq (.region [⟨(some 2), none, (.prim .mov [(.const (.str []))])⟩] [2])
  (.seq (.region [⟨(some 6), none, (.prim .mov [(.tmp 0)])⟩,
    ⟨(some 7), none, (.call 94 1 [(.const (.int .u64 14695981039346656037)), (.tmp 6)] [])⟩,
    ⟨(some 3), none, (.prim .mov [(.tmp 7)])⟩] [0, 6, 7])
  (.seq (.region [⟨(some 8), none, (.prim (.mkSl (.int .u8 0) 1) [(.const (.int .i64 8)), (.const (.int .i64 8))])⟩,
    ⟨(some 4), none, (.prim .mov [(.tmp 8)])⟩] [8])
  (.seq A72x1
  B72x1)))), [2], []⟩
theorem c72 : compile Try.prog sg 72 = some F72 := by kernel_rfl


/-- (*vmfleet/eventlog.reader).number -/
def F73 : VFunc := ⟨35,
  (.seq (.region [⟨(some 2), none, (.prim .mov [(.const (.int .u64 0))])⟩] [2])
  (.seq (.region [⟨(some 7), none, (.prim .mov [(.const (.ptr []))])⟩,
    ⟨(some 8), none, (.prim .mov [(.tmp 7)])⟩,
    ⟨(some 9), none, (.prim (.fptr 0) [(.tmp 8)])⟩,
    ⟨(some 10), none, (.prim .load [(.tmp 0), (.tmp 9)])⟩,
    ⟨(some 11), none, (.call 63 3 [(.tmp 10)] [])⟩,
    ⟨(some 6), none, (.prim .mov [(.tmp 11)])⟩,
    ⟨(some 12), none, (.prim (.ext 0) [(.tmp 6)])⟩,
    ⟨(some 13), none, (.prim (.ext 1) [(.tmp 6)])⟩,
    ⟨(some 14), none, (.prim (.ext 2) [(.tmp 6)])⟩,
    ⟨(some 3), none, (.prim .mov [(.tmp 12)])⟩,
    ⟨(some 4), none, (.prim .mov [(.tmp 13)])⟩,
    ⟨(some 5), none, (.prim .mov [(.tmp 14)])⟩] [6, 7, 8, 9, 10, 11, 12, 13, 14])
  (.seq (.region [⟨(some 15), none, (.prim .mov [(.const (.ptr []))])⟩,
    ⟨(some 16), none, (.prim .mov [(.const (.ptr []))])⟩,
    ⟨(some 17), none, (.prim .mov [(.tmp 16)])⟩,
    ⟨(some 18), none, (.prim (.fptr 1) [(.tmp 17)])⟩,
    ⟨(some 19), none, (.prim .load [(.tmp 0), (.tmp 18)])⟩,
    ⟨(some 20), none, (.prim .mov [(.tmp 19)])⟩,
    ⟨(some 21), (some (20, true)), (.prim .mov [(.tmp 5)])⟩,
    ⟨(some 22), none, (.pick (.tmp 20) (.tmp 21) (.const (.bool false)))⟩,
    ⟨(some 23), none, (.prim .mov [(.tmp 15)])⟩,
    ⟨(some 24), none, (.prim (.fptr 1) [(.tmp 23)])⟩,
    ⟨none, none, (.store 0 (some 24) (.tmp 22))⟩] [5, 15, 16, 17, 18, 19, 20, 21, 22, 23, 24])
  (.seq (.region [⟨(some 25), none, (.prim .mov [(.const (.ptr []))])⟩,
    ⟨(some 26), none, (.prim .mov [(.const (.ptr []))])⟩,
    ⟨(some 27), none, (.prim .mov [(.tmp 26)])⟩,
    ⟨(some 28), none, (.prim (.fptr 0) [(.tmp 27)])⟩,
    ⟨(some 29), none, (.prim .load [(.tmp 0), (.tmp 28)])⟩,
    ⟨(some 30), none, (.prim .mov [(.tmp 4)])⟩,
    ⟨(some 31), none, (.prim (.sl true false) [(.tmp 29), (.tmp 30)])⟩,
    ⟨(some 32), none, (.prim .mov [(.tmp 25)])⟩,
    ⟨(some 33), none, (.prim (.fptr 0) [(.tmp 32)])⟩,
    ⟨none, none, (.store 0 (some 33) (.tmp 31))⟩] [4, 25, 26, 27, 28, 29, 30, 31, 32, 33])
  (.seq (.region [⟨(some 34), none, (.prim .mov [(.tmp 3)])⟩,
    ⟨(some 2), none, (.prim .mov [(.tmp 34)])⟩] [3, 34])
  .ret))))), [2], [0]⟩
theorem c73 : compile Try.prog sg 73 = some F73 := by kernel_rfl


/-- (*vmfleet/eventlog.reader).text -/
def F74 : VFunc := ⟨34,
  (.seq (.region [⟨(some 2), none, (.prim .mov [(.const (.str []))])⟩] [2])
  (.seq (.region [⟨(some 5), none, (.prim .mov [(.const (.ptr []))])⟩,
    ⟨(some 6), none, (.call 73 1 [(.deref 0 (some 5))] [(0, (some 5))])⟩,
    ⟨(some 3), none, (.prim .mov [(.tmp 6)])⟩] [5, 6])
  (.seq (.seq (.region [⟨(some 7), none, (.prim .mov [(.tmp 3)])⟩,
    ⟨(some 8), none, (.prim .mov [(.const (.ptr []))])⟩,
    ⟨(some 9), none, (.prim .mov [(.tmp 8)])⟩,
    ⟨(some 10), none, (.prim (.fptr 0) [(.tmp 9)])⟩,
    ⟨(some 11), none, (.prim .load [(.tmp 0), (.tmp 10)])⟩,
    ⟨(some 12), none, (.prim .len [(.tmp 11)])⟩,
    ⟨(some 13), none, (.prim (.toInt .u64) [(.tmp 12)])⟩,
    ⟨(some 14), none, (.prim (.bin .gtr) [(.tmp 7), (.tmp 13)])⟩] [7, 8, 9, 10, 11, 12, 13])
  (.cond (.tmp 14)
  (.seq (.region [⟨(some 15), none, (.prim .mov [(.const (.ptr []))])⟩,
    ⟨(some 16), none, (.prim .mov [(.tmp 15)])⟩,
    ⟨(some 17), none, (.prim (.fptr 1) [(.tmp 16)])⟩,
    ⟨none, none, (.store 0 (some 17) (.const (.bool false)))⟩] [3, 14, 15, 16, 17])
  (.seq (.region [⟨(some 2), none, (.prim .mov [(.const (.str []))])⟩] [])
  .ret))
  .skip))
  (.seq (.region [⟨(some 18), none, (.prim .mov [(.const (.ptr []))])⟩,
    ⟨(some 19), none, (.prim .mov [(.tmp 18)])⟩,
    ⟨(some 20), none, (.prim (.fptr 0) [(.tmp 19)])⟩,
    ⟨(some 21), none, (.prim .load [(.tmp 0), (.tmp 20)])⟩,
    ⟨(some 22), none, (.prim .mov [(.tmp 3)])⟩,
    ⟨(some 23), none, (.prim (.sl false true) [(.tmp 21), (.tmp 22)])⟩,
    ⟨(some 4), none, (.prim .mov [(.tmp 23)])⟩] [14, 18, 19, 20, 21, 22, 23])
  (.seq (.region [⟨(some 24), none, (.prim .mov [(.const (.ptr []))])⟩,
    ⟨(some 25), none, (.prim .mov [(.const (.ptr []))])⟩,
    ⟨(some 26), none, (.prim .mov [(.tmp 25)])⟩,
    ⟨(some 27), none, (.prim (.fptr 0) [(.tmp 26)])⟩,
    ⟨(some 28), none, (.prim .load [(.tmp 0), (.tmp 27)])⟩,
    ⟨(some 29), none, (.prim .mov [(.tmp 3)])⟩,
    ⟨(some 30), none, (.prim (.sl true false) [(.tmp 28), (.tmp 29)])⟩,
    ⟨(some 31), none, (.prim .mov [(.tmp 24)])⟩,
    ⟨(some 32), none, (.prim (.fptr 0) [(.tmp 31)])⟩,
    ⟨none, none, (.store 0 (some 32) (.tmp 30))⟩] [3, 24, 25, 26, 27, 28, 29, 30, 31, 32])
  (.seq (.region [⟨(some 33), none, (.prim .mov [(.tmp 4)])⟩,
    ⟨(some 2), none, (.prim .mov [(.tmp 33)])⟩] [4, 33])
  .ret)))))), [2], [0]⟩
theorem c74 : compile Try.prog sg 74 = some F74 := by kernel_rfl

def kL75x2 : List Nat := [1, 2, 5, 6, 7, 8, 9, 10, 11, 12, 13, 14, 15, 16, 17, 18]
def L75x2 : VCode := (.seq (.seq (.region [⟨(some 5), none, (.prim .mov [(.tmp 4)])⟩,
    ⟨(some 6), none, (.prim (.bin .geq) [(.tmp 5), (.const (.int .i64 0))])⟩] [5])
  (.cond (.tmp 6)
  .skip
  (.seq (.region [] [0, 1, 2, 4, 5, 6, 7, 8, 9, 10, 11, 12, 13, 14, 15, 16, 17, 18])
  (.exit 0))))
  (.seq (.block 1 (.region [⟨(some 9), none, (.prim .mov [(.tmp 3)])⟩,
    ⟨(some 10), none, (.prim .mov [(.tmp 0)])⟩,
    ⟨(some 11), none, (.prim .mov [(.tmp 4)])⟩,
    ⟨(some 12), none, (.prim (.toInt .u64) [(.tmp 11)])⟩,
    ⟨(some 13), none, (.prim (.bin .shr) [(.tmp 10), (.tmp 12)])⟩,
    ⟨(some 14), none, (.prim (.toInt .u8) [(.tmp 13)])⟩,
    ⟨(some 15), none, (.prim (.buildSl (.int .u8 0) 1 [0]) [(.tmp 14)])⟩,
    ⟨(some 16), none, (.prim (.app 1) [(.tmp 9), (.tmp 15)])⟩,
    ⟨(some 3), none, (.prim .mov [(.tmp 16)])⟩] [6, 10, 11, 12, 13, 14, 15, 16]))
  (.region [⟨(some 7), none, (.prim .mov [(.tmp 4)])⟩,
    ⟨(some 8), none, (.prim (.bin .sub) [(.tmp 7), (.const (.int .i64 8))])⟩,
    ⟨(some 4), none, (.prim .mov [(.tmp 8)])⟩] [7, 8])))
def A75x1 : VCode := (.seq (.region [⟨(some 4), none, (.prim .mov [(.const (.int .i64 56))])⟩] [])
  (.block 0 (.loop kL75x2 L75x2)))
def B75x1 : VCode := (.seq (.region [⟨(some 17), none, (.prim .mov [(.tmp 3)])⟩,
    ⟨(some 18), none, (.prim .toStr [(.tmp 17)])⟩,
    ⟨(some 2), none, (.prim .mov [(.tmp 18)])⟩] [3, 17, 18])
  .ret)

/-- vmfleet/vmfleetref19.eight -/
def F75 : VFunc := ⟨19,
  (.seq (.region [⟨(some 2), none, (.prim .mov [(.const (.str []))])⟩] [2])
  (.seq (.region [⟨(some 3), none, (.prim .mov [(.const (.slice true []))])⟩] [])
  (.seq A75x1
  B75x1))), [2], []⟩
theorem c75 : compile Try.prog sg 75 = some F75 := by kernel_rfl

def kL76x2 : List Nat := [2, 3, 4, 6, 7, 8, 9, 10, 11, 12, 13, 14, 15, 16, 17, 18, 19]
def L76x2 : VCode := (.seq (.seq (.region [⟨(some 6), none, (.prim .mov [(.tmp 5)])⟩,
    ⟨(some 7), none, (.prim .mov [(.tmp 1)])⟩,
    ⟨(some 8), none, (.prim .len [(.tmp 7)])⟩,
    ⟨(some 9), none, (.prim (.bin .lss) [(.tmp 6), (.tmp 8)])⟩] [6, 7, 8])
  (.cond (.tmp 9)
  .skip
  (.seq (.region [] [1, 2, 3, 4, 5, 6, 7, 8, 9, 10, 11, 12, 13, 14, 15, 16, 17, 18, 19])
  (.exit 0))))
  (.seq (.block 1 (.region [⟨(some 12), none, (.prim .mov [(.tmp 0)])⟩,
    ⟨(some 13), none, (.prim .mov [(.tmp 1)])⟩,
    ⟨(some 14), none, (.prim .mov [(.tmp 5)])⟩,
    ⟨(some 15), none, (.prim .index [(.tmp 13), (.tmp 14)])⟩,
    ⟨(some 16), none, (.prim (.toInt .u64) [(.tmp 15)])⟩,
    ⟨(some 17), none, (.prim (.bin .xor) [(.tmp 12), (.tmp 16)])⟩,
    ⟨(some 18), none, (.prim (.bin .mul) [(.tmp 17), (.const (.int .u64 1099511628211))])⟩,
    ⟨(some 0), none, (.prim .mov [(.tmp 18)])⟩] [9, 12, 13, 14, 15, 16, 17, 18]))
  (.region [⟨(some 10), none, (.prim .mov [(.tmp 5)])⟩,
    ⟨(some 11), none, (.prim (.bin .add) [(.tmp 10), (.const (.int .i64 1))])⟩,
    ⟨(some 5), none, (.prim .mov [(.tmp 11)])⟩] [10, 11])))
def A76x1 : VCode := (.seq (.region [⟨(some 5), none, (.prim .mov [(.const (.int .i64 0))])⟩] [])
  (.block 0 (.loop kL76x2 L76x2)))
def B76x1 : VCode := (.seq (.region [⟨(some 19), none, (.prim .mov [(.tmp 0)])⟩,
    ⟨(some 4), none, (.prim .mov [(.tmp 19)])⟩] [0, 19])
  .ret)

/-- vmfleet/vmfleetref1.Hash -/
def F76 : VFunc := ⟨20,
  (.seq (.region [⟨(some 4), none, (.prim .mov [(.const (.int .u64 0))])⟩] [4])
  (.seq A76x1
  B76x1)), [4], []⟩
theorem c76 : compile Try.prog sg 76 = some F76 := by kernel_rfl


/-- (*vmfleet/vmfleetref19.reader).number -/
def F77 : VFunc := ⟨36,
  (.seq (.region [⟨(some 2), none, (.prim .mov [(.const (.int .u64 0))])⟩] [2])
  (.seq (.region [⟨(some 7), none, (.prim .mov [(.const (.ptr []))])⟩,
    ⟨(some 8), none, (.prim .mov [(.tmp 7)])⟩,
    ⟨(some 9), none, (.prim (.fptr 0) [(.tmp 8)])⟩,
    ⟨(some 10), none, (.prim .load [(.tmp 0), (.tmp 9)])⟩,
    ⟨(some 11), none, (.call 90 3 [(.tmp 10)] [])⟩,
    ⟨(some 6), none, (.prim .mov [(.tmp 11)])⟩,
    ⟨(some 12), none, (.prim (.ext 0) [(.tmp 6)])⟩,
    ⟨(some 13), none, (.prim (.ext 1) [(.tmp 6)])⟩,
    ⟨(some 14), none, (.prim (.ext 2) [(.tmp 6)])⟩,
    ⟨(some 3), none, (.prim .mov [(.tmp 12)])⟩,
    ⟨(some 4), none, (.prim .mov [(.tmp 13)])⟩,
    ⟨(some 5), none, (.prim .mov [(.tmp 14)])⟩] [6, 7, 8, 9, 10, 11, 12, 13, 14])
  (.seq (.seq (.region [⟨(some 15), none, (.prim .mov [(.const (.ptr []))])⟩,
    ⟨(some 16), none, (.prim .mov [(.tmp 15)])⟩,
    ⟨(some 17), none, (.prim (.fptr 1) [(.tmp 16)])⟩,
    ⟨(some 18), none, (.prim .load [(.tmp 0), (.tmp 17)])⟩,
    ⟨(some 19), none, (.prim .mov [(.tmp 18)])⟩,
    ⟨(some 20), (some (19, false)), (.prim .mov [(.tmp 5)])⟩,
    ⟨(some 21), (some (19, false)), (.prim (.un .not) [(.tmp 20)])⟩,
    ⟨(some 22), none, (.pick (.tmp 19) (.const (.bool true)) (.tmp 21))⟩] [5, 15, 16, 17, 18, 19, 20, 21])
  (.cond (.tmp 22)
  (.seq (.region [⟨(some 23), none, (.prim .mov [(.const (.ptr []))])⟩,
    ⟨(some 24), none, (.prim .mov [(.tmp 23)])⟩,
    ⟨(some 25), none, (.prim (.fptr 1) [(.tmp 24)])⟩,
    ⟨none, none, (.store 0 (some 25) (.const (.bool true)))⟩] [3, 4, 22, 23, 24, 25])
  (.seq (.region [⟨(some 2), none, (.prim .mov [(.const (.int .u64 0))])⟩] [])
  .ret))
  .skip))
  (.seq (.region [⟨(some 26), none, (.prim .mov [(.const (.ptr []))])⟩,
    ⟨(some 27), none, (.prim .mov [(.const (.ptr []))])⟩,
    ⟨(some 28), none, (.prim .mov [(.tmp 27)])⟩,
    ⟨(some 29), none, (.prim (.fptr 0) [(.tmp 28)])⟩,
    ⟨(some 30), none, (.prim .load [(.tmp 0), (.tmp 29)])⟩,
    ⟨(some 31), none, (.prim .mov [(.tmp 4)])⟩,
    ⟨(some 32), none, (.prim (.sl true false) [(.tmp 30), (.tmp 31)])⟩,
    ⟨(some 33), none, (.prim .mov [(.tmp 26)])⟩,
    ⟨(some 34), none, (.prim (.fptr 0) [(.tmp 33)])⟩,
    ⟨none, none, (.store 0 (some 34) (.tmp 32))⟩] [4, 22, 26, 27, 28, 29, 30, 31, 32, 33, 34])
  (.seq (.region [⟨(some 35), none, (.prim .mov [(.tmp 3)])⟩,
    ⟨(some 2), none, (.prim .mov [(.tmp 35)])⟩] [3, 35])
  .ret))))), [2], [0]⟩
theorem c77 : compile Try.prog sg 77 = some F77 := by kernel_rfl


/-- (*vmfleet/vmfleetref19.reader).bytes -/
def F78 : VFunc := ⟨39,
  (.seq (.region [⟨(some 4), none, (.prim .mov [(.const (.str []))])⟩] [4])
  (.seq (.seq (.region [⟨(some 6), none, (.prim .mov [(.const (.ptr []))])⟩,
    ⟨(some 7), none, (.prim .mov [(.tmp 6)])⟩,
    ⟨(some 8), none, (.prim (.fptr 1) [(.tmp 7)])⟩,
    ⟨(some 9), none, (.prim .load [(.tmp 0), (.tmp 8)])⟩,
    ⟨(some 10), none, (.prim .mov [(.tmp 9)])⟩,
    ⟨(some 11), (some (10, false)), (.prim .mov [(.tmp 1)])⟩,
    ⟨(some 12), (some (10, false)), (.prim .mov [(.const (.ptr []))])⟩,
    ⟨(some 13), (some (10, false)), (.prim .mov [(.tmp 12)])⟩,
    ⟨(some 14), (some (10, false)), (.prim (.fptr 0) [(.tmp 13)])⟩,
    ⟨(some 15), (some (10, false)), (.prim .load [(.tmp 0), (.tmp 14)])⟩,
    ⟨(some 16), (some (10, false)), (.prim .len [(.tmp 15)])⟩,
    ⟨(some 17), (some (10, false)), (.prim (.toInt .u64) [(.tmp 16)])⟩,
    ⟨(some 18), (some (10, false)), (.prim (.bin .gtr) [(.tmp 11), (.tmp 17)])⟩,
    ⟨(some 19), none, (.pick (.tmp 10) (.const (.bool true)) (.tmp 18))⟩] [6, 7, 8, 9, 10, 11, 12, 13, 14, 15, 16, 17, 18])
  (.cond (.tmp 19)
  (.seq (.region [⟨(some 20), none, (.prim .mov [(.const (.ptr []))])⟩,
    ⟨(some 21), none, (.prim .mov [(.tmp 20)])⟩,
    ⟨(some 22), none, (.prim (.fptr 1) [(.tmp 21)])⟩,
    ⟨none, none, (.store 0 (some 22) (.const (.bool true)))⟩] [1, 19, 20, 21, 22])
  (.seq (.region [⟨(some 4), none, (.prim .mov [(.const (.str []))])⟩] [])
  .ret))
  .skip))
  (.seq (.region [⟨(some 23), none, (.prim .mov [(.const (.ptr []))])⟩,
    ⟨(some 24), none, (.prim .mov [(.tmp 23)])⟩,
    ⟨(some 25), none, (.prim (.fptr 0) [(.tmp 24)])⟩,
    ⟨(some 26), none, (.prim .load [(.tmp 0), (.tmp 25)])⟩,
    ⟨(some 27), none, (.prim .mov [(.tmp 1)])⟩,
    ⟨(some 28), none, (.prim (.sl false true) [(.tmp 26), (.tmp 27)])⟩,
    ⟨(some 5), none, (.prim .mov [(.tmp 28)])⟩] [19, 23, 24, 25, 26, 27, 28])
  (.seq (.region [⟨(some 29), none, (.prim .mov [(.const (.ptr []))])⟩,
    ⟨(some 30), none, (.prim .mov [(.const (.ptr []))])⟩,
    ⟨(some 31), none, (.prim .mov [(.tmp 30)])⟩,
    ⟨(some 32), none, (.prim (.fptr 0) [(.tmp 31)])⟩,
    ⟨(some 33), none, (.prim .load [(.tmp 0), (.tmp 32)])⟩,
    ⟨(some 34), none, (.prim .mov [(.tmp 1)])⟩,
    ⟨(some 35), none, (.prim (.sl true false) [(.tmp 33), (.tmp 34)])⟩,
    ⟨(some 36), none, (.prim .mov [(.tmp 29)])⟩,
    ⟨(some 37), none, (.prim (.fptr 0) [(.tmp 36)])⟩,
    ⟨none, none, (.store 0 (some 37) (.tmp 35))⟩] [1, 29, 30, 31, 32, 33, 34, 35, 36, 37])
  (.seq (.region [⟨(some 38), none, (.prim .mov [(.tmp 5)])⟩,
    ⟨(some 4), none, (.prim .mov [(.tmp 38)])⟩] [5, 38])
  .ret))))), [4], [0]⟩
theorem c78 : compile Try.prog sg 78 = some F78 := by kernel_rfl

def kL90x2 : List Nat := [1, 2, 3, 4, 7, 8, 9, 10, 11, 12, 13, 14, 15, 16, 17, 18, 19, 20, 21, 22, 23, 24, 25, 26, 27, 28, 29, 30, 31, 32, 33, 34, 35, 36, 37, 38, 39, 40, 41, 42, 43, 44, 45, 46]
def L90x2 : VCode := (.seq (.seq (.region [⟨(some 8), none, (.prim .mov [(.tmp 6)])⟩,
    ⟨(some 9), none, (.prim .mov [(.tmp 0)])⟩,
    ⟨(some 10), none, (.prim .len [(.tmp 9)])⟩,
    ⟨(some 11), none, (.prim (.bin .lss) [(.tmp 8), (.tmp 10)])⟩,
    ⟨(some 12), none, (.prim .mov [(.tmp 11)])⟩,
    ⟨(some 13), (some (12, true)), (.prim .mov [(.tmp 6)])⟩,
    ⟨(some 14), (some (12, true)), (.prim (.bin .lss) [(.tmp 13), (.const (.int .i64 10))])⟩,
    ⟨(some 15), none, (.pick (.tmp 12) (.tmp 14) (.const (.bool false)))⟩] [8, 9, 10, 11, 12])
  (.cond (.tmp 15)
  .skip
  (.seq (.region [] [0, 1, 2, 3, 4, 5, 6, 7, 8, 9, 10, 11, 12, 13, 14, 15, 16, 17, 18, 19, 20, 21, 22, 23, 24, 25, 26, 27, 28, 29, 30, 31, 32, 33, 34, 35, 36, 37, 38, 39, 40, 41, 42, 43, 44, 45, 46])
  (.exit 0))))
  (.seq (.block 1 (.seq (.region [⟨(some 18), none, (.prim .mov [(.tmp 0)])⟩,
    ⟨(some 19), none, (.prim .mov [(.tmp 6)])⟩,
    ⟨(some 20), none, (.prim .index [(.tmp 18), (.tmp 19)])⟩,
    ⟨(some 21), none, (.prim (.toInt .u64) [(.tmp 20)])⟩,
    ⟨(some 7), none, (.prim .mov [(.tmp 21)])⟩] [15, 18, 19, 20, 21])
  (.seq (.seq (.region [⟨(some 22), none, (.prim .mov [(.tmp 6)])⟩,
    ⟨(some 23), none, (.prim (.bin .eql) [(.tmp 22), (.const (.int .i64 9))])⟩,
    ⟨(some 24), none, (.prim .mov [(.tmp 23)])⟩,
    ⟨(some 25), (some (24, true)), (.prim .mov [(.tmp 7)])⟩,
    ⟨(some 26), (some (24, true)), (.prim (.bin .gtr) [(.tmp 25), (.const (.int .u64 1))])⟩,
    ⟨(some 27), none, (.pick (.tmp 24) (.tmp 26) (.const (.bool false)))⟩] [22, 23, 24])
  (.cond (.tmp 27)
  (.seq (.region [⟨(some 2), none, (.prim .mov [(.const (.int .u64 0))])⟩,
    ⟨(some 3), none, (.prim .mov [(.const (.int .i64 0))])⟩,
    ⟨(some 4), none, (.prim .mov [(.const (.bool false))])⟩] [0, 5, 6, 7, 13, 14, 25, 26, 27])
  .ret)
  .skip))
  (.seq (.region [⟨(some 28), none, (.prim .mov [(.tmp 5)])⟩,
    ⟨(some 29), none, (.prim .mov [(.tmp 7)])⟩,
    ⟨(some 30), none, (.prim (.bin .and) [(.tmp 29), (.const (.int .u64 127))])⟩,
    ⟨(some 31), none, (.prim .mov [(.tmp 6)])⟩,
    ⟨(some 32), none, (.prim (.bin .mul) [(.const (.int .i64 7)), (.tmp 31)])⟩,
    ⟨(some 33), none, (.prim (.toInt .u64) [(.tmp 32)])⟩,
    ⟨(some 34), none, (.prim (.bin .shl) [(.tmp 30), (.tmp 33)])⟩,
    ⟨(some 35), none, (.prim (.bin .or) [(.tmp 28), (.tmp 34)])⟩,
    ⟨(some 5), none, (.prim .mov [(.tmp 35)])⟩] [27, 28, 29, 30, 31, 32, 33, 34, 35])
  (.seq (.region [⟨(some 36), none, (.prim .mov [(.tmp 7)])⟩,
    ⟨(some 37), none, (.prim (.bin .lss) [(.tmp 36), (.const (.int .u64 128))])⟩] [36])
  (.cond (.tmp 37)
  (.seq (.seq (.region [⟨(some 38), none, (.prim .mov [(.tmp 6)])⟩,
    ⟨(some 39), none, (.prim (.bin .gtr) [(.tmp 38), (.const (.int .i64 0))])⟩,
    ⟨(some 40), none, (.prim .mov [(.tmp 39)])⟩,
    ⟨(some 41), (some (40, true)), (.prim .mov [(.tmp 7)])⟩,
    ⟨(some 42), (some (40, true)), (.prim (.bin .eql) [(.tmp 41), (.const (.int .u64 0))])⟩,
    ⟨(some 43), none, (.pick (.tmp 40) (.tmp 42) (.const (.bool false)))⟩] [0, 7, 13, 14, 25, 26, 37, 38, 39, 40, 41, 42])
  (.cond (.tmp 43)
  (.seq (.region [⟨(some 2), none, (.prim .mov [(.const (.int .u64 0))])⟩,
    ⟨(some 3), none, (.prim .mov [(.const (.int .i64 0))])⟩,
    ⟨(some 4), none, (.prim .mov [(.const (.bool false))])⟩] [5, 6, 43])
  .ret)
  .skip))
  (.seq (.region [⟨(some 44), none, (.prim .mov [(.tmp 5)])⟩,
    ⟨(some 45), none, (.prim .mov [(.tmp 6)])⟩,
    ⟨(some 46), none, (.prim (.bin .add) [(.tmp 45), (.const (.int .i64 1))])⟩,
    ⟨(some 2), none, (.prim .mov [(.tmp 44)])⟩,
    ⟨(some 3), none, (.prim .mov [(.tmp 46)])⟩,
    ⟨(some 4), none, (.prim .mov [(.const (.bool true))])⟩] [5, 6, 43, 44, 45, 46])
  .ret))
  .skip))))))
  (.region [⟨(some 16), none, (.prim .mov [(.tmp 6)])⟩,
    ⟨(some 17), none, (.prim (.bin .add) [(.tmp 16), (.const (.int .i64 1))])⟩,
    ⟨(some 6), none, (.prim .mov [(.tmp 17)])⟩] [7, 16, 17, 37])))
def A90x1 : VCode := (.seq (.region [⟨(some 6), none, (.prim .mov [(.const (.int .i64 0))])⟩] [])
  (.block 0 (.loop kL90x2 L90x2)))
def B90x1 : VCode := (.seq (.region [⟨(some 2), none, (.prim .mov [(.const (.int .u64 0))])⟩,
    ⟨(some 3), none, (.prim .mov [(.const (.int .i64 0))])⟩,
    ⟨(some 4), none, (.prim .mov [(.const (.bool false))])⟩] [])
  .ret)

/-- vmfleet/vmfleetref1.Uvarint -/
def F90 : VFunc := ⟨47,
  (.seq (.region [⟨(some 2), none, (.prim .mov [(.const (.int .u64 0))])⟩,
    ⟨(some 3), none, (.prim .mov [(.const (.int .i64 0))])⟩,
    ⟨(some 4), none, (.prim .mov [(.const (.bool false))])⟩] [2, 3, 4])
  (.seq (.region [⟨(some 5), none, (.prim .mov [(.const (.int .u64 0))])⟩] [])
  (.seq A90x1
  B90x1))), [2, 3, 4], []⟩
theorem c90 : compile Try.prog sg 90 = some F90 := by kernel_rfl


/-- vmfleet/vmfleetref1.Next -/
def F91 : VFunc := ⟨23,
  (.seq (.region [⟨(some 2), none, (.prim .mov [(.const (.int .u64 0))])⟩,
    ⟨(some 3), none, (.prim .mov [(.const (.int .u64 0))])⟩] [2, 3])
  (.seq (.region [⟨(some 6), none, (.prim .mov [(.tmp 0)])⟩,
    ⟨(some 7), none, (.prim (.bin .add) [(.tmp 6), (.const (.int .u64 11400714819323198485))])⟩,
    ⟨(some 4), none, (.prim .mov [(.tmp 7)])⟩] [0, 6, 7])
  (.seq (.region [⟨(some 8), none, (.prim .mov [(.tmp 4)])⟩,
    ⟨(some 9), none, (.prim .mov [(.tmp 4)])⟩,
    ⟨(some 10), none, (.prim (.bin .shr) [(.tmp 9), (.const (.int .u64 30))])⟩,
    ⟨(some 11), none, (.prim (.bin .xor) [(.tmp 8), (.tmp 10)])⟩,
    ⟨(some 12), none, (.prim (.bin .mul) [(.tmp 11), (.const (.int .u64 13787848793156543929))])⟩,
    ⟨(some 5), none, (.prim .mov [(.tmp 12)])⟩] [8, 9, 10, 11, 12])
  (.seq (.region [⟨(some 13), none, (.prim .mov [(.tmp 5)])⟩,
    ⟨(some 14), none, (.prim .mov [(.tmp 5)])⟩,
    ⟨(some 15), none, (.prim (.bin .shr) [(.tmp 14), (.const (.int .u64 27))])⟩,
    ⟨(some 16), none, (.prim (.bin .xor) [(.tmp 13), (.tmp 15)])⟩,
    ⟨(some 17), none, (.prim (.bin .mul) [(.tmp 16), (.const (.int .u64 10723151780598845931))])⟩,
    ⟨(some 5), none, (.prim .mov [(.tmp 17)])⟩] [13, 14, 15, 16, 17])
  (.seq (.region [⟨(some 18), none, (.prim .mov [(.tmp 5)])⟩,
    ⟨(some 19), none, (.prim .mov [(.tmp 5)])⟩,
    ⟨(some 20), none, (.prim (.bin .shr) [(.tmp 19), (.const (.int .u64 31))])⟩,
    ⟨(some 21), none, (.prim (.bin .xor) [(.tmp 18), (.tmp 20)])⟩,
    ⟨(some 22), none, (.prim .mov [(.tmp 4)])⟩,
    ⟨(some 2), none, (.prim .mov [(.tmp 21)])⟩,
    ⟨(some 3), none, (.prim .mov [(.tmp 22)])⟩] [4, 5, 18, 19, 20, 21, 22])
  .ret))))), [2, 3], []⟩
theorem c91 : compile Try.prog sg 91 = some F91 := by kernel_rfl

def kL92x2 : List Nat := [2, 3, 4, 5, 6, 7, 8, 9, 13, 14, 15, 16, 17, 18, 19, 20, 21, 22, 23, 24, 25, 26, 27, 28, 29, 30, 31, 32, 33, 34, 35, 36]
def L92x2 : VCode := (.seq (.region [⟨(some 13), none, (.prim (.bin .lss) [(.tmp 12), (.tmp 11)])⟩] [])
  (.seq (.cond (.tmp 13)
  .skip
  (.seq (.region [] [2, 3, 4, 5, 6, 7, 8, 9, 10, 11, 12, 13, 14, 15, 16, 17, 18, 19, 20, 21, 22, 23, 24, 25, 26, 27, 28, 29, 30, 31, 32, 33, 34, 35, 36])
  (.exit 0)))
  (.seq (.block 1 (.seq (.region [⟨(some 14), none, (.prim (.iptr []) [(.tmp 10), (.tmp 12)])⟩,
    ⟨(some 15), none, (.prim .load [(.tmp 10), (.tmp 14)])⟩,
    ⟨(some 6), none, (.prim .mov [(.const (.agg [(.int .u64 0), (.agg [(.int .i64 0), (.int .u32 0), (.str [])])]))])⟩,
    ⟨none, none, (.store 6 none (.tmp 15))⟩] [13, 14, 15])
  (.seq (.region [⟨(some 16), none, (.prim (.fptr 1) [(.const (.ptr []))])⟩,
    ⟨(some 17), none, (.prim .load [(.tmp 6), (.tmp 16)])⟩,
    ⟨(some 18), none, (.call 45 1 [(.tmp 17)] [])⟩,
    ⟨(some 19), none, (.prim (.un .not) [(.tmp 18)])⟩] [6, 16, 17, 18])
  (.cond (.tmp 19)
  (.seq (.region [⟨(some 4), none, (.prim .mov [(.const (.int .i64 1900))])⟩] [0, 1, 10, 11, 12, 19])
  .ret)
  .skip))))
  (.region [⟨(some 20), none, (.prim (.bin .add) [(.tmp 12), (.const (.int .i64 1))])⟩,
    ⟨(some 12), none, (.prim .mov [(.tmp 20)])⟩] [19, 20]))))
def A92x1 : VCode := (.seq (.region [⟨(some 10), none, (.prim .mov [(.tmp 0)])⟩,
    ⟨(some 11), none, (.prim .len [(.tmp 10)])⟩,
    ⟨(some 12), none, (.prim .mov [(.const (.int .i64 0))])⟩] [9])
  (.block 0 (.loop kL92x2 L92x2)))
def B92x1 : VCode := (.seq (.seq (.region [⟨(some 21), none, (.prim .mov [(.tmp 0)])⟩,
    ⟨(some 22), none, (.call 109 1 [(.tmp 21)] [])⟩,
    ⟨(some 23), none, (.prim (.un .not) [(.tmp 22)])⟩,
    ⟨(some 24), none, (.prim .mov [(.tmp 23)])⟩,
    ⟨(some 25), (some (24, false)), (.prim .mov [(.tmp 0)])⟩,
    ⟨(some 26), (some (24, false)), (.prim .len [(.tmp 25)])⟩,
    ⟨(some 27), (some (24, false)), (.prim (.bin .gtr) [(.tmp 26), (.const (.int .i64 0))])⟩,
    ⟨(some 28), (some (24, false)), (.prim .mov [(.tmp 27)])⟩,
    ⟨(some 29), (some (28, true)), (.prim .mov [(.tmp 0)])⟩,
    ⟨(some 30), (some (28, true)), (.prim (.iptr []) [(.tmp 29), (.const (.int .i64 0))])⟩,
    ⟨(some 31), (some (28, true)), (.prim (.fptr 0) [(.tmp 30)])⟩,
    ⟨(some 32), (some (28, true)), (.prim .load [(.tmp 29), (.tmp 31)])⟩,
    ⟨(some 33), (some (28, true)), (.prim .mov [(.tmp 1)])⟩,
    ⟨(some 34), (some (28, true)), (.prim (.bin .lss) [(.tmp 32), (.tmp 33)])⟩,
    ⟨(some 35), (some (24, false)), (.pick (.tmp 28) (.tmp 34) (.const (.bool false)))⟩,
    ⟨(some 36), none, (.pick (.tmp 24) (.const (.bool true)) (.tmp 35))⟩] [0, 1, 21, 22, 23, 24, 25, 26, 27, 28, 29, 30, 31, 32, 33, 34, 35])
  (.cond (.tmp 36)
  (.seq (.region [⟨(some 4), none, (.prim .mov [(.const (.int .i64 1901))])⟩] [36])
  .ret)
  .skip))
  (.seq (.region [⟨(some 4), none, (.prim .mov [(.const (.int .i64 0))])⟩] [36])
  .ret))

/-- vmfleet/eventlog.check -/
def F92 : VFunc := ⟨37,
  (.seq (.region [⟨(some 4), none, (.prim .mov [(.const (.int .i64 0))])⟩] [4])
  (.seq (.seq (.region [⟨(some 7), none, (.prim .mov [(.tmp 0)])⟩,
    ⟨(some 8), none, (.prim .len [(.tmp 7)])⟩,
    ⟨(some 9), none, (.prim (.bin .gtr) [(.tmp 8), (.const (.int .i64 400))])⟩] [7, 8])
  (.cond (.tmp 9)
  (.seq (.region [⟨(some 4), none, (.prim .mov [(.const (.int .i64 1902))])⟩] [0, 1, 9])
  .ret)
  .skip))
  (.seq A92x1
  B92x1))), [4], []⟩
theorem c92 : compile Try.prog sg 92 = some F92 := by kernel_rfl

def A93x2 : VCode := (.seq (.region [⟨(some 11), none, (.prim (.bin .eql) [(.tmp 9), (.const (.int .i64 1))])⟩,
    ⟨(some 10), none, (.prim .mov [(.tmp 11)])⟩] [11])
  (.cond (.tmp 10)
  .skip
  (.seq (.region [⟨(some 12), none, (.prim (.bin .eql) [(.tmp 9), (.const (.int .i64 3))])⟩,
    ⟨(some 10), none, (.prim .mov [(.tmp 12)])⟩] [12])
  (.cond (.tmp 10)
  .skip
  (.region [⟨(some 13), none, (.prim (.bin .eql) [(.tmp 9), (.const (.int .i64 6))])⟩,
    ⟨(some 10), none, (.prim .mov [(.tmp 13)])⟩] [13])))))
def B93x2 : VCode := (.cond (.tmp 10)
  (.region [⟨(some 14), none, (.prim .mov [(.tmp 3)])⟩,
    ⟨(some 15), none, (.prim (.fptr 1) [(.const (.ptr []))])⟩,
    ⟨(some 16), none, (.prim .load [(.tmp 1), (.tmp 15)])⟩,
    ⟨(some 17), none, (.prim (.toInt .u64) [(.tmp 16)])⟩,
    ⟨(some 18), none, (.call 66 1 [(.tmp 17)] [])⟩,
    ⟨(some 19), none, (.prim (.bin .add) [(.tmp 14), (.tmp 18)])⟩,
    ⟨(some 3), none, (.prim .mov [(.tmp 19)])⟩] [1, 9, 10, 14, 15, 16, 17, 18, 19])
  (.seq (.region [⟨(some 21), none, (.prim (.bin .eql) [(.tmp 9), (.const (.int .i64 4))])⟩,
    ⟨(some 20), none, (.prim .mov [(.tmp 21)])⟩] [10, 21])
  (.cond (.tmp 20)
  (.region [⟨(some 22), none, (.prim .mov [(.tmp 3)])⟩,
    ⟨(some 23), none, (.prim (.fptr 1) [(.const (.ptr []))])⟩,
    ⟨(some 24), none, (.prim .load [(.tmp 1), (.tmp 23)])⟩,
    ⟨(some 25), none, (.prim (.toInt .u64) [(.tmp 24)])⟩,
    ⟨(some 26), none, (.call 66 1 [(.tmp 25)] [])⟩,
    ⟨(some 27), none, (.prim (.fptr 2) [(.const (.ptr []))])⟩,
    ⟨(some 28), none, (.prim .load [(.tmp 1), (.tmp 27)])⟩,
    ⟨(some 29), none, (.call 71 1 [(.tmp 28)] [])⟩,
    ⟨(some 30), none, (.prim (.bin .add) [(.tmp 26), (.tmp 29)])⟩,
    ⟨(some 31), none, (.prim (.bin .add) [(.tmp 22), (.tmp 30)])⟩,
    ⟨(some 3), none, (.prim .mov [(.tmp 31)])⟩] [1, 9, 20, 22, 23, 24, 25, 26, 27, 28, 29, 30, 31])
  (.seq (.region [⟨(some 33), none, (.prim (.bin .eql) [(.tmp 9), (.const (.int .i64 5))])⟩,
    ⟨(some 32), none, (.prim .mov [(.tmp 33)])⟩] [9, 20, 33])
  (.cond (.tmp 32)
  (.region [⟨(some 34), none, (.prim .mov [(.tmp 3)])⟩,
    ⟨(some 35), none, (.prim (.fptr 2) [(.const (.ptr []))])⟩,
    ⟨(some 36), none, (.prim .load [(.tmp 1), (.tmp 35)])⟩,
    ⟨(some 37), none, (.call 71 1 [(.tmp 36)] [])⟩,
    ⟨(some 38), none, (.prim (.bin .add) [(.tmp 34), (.tmp 37)])⟩,
    ⟨(some 3), none, (.prim .mov [(.tmp 38)])⟩] [1, 32, 34, 35, 36, 37, 38])
  .skip)))))
def A93x1 : VCode := (.seq (.region [⟨(some 8), none, (.prim (.fptr 0) [(.const (.ptr []))])⟩,
    ⟨(some 9), none, (.prim .load [(.tmp 1), (.tmp 8)])⟩] [8])
  (.block 0 (.seq A93x2
  B93x2)))
def B93x1 : VCode := (.seq (.region [⟨(some 39), none, (.prim .mov [(.tmp 3)])⟩,
    ⟨(some 2), none, (.prim .mov [(.tmp 39)])⟩] [3, 39])
  .ret)

/-- vmfleet/eventlog.encode -/
def F93 : VFunc := ⟨40,
  (.seq (.region [⟨(some 1), none, (.prim .mov [(.tmp 0)])⟩,
    ⟨(some 2), none, (.prim .mov [(.const (.str []))])⟩] [0, 2])
  (.seq (.region [⟨(some 4), none, (.prim (.fptr 0) [(.const (.ptr []))])⟩,
    ⟨(some 5), none, (.prim .load [(.tmp 1), (.tmp 4)])⟩,
    ⟨(some 6), none, (.prim (.toInt .u64) [(.tmp 5)])⟩,
    ⟨(some 7), none, (.call 66 1 [(.tmp 6)] [])⟩,
    ⟨(some 3), none, (.prim .mov [(.tmp 7)])⟩] [4, 5, 6, 7])
  (.seq A93x1
  B93x1))), [2], []⟩
theorem c93 : compile Try.prog sg 93 = some F93 := by kernel_rfl

def kL94x2 : List Nat := [2, 3, 4, 5, 6, 9, 10, 11, 12, 13, 14, 15, 16, 17, 18, 19]
def L94x2 : VCode := (.seq (.region [⟨(some 9), none, (.prim (.bin .lss) [(.tmp 8), (.tmp 7)])⟩] [])
  (.seq (.cond (.tmp 9)
  .skip
  (.seq (.region [] [1, 2, 3, 4, 5, 6, 7, 8, 9, 10, 11, 12, 13, 14, 15, 16, 17, 18, 19])
  (.exit 0)))
  (.seq (.block 1 (.seq (.region [⟨(some 10), none, (.prim .mov [(.tmp 8)])⟩,
    ⟨(some 5), none, (.prim .mov [(.tmp 10)])⟩] [9, 10])
  (.region [⟨(some 11), none, (.prim .mov [(.tmp 0)])⟩,
    ⟨(some 12), none, (.prim .mov [(.tmp 1)])⟩,
    ⟨(some 13), none, (.prim .mov [(.tmp 5)])⟩,
    ⟨(some 14), none, (.prim .index [(.tmp 12), (.tmp 13)])⟩,
    ⟨(some 15), none, (.prim (.toInt .u64) [(.tmp 14)])⟩,
    ⟨(some 16), none, (.prim (.bin .xor) [(.tmp 11), (.tmp 15)])⟩,
    ⟨(some 17), none, (.prim (.bin .mul) [(.tmp 16), (.const (.int .u64 1099511628211))])⟩,
    ⟨(some 0), none, (.prim .mov [(.tmp 17)])⟩] [5, 11, 12, 13, 14, 15, 16, 17])))
  (.region [⟨(some 18), none, (.prim (.bin .add) [(.tmp 8), (.const (.int .i64 1))])⟩,
    ⟨(some 8), none, (.prim .mov [(.tmp 18)])⟩] [18]))))
def A94x1 : VCode := (.seq (.region [⟨(some 6), none, (.prim .mov [(.tmp 1)])⟩,
    ⟨(some 7), none, (.prim .len [(.tmp 6)])⟩,
    ⟨(some 8), none, (.prim .mov [(.const (.int .i64 0))])⟩] [6])
  (.block 0 (.loop kL94x2 L94x2)))
def B94x1 : VCode := (.seq (.region [⟨(some 19), none, (.prim .mov [(.tmp 0)])⟩,
    ⟨(some 4), none, (.prim .mov [(.tmp 19)])⟩] [0, 19])
  .ret)

/-- vmfleet/bits.Hash -/
def F94 : VFunc := ⟨20,
  (.seq (.region [⟨(some 4), none, (.prim .mov [(.const (.int .u64 0))])⟩] [4])
  (.seq A94x1
  B94x1)), [4], []⟩
theorem c94 : compile Try.prog sg 94 = some F94 := by kernel_rfl

def kL109x2 : List Nat := [1, 2, 4, 5, 6, 7, 8, 9, 10, 11, 12, 13, 14, 15, 16, 17, 18, 19, 20, 21, 22, 23, 24, 25, 26, 27, 28, 29, 30, 31, 32, 33, 34, 35, 36, 37, 38]
def L109x2 : VCode := (.seq (.seq (.region [⟨(some 6), none, (.prim .mov [(.tmp 3)])⟩,
    ⟨(some 7), none, (.prim .mov [(.tmp 0)])⟩,
    ⟨(some 8), none, (.prim .len [(.tmp 7)])⟩,
    ⟨(some 9), none, (.prim (.bin .lss) [(.tmp 6), (.tmp 8)])⟩] [6, 7, 8])
  (.cond (.tmp 9)
  .skip
  (.seq (.region [] [0, 1, 2, 3, 4, 5, 6, 7, 8, 9, 10, 11, 12, 13, 14, 15, 16, 17, 18, 19, 20, 21, 22, 23, 24, 25, 26, 27, 28, 29, 30, 31, 32, 33, 34, 35, 36, 37, 38])
  (.exit 0))))
  (.seq (.block 1 (.seq (.region [⟨(some 12), none, (.prim .mov [(.tmp 0)])⟩,
    ⟨(some 13), none, (.prim .mov [(.tmp 3)])⟩,
    ⟨(some 14), none, (.prim (.bin .sub) [(.tmp 13), (.const (.int .i64 1))])⟩,
    ⟨(some 15), none, (.prim (.iptr []) [(.tmp 12), (.tmp 14)])⟩,
    ⟨(some 16), none, (.prim .load [(.tmp 12), (.tmp 15)])⟩,
    ⟨(some 17), none, (.prim .mov [(.tmp 0)])⟩,
    ⟨(some 18), none, (.prim .mov [(.tmp 3)])⟩,
    ⟨(some 19), none, (.prim (.iptr []) [(.tmp 17), (.tmp 18)])⟩,
    ⟨(some 20), none, (.prim .load [(.tmp 17), (.tmp 19)])⟩,
    ⟨(some 4), none, (.prim .mov [(.const (.agg [(.int .u64 0), (.agg [(.int .i64 0), (.int .u32 0), (.str [])])]))])⟩,
    ⟨(some 5), none, (.prim .mov [(.const (.agg [(.int .u64 0), (.agg [(.int .i64 0), (.int .u32 0), (.str [])])]))])⟩,
    ⟨none, none, (.store 4 none (.tmp 16))⟩,
    ⟨none, none, (.store 5 none (.tmp 20))⟩] [9, 12, 13, 14, 15, 16, 17, 18, 19, 20])
  (.seq (.region [⟨(some 21), none, (.prim (.fptr 0) [(.const (.ptr []))])⟩,
    ⟨(some 22), none, (.prim .load [(.tmp 4), (.tmp 21)])⟩,
    ⟨(some 23), none, (.prim (.fptr 0) [(.const (.ptr []))])⟩,
    ⟨(some 24), none, (.prim .load [(.tmp 5), (.tmp 23)])⟩,
    ⟨(some 25), none, (.prim (.bin .gtr) [(.tmp 22), (.tmp 24)])⟩,
    ⟨(some 26), none, (.prim .mov [(.tmp 25)])⟩,
    ⟨(some 27), (some (26, false)), (.prim (.fptr 0) [(.const (.ptr []))])⟩,
    ⟨(some 28), (some (26, false)), (.prim .load [(.tmp 4), (.tmp 27)])⟩,
    ⟨(some 29), (some (26, false)), (.prim (.fptr 0) [(.const (.ptr []))])⟩,
    ⟨(some 30), (some (26, false)), (.prim .load [(.tmp 5), (.tmp 29)])⟩,
    ⟨(some 31), (some (26, false)), (.prim (.bin .eql) [(.tmp 28), (.tmp 30)])⟩,
    ⟨(some 32), (some (26, false)), (.prim .mov [(.tmp 31)])⟩,
    ⟨(some 33), (some (32, true)), (.prim (.fptr 1) [(.const (.ptr []))])⟩,
    ⟨(some 34), (some (32, true)), (.prim (.fptr 0) [(.tmp 33)])⟩,
    ⟨(some 35), (some (32, true)), (.prim .load [(.tmp 4), (.tmp 34)])⟩,
    ⟨(some 36), (some (32, true)), (.prim (.bin .eql) [(.tmp 35), (.const (.int .i64 1))])⟩,
    ⟨(some 37), (some (26, false)), (.pick (.tmp 32) (.tmp 36) (.const (.bool false)))⟩,
    ⟨(some 38), none, (.pick (.tmp 26) (.const (.bool true)) (.tmp 37))⟩] [21, 22, 23, 24, 25, 26])
  (.cond (.tmp 38)
  (.seq (.region [⟨(some 2), none, (.prim .mov [(.const (.bool false))])⟩] [0, 3, 4, 5, 27, 28, 29, 30, 31, 32, 33, 34, 35, 36, 37, 38])
  .ret)
  .skip))))
  (.region [⟨(some 10), none, (.prim .mov [(.tmp 3)])⟩,
    ⟨(some 11), none, (.prim (.bin .add) [(.tmp 10), (.const (.int .i64 1))])⟩,
    ⟨(some 3), none, (.prim .mov [(.tmp 11)])⟩] [10, 11, 38])))
def A109x1 : VCode := (.seq (.region [⟨(some 3), none, (.prim .mov [(.const (.int .i64 1))])⟩] [])
  (.block 0 (.loop kL109x2 L109x2)))
def B109x1 : VCode := (.seq (.region [⟨(some 2), none, (.prim .mov [(.const (.bool true))])⟩] [])
  .ret)

/-- vmfleet/bare.Ordered -/
def F109 : VFunc := ⟨39,
  (.seq (.region [⟨(some 2), none, (.prim .mov [(.const (.bool false))])⟩] [2])
  (.seq A109x1
  B109x1)), [2], []⟩
theorem c109 : compile Try.prog sg 109 = some F109 := by kernel_rfl

noncomputable def T : Nat → Option VFunc := fun f => compile Try.prog sg f
/-! vmfleet/vmfleetlaw19.EventlogValid -/
@[simp] theorem lA10x1 (t1 t2 t3 : PV) (K : RK) : denK T A10x1 [.undef, t1, t2, t3, .undef, .undef, .undef, .undef, .undef, .undef, .undef, .undef, .undef, .undef, .undef, .undef, .undef, .undef, .undef, .undef, .undef, .undef, .undef, .undef, .undef, .undef, .undef, .undef, .undef, .undef] K =
  Option.bind (chk t2 fun a0 => Prim.run .mov [a0]) fun t7 =>
  chk t7 fun c0 => isB c0
 (Option.bind (chk t1 fun a0 => Prim.run .mov [a0]) fun t8 =>
  Option.bind (chk t8 fun a0 => Option.bind (Ans T 43 [a0]) fun rs => retV 1 rs) fun t9 =>
  chk t9 fun a0 => chk t3 fun y0 => Option.bind (setP [] y0 a0) fun t3 =>
  Option.bind (Prim.run (.fptr 1) [(.ptr [])]) fun t10 =>
  Option.bind (chk t3 fun a0 => chk t10 fun a1 => Prim.run .load [a0, a1]) fun t11 =>
  Option.bind (chk t1 fun a0 => Prim.run .mov [a0]) fun t12 =>
  Option.bind (chk t12 fun a0 => Prim.run (.bin .and) [a0, (.int .i64 1)]) fun t13 =>
  Option.bind (chk t13 fun a0 => Prim.run (.toInt .u32) [a0]) fun t14 =>
  Option.bind (chk t11 fun a0 => chk t14 fun a1 => Prim.run (.bin .add) [a0, a1]) fun t15 =>
  Option.bind (Prim.run (.fptr 1) [(.ptr [])]) fun t16 =>
  chk t15 fun a0 => asPath t16 fun q0 => chk t3 fun y0 => Option.bind (setP q0 y0 a0) fun t3 =>
  K (.normal, [.undef, .undef, .undef, t3, .undef, .undef, .undef, .undef, .undef, .undef, .undef, .undef, .undef, .undef, .undef, .undef, .undef, .undef, .undef, .undef, .undef, .undef, .undef, .undef, .undef, .undef, .undef, .undef, .undef, .undef]))
 (K (.normal, [.undef, t1, .undef, t3, .undef, .undef, .undef, t7, .undef, .undef, .undef, .undef, .undef, .undef, .undef, .undef, .undef, .undef, .undef, .undef, .undef, .undef, .undef, .undef, .undef, .undef, .undef, .undef, .undef, .undef])) := by kernel_rfl
@[simp] theorem lB10x1 (t1 t3 t7 : PV) (K : RK) : denK T B10x1 [.undef, t1, .undef, t3, .undef, .undef, .undef, t7, .undef, .undef, .undef, .undef, .undef, .undef, .undef, .undef, .undef, .undef, .undef, .undef, .undef, .undef, .undef, .undef, .undef, .undef, .undef, .undef, .undef, .undef] K =
  Option.bind (Prim.run (.fptr 2) [(.ptr [])]) fun t17 =>
  Option.bind (chk t3 fun a0 => chk t17 fun a1 => Prim.run .load [a0, a1]) fun t18 =>
  Option.bind (chk t18 fun a0 => Prim.run .len [a0]) fun t19 =>
  Option.bind (chk t19 fun a0 => Prim.run (.bin .gtr) [a0, (.int .i64 300)]) fun t20 =>
  chk t20 fun c0 => isB c0
 (Option.bind (Option.bind (Ans T 44 []) fun rs => retV 1 rs) fun t21 =>
  Option.bind (chk t21 fun a0 => Prim.run .mov [a0]) fun t6 =>
  K (.ret, [.undef, t1, .undef, .undef, .undef, .undef, t6, t7, .undef, .undef, .undef, .undef, .undef, .undef, .undef, .undef, .undef, .undef, .undef, .undef, .undef, .undef, .undef, .undef, .undef, .undef, .undef, .undef, .undef, .undef]))
 (Option.bind (chk t3 fun a0 => Prim.run .load [a0, (.ptr [])]) fun t22 =>
  Option.bind (chk t22 fun a0 => Option.bind (Ans T 45 [a0]) fun rs => retV 1 rs) fun t23 =>
  Option.bind (chk t3 fun a0 => Prim.run .load [a0, (.ptr [])]) fun t24 =>
  Option.bind (chk t24 fun a0 => Option.bind (Ans T 46 [a0]) fun rs => retV 1 rs) fun t25 =>
  Option.bind (chk t23 fun a0 => chk t25 fun a1 => Prim.run (.eqv false (.bool false)) [a0, a1]) fun t26 =>
  Option.bind (chk t26 fun a0 => Prim.run .mov [a0]) fun t27 =>
  Option.bind (grd t27 true (Option.bind (Ans T 44 []) fun rs => retV 1 rs)) fun t28 =>
  Option.bind (chk t27 fun a0 => isB a0 (chk t28 fun a1 => some a1) (some (.bool false))) fun t29 =>
  Option.bind (chk t29 fun a0 => Prim.run .mov [a0]) fun t6 =>
  K (.ret, [.undef, t1, .undef, .undef, .undef, .undef, t6, t7, .undef, .undef, .undef, .undef, .undef, .undef, .undef, .undef, .undef, .undef, .undef, .undef, .undef, .undef, .undef, .undef, .undef, .undef, .undef, .undef, .undef, .undef])) := by kernel_rfl
theorem f10 (t0 t1 t2 : PV) {rs : List PV} (h : (Option.bind (chk t0 fun a0 => Prim.run .mov [a0]) fun t3 =>
  Option.bind (Prim.run .mov [(.bool false)]) fun t6 =>
  denK T A10x1 [.undef, t1, t2, t3, .undef, .undef, .undef, .undef, .undef, .undef, .undef, .undef, .undef, .undef, .undef, .undef, .undef, .undef, .undef, .undef, .undef, .undef, .undef, .undef, .undef, .undef, .undef, .undef, .undef, .undef] (seqK T B10x1 (endK [6]))) = some rs) : Ans T 10 [t0, t1, t2] = some rs := call_of (T := T) c10 (Eq.trans (by kernel_rfl) h)
/-! vmfleet/vmfleetlaw19.EventlogSeals -/
theorem f11 (t0 t1 t2 : PV) {rs : List PV} (h : (Option.bind (Prim.run .mov [(.bool false)]) fun t6 =>
  Option.bind (chk t1 fun a0 => Prim.run .mov [a0]) fun t16 =>
  Option.bind (chk t16 fun a0 => Prim.run .len [a0]) fun t17 =>
  Option.bind (chk t17 fun a0 => Prim.run (.bin .gtr) [a0, (.int .i64 300)]) fun t18 =>
  chk t18 fun c0 => isB c0
 (Option.bind (Option.bind (Ans T 44 []) fun rs => retV 1 rs) fun t19 =>
  Option.bind (chk t19 fun a0 => Prim.run .mov [a0]) fun t6 =>
  allDef [t6])
 (Option.bind (chk t0 fun a0 => Prim.run .mov [a0]) fun t20 =>
  Option.bind (chk t1 fun a0 => Prim.run .mov [a0]) fun t21 =>
  Option.bind (chk t20 fun a0 => chk t21 fun a1 => Option.bind (Ans T 47 [a0, a1]) fun rs => retV 1 rs) fun t22 =>
  Option.bind (chk t22 fun a0 => Prim.run .mov [a0]) fun t7 =>
  Option.bind (chk t7 fun a0 => Prim.run .mov [a0]) fun t24 =>
  Option.bind (chk t24 fun a0 => Option.bind (Ans T 48 [a0]) fun rs => retV 3 rs) fun t25 =>
  Option.bind (chk t25 fun a0 => Prim.run .mov [a0]) fun t23 =>
  Option.bind (chk t23 fun a0 => Prim.run (.ext 0) [a0]) fun t26 =>
  Option.bind (chk t23 fun a0 => Prim.run (.ext 1) [a0]) fun t27 =>
  Option.bind (chk t23 fun a0 => Prim.run (.ext 2) [a0]) fun t28 =>
  Option.bind (chk t26 fun a0 => Prim.run .mov [a0]) fun t8 =>
  Option.bind (chk t27 fun a0 => Prim.run .mov [a0]) fun t9 =>
  Option.bind (chk t28 fun a0 => Prim.run .mov [a0]) fun t10 =>
  Option.bind (chk t7 fun a0 => Prim.run .mov [a0]) fun t29 =>
  Option.bind (chk t0 fun a0 => Prim.run .mov [a0]) fun t30 =>
  Option.bind (chk t1 fun a0 => Prim.run .mov [a0]) fun t31 =>
  Option.bind (chk t30 fun a0 => chk t31 fun a1 => Option.bind (Ans T 49 [a0, a1]) fun rs => retV 1 rs) fun t32 =>
  Option.bind (chk t29 fun a0 => chk t32 fun a1 => Prim.run (.bin .neq) [a0, a1]) fun t33 =>
  Option.bind (chk t33 fun a0 => Prim.run .mov [a0]) fun t34 =>
  Option.bind (grd t34 false (chk t8 fun a0 => Prim.run .mov [a0])) fun t35 =>
  Option.bind (grd t34 false (chk t0 fun a0 => Prim.run .mov [a0])) fun t36 =>
  Option.bind (grd t34 false (chk t35 fun a0 => chk t36 fun a1 => Prim.run (.bin .neq) [a0, a1])) fun t37 =>
  Option.bind (chk t34 fun a0 => isB a0 (some (.bool true)) (chk t37 fun a1 => some a1)) fun t38 =>
  Option.bind (chk t38 fun a0 => Prim.run .mov [a0]) fun t39 =>
  Option.bind (grd t39 false (chk t9 fun a0 => Prim.run .mov [a0])) fun t40 =>
  Option.bind (grd t39 false (chk t1 fun a0 => Prim.run .mov [a0])) fun t41 =>
  Option.bind (grd t39 false (chk t40 fun a0 => chk t41 fun a1 => Prim.run (.bin .neq) [a0, a1])) fun t42 =>
  Option.bind (chk t39 fun a0 => isB a0 (some (.bool true)) (chk t42 fun a1 => some a1)) fun t43 =>
  Option.bind (chk t43 fun a0 => Prim.run .mov [a0]) fun t44 =>
  Option.bind (grd t44 false (chk t10 fun a0 => Prim.run .mov [a0])) fun t45 =>
  Option.bind (grd t44 false (chk t45 fun a0 => Prim.run (.bin .neq) [a0, (.int .i64 0)])) fun t46 =>
  Option.bind (chk t44 fun a0 => isB a0 (some (.bool true)) (chk t46 fun a1 => some a1)) fun t47 =>
  chk t47 fun c0 => isB c0
 (Option.bind (Prim.run .mov [(.bool false)]) fun t6 =>
  allDef [t6])
 (Option.bind (chk t7 fun a0 => Prim.run .mov [a0]) fun t48 =>
  Option.bind (chk t48 fun a0 => Prim.run .toBytes [a0]) fun t49 =>
  Option.bind (chk t49 fun a0 => Prim.run .mov [a0]) fun t11 =>
  Option.bind (chk t2 fun a0 => Prim.run .mov [a0]) fun t50 =>
  Option.bind (chk t11 fun a0 => Prim.run .mov [a0]) fun t51 =>
  Option.bind (chk t51 fun a0 => Prim.run .len [a0]) fun t52 =>
  Option.bind (chk t52 fun a1 => Prim.run (.bin .mul) [(.int .i64 8), a1]) fun t53 =>
  Option.bind (chk t50 fun a0 => chk t53 fun a1 => Option.bind (Ans T 21 [a0, a1]) fun rs => retV 1 rs) fun t54 =>
  Option.bind (chk t54 fun a0 => Prim.run .mov [a0]) fun t12 =>
  Option.bind (chk t11 fun a0 => Prim.run .mov [a0]) fun t55 =>
  Option.bind (chk t12 fun a0 => Prim.run .mov [a0]) fun t56 =>
  Option.bind (chk t56 fun a0 => Prim.run (.bin .quo) [a0, (.int .i64 8)]) fun t57 =>
  Option.bind (chk t11 fun a0 => Prim.run .mov [a0]) fun t58 =>
  Option.bind (chk t12 fun a0 => Prim.run .mov [a0]) fun t59 =>
  Option.bind (chk t59 fun a0 => Prim.run (.bin .quo) [a0, (.int .i64 8)]) fun t60 =>
  Option.bind (chk t58 fun a0 => chk t60 fun a1 => Prim.run (.iptr []) [a0, a1]) fun t61 =>
  Option.bind (chk t11 fun a0 => chk t61 fun a1 => Prim.run .load [a0, a1]) fun t62 =>
  Option.bind (chk t12 fun a0 => Prim.run .mov [a0]) fun t63 =>
  Option.bind (chk t63 fun a0 => Prim.run (.bin .rem) [a0, (.int .i64 8)]) fun t64 =>
  Option.bind (chk t64 fun a0 => Prim.run (.toInt .u64) [a0]) fun t65 =>
  Option.bind (chk t65 fun a1 => Prim.run (.bin .shl) [(.int .u8 1), a1]) fun t66 =>
  Option.bind (chk t62 fun a0 => chk t66 fun a1 => Prim.run (.bin .xor) [a0, a1]) fun t67 =>
  Option.bind (chk t55 fun a0 => chk t57 fun a1 => Prim.run (.iptr []) [a0, a1]) fun t68 =>
  chk t67 fun a0 => asPath t68 fun q0 => chk t11 fun y0 => Option.bind (setP q0 y0 a0) fun t11 =>
  Option.bind (chk t11 fun a0 => Prim.run .mov [a0]) fun t70 =>
  Option.bind (chk t70 fun a0 => Prim.run .toStr [a0]) fun t71 =>
  Option.bind (chk t71 fun a0 => Option.bind (Ans T 48 [a0]) fun rs => retV 3 rs) fun t72 =>
  Option.bind (chk t72 fun a0 => Prim.run .mov [a0]) fun t69 =>
  Option.bind (chk t69 fun a0 => Prim.run (.ext 0) [a0]) fun t73 =>
  Option.bind (chk t69 fun a0 => Prim.run (.ext 1) [a0]) fun t74 =>
  Option.bind (chk t69 fun a0 => Prim.run (.ext 2) [a0]) fun t75 =>
  Option.bind (chk t73 fun a0 => Prim.run .mov [a0]) fun t13 =>
  Option.bind (chk t74 fun a0 => Prim.run .mov [a0]) fun t14 =>
  Option.bind (chk t75 fun a0 => Prim.run .mov [a0]) fun t15 =>
  Option.bind (chk t15 fun a0 => Prim.run .mov [a0]) fun t76 =>
  Option.bind (chk t76 fun a0 => Prim.run (.bin .neq) [a0, (.int .i64 0)]) fun t77 =>
  Option.bind (chk t77 fun a0 => Prim.run .mov [a0]) fun t78 =>
  Option.bind (grd t78 true (Option.bind (Ans T 44 []) fun rs => retV 1 rs)) fun t79 =>
  Option.bind (chk t78 fun a0 => isB a0 (chk t79 fun a1 => some a1) (some (.bool false))) fun t80 =>
  Option.bind (chk t80 fun a0 => Prim.run .mov [a0]) fun t6 =>
  allDef [t6]))) = some rs) : Ans T 11 [t0, t1, t2] = some rs := call_of (T := T) c11 (Eq.trans (by kernel_rfl) h)
/-! vmfleet/vmfleetlaw19.EventlogOpens -/
@[simp] theorem lA12x1 (t0 t1 t2 t3 t18 : PV) (K : RK) : denK T A12x1 [t0, t1, t2, t3, .undef, .undef, .undef, .undef, .undef, .undef, .undef, .undef, .undef, .undef, .undef, .undef, .undef, .undef, t18, .undef, .undef, .undef, .undef, .undef, .undef, .undef, .undef, .undef, .undef, .undef, .undef, .undef, .undef, .undef, .undef, .undef, .undef, .undef, .undef, .undef, .undef, .undef, .undef, .undef, .undef, .undef, .undef, .undef, .undef, .undef, .undef, .undef, .undef, .undef, .undef, .undef, .undef, .undef, .undef, .undef, .undef] K =
  Option.bind (chk t1 fun a0 => Prim.run .mov [a0]) fun t20 =>
  chk t20 fun c0 => isB c0
 (Option.bind (chk t2 fun a0 => Prim.run .mov [a0]) fun t21 =>
  Option.bind (chk t0 fun a0 => Prim.run .mov [a0]) fun t22 =>
  Option.bind (chk t21 fun a0 => chk t22 fun a1 => Option.bind (Ans T 49 [a0, a1]) fun rs => retV 1 rs) fun t23 =>
  Option.bind (chk t23 fun a0 => Prim.run .mov [a0]) fun t9 =>
  Option.bind (chk t9 fun a0 => Prim.run .mov [a0]) fun t24 =>
  Option.bind (chk t3 fun a0 => Prim.run .mov [a0]) fun t25 =>
  Option.bind (chk t9 fun a0 => Prim.run .mov [a0]) fun t26 =>
  Option.bind (chk t26 fun a0 => Prim.run .len [a0]) fun t27 =>
  Option.bind (chk t27 fun a0 => Prim.run (.bin .add) [a0, (.int .i64 1)]) fun t28 =>
  Option.bind (chk t25 fun a0 => chk t28 fun a1 => Option.bind (Ans T 21 [a0, a1]) fun rs => retV 1 rs) fun t29 =>
  Option.bind (chk t24 fun a0 => chk t29 fun a1 => Prim.run (.sl false true) [a0, a1]) fun t30 =>
  Option.bind (chk t0 fun a0 => Prim.run .mov [a0]) fun t31 =>
  Option.bind (chk t30 fun a0 => chk t31 fun a1 => Prim.run (.bin .add) [a0, a1]) fun t32 =>
  Option.bind (chk t32 fun a0 => Prim.run .mov [a0]) fun t0 =>
  K (.normal, [t0, .undef, .undef, .undef, .undef, .undef, .undef, .undef, .undef, .undef, .undef, .undef, .undef, .undef, .undef, .undef, .undef, .undef, .undef, .undef, .undef, .undef, .undef, .undef, .undef, .undef, .undef, .undef, .undef, .undef, .undef, .undef, .undef, .undef, .undef, .undef, .undef, .undef, .undef, .undef, .undef, .undef, .undef, .undef, .undef, .undef, .undef, .undef, .undef, .undef, .undef, .undef, .undef, .undef, .undef, .undef, .undef, .undef, .undef, .undef, .undef]))
 (K (.normal, [t0, .undef, t2, t3, .undef, .undef, .undef, .undef, .undef, .undef, .undef, .undef, .undef, .undef, .undef, .undef, .undef, .undef, .undef, .undef, t20, .undef, .undef, .undef, .undef, .undef, .undef, .undef, .undef, .undef, .undef, .undef, .undef, .undef, .undef, .undef, .undef, .undef, .undef, .undef, .undef, .undef, .undef, .undef, .undef, .undef, .undef, .undef, .undef, .undef, .undef, .undef, .undef, .undef, .undef, .undef, .undef, .undef, .undef, .undef, .undef])) := by kernel_rfl
@[simp] theorem lB12x1 (t0 t2 t3 t20 : PV) (K : RK) : denK T B12x1 [t0, .undef, t2, t3, .undef, .undef, .undef, .undef, .undef, .undef, .undef, .undef, .undef, .undef, .undef, .undef, .undef, .undef, .undef, .undef, t20, .undef, .undef, .undef, .undef, .undef, .undef, .undef, .undef, .undef, .undef, .undef, .undef, .undef, .undef, .undef, .undef, .undef, .undef, .undef, .undef, .undef, .undef, .undef, .undef, .undef, .undef, .undef, .undef, .undef, .undef, .undef, .undef, .undef, .undef, .undef, .undef, .undef, .undef, .undef, .undef] K =
  Option.bind (chk t0 fun a0 => Prim.run .mov [a0]) fun t34 =>
  Option.bind (chk t34 fun a0 => Option.bind (Ans T 48 [a0]) fun rs => retV 3 rs) fun t35 =>
  Option.bind (chk t35 fun a0 => Prim.run .mov [a0]) fun t33 =>
  Option.bind (chk t33 fun a0 => Prim.run (.ext 0) [a0]) fun t36 =>
  Option.bind (chk t33 fun a0 => Prim.run (.ext 1) [a0]) fun t37 =>
  Option.bind (chk t33 fun a0 => Prim.run (.ext 2) [a0]) fun t38 =>
  Option.bind (chk t36 fun a0 => Prim.run .mov [a0]) fun t10 =>
  Option.bind (chk t37 fun a0 => Prim.run .mov [a0]) fun t11 =>
  Option.bind (chk t38 fun a0 => Prim.run .mov [a0]) fun t12 =>
  Option.bind (chk t0 fun a0 => Prim.run .mov [a0]) fun t40 =>
  Option.bind (chk t40 fun a0 => Option.bind (Ans T 50 [a0]) fun rs => retV 3 rs) fun t41 =>
  Option.bind (chk t41 fun a0 => Prim.run .mov [a0]) fun t39 =>
  Option.bind (chk t39 fun a0 => Prim.run (.ext 0) [a0]) fun t42 =>
  Option.bind (chk t39 fun a0 => Prim.run (.ext 1) [a0]) fun t43 =>
  Option.bind (chk t39 fun a0 => Prim.run (.ext 2) [a0]) fun t44 =>
  Option.bind (chk t42 fun a0 => Prim.run .mov [a0]) fun t13 =>
  Option.bind (chk t43 fun a0 => Prim.run .mov [a0]) fun t14 =>
  Option.bind (chk t44 fun a0 => Prim.run .mov [a0]) fun t15 =>
  Option.bind (chk t10 fun a0 => Prim.run .mov [a0]) fun t45 =>
  Option.bind (chk t13 fun a0 => Prim.run .mov [a0]) fun t46 =>
  Option.bind (chk t45 fun a0 => chk t46 fun a1 => Prim.run (.bin .eql) [a0, a1]) fun t47 =>
  Option.bind (chk t47 fun a0 => Prim.run .mov [a0]) fun t48 =>
  Option.bind (grd t48 true (chk t11 fun a0 => Prim.run .mov [a0])) fun t49 =>
  Option.bind (grd t48 true (chk t14 fun a0 => Prim.run .mov [a0])) fun t50 =>
  Option.bind (grd t48 true (chk t49 fun a0 => chk t50 fun a1 => Prim.run (.bin .eql) [a0, a1])) fun t51 =>
  Option.bind (chk t48 fun a0 => isB a0 (chk t51 fun a1 => some a1) (some (.bool false))) fun t52 =>
  Option.bind (chk t52 fun a0 => Prim.run .mov [a0]) fun t53 =>
  Option.bind (grd t53 true (chk t12 fun a0 => Prim.run .mov [a0])) fun t54 =>
  Option.bind (grd t53 true (chk t15 fun a0 => Prim.run .mov [a0])) fun t55 =>
  Option.bind (grd t53 true (chk t54 fun a0 => chk t55 fun a1 => Prim.run (.bin .eql) [a0, a1])) fun t56 =>
  Option.bind (chk t53 fun a0 => isB a0 (chk t56 fun a1 => some a1) (some (.bool false))) fun t57 =>
  Option.bind (chk t57 fun a0 => Prim.run .mov [a0]) fun t58 =>
  Option.bind (grd t58 true (Option.bind (Ans T 44 []) fun rs => retV 1 rs)) fun t59 =>
  Option.bind (chk t58 fun a0 => isB a0 (chk t59 fun a1 => some a1) (some (.bool false))) fun t60 =>
  Option.bind (chk t60 fun a0 => Prim.run .mov [a0]) fun t8 =>
  K (.ret, [.undef, .undef, t2, t3, .undef, .undef, .undef, .undef, t8, .undef, .undef, .undef, .undef, .undef, .undef, .undef, .undef, .undef, .undef, .undef, t20, .undef, .undef, .undef, .undef, .undef, .undef, .undef, .undef, .undef, .undef, .undef, .undef, .undef, .undef, .undef, .undef, .undef, .undef, .undef, .undef, .undef, .undef, .undef, .undef, .undef, .undef, .undef, .undef, .undef, .undef, .undef, .undef, .undef, .undef, .undef, .undef, .undef, .undef, .undef, .undef]) := by kernel_rfl
theorem f12 (t0 t1 t2 t3 : PV) {rs : List PV} (h : (Option.bind (Prim.run .mov [(.bool false)]) fun t8 =>
  Option.bind (chk t0 fun a0 => Prim.run .mov [a0]) fun t16 =>
  Option.bind (chk t16 fun a0 => Prim.run .len [a0]) fun t17 =>
  Option.bind (chk t17 fun a0 => Prim.run (.bin .gtr) [a0, (.int .i64 300)]) fun t18 =>
  chk t18 fun c0 => isB c0
 (Option.bind (Option.bind (Ans T 44 []) fun rs => retV 1 rs) fun t19 =>
  Option.bind (chk t19 fun a0 => Prim.run .mov [a0]) fun t8 =>
  allDef [t8])
 (denK T A12x1 [t0, t1, t2, t3, .undef, .undef, .undef, .undef, .undef, .undef, .undef, .undef, .undef, .undef, .undef, .undef, .undef, .undef, t18, .undef, .undef, .undef, .undef, .undef, .undef, .undef, .undef, .undef, .undef, .undef, .undef, .undef, .undef, .undef, .undef, .undef, .undef, .undef, .undef, .undef, .undef, .undef, .undef, .undef, .undef, .undef, .undef, .undef, .undef, .undef, .undef, .undef, .undef, .undef, .undef, .undef, .undef, .undef, .undef, .undef, .undef] (seqK T B12x1 (endK [8])))) = some rs) : Ans T 12 [t0, t1, t2, t3] = some rs := call_of (T := T) c12 (Eq.trans (by kernel_rfl) h)
/-! vmfleet/vmfleetmake.Round -/
theorem f21 (t0 t1 : PV) {rs : List PV} (h : (Option.bind (Prim.run .mov [(.int .i64 0)]) fun t4 =>
  Option.bind (chk t0 fun a0 => Prim.run .mov [a0]) fun t6 =>
  Option.bind (chk t1 fun a0 => Prim.run .mov [a0]) fun t7 =>
  Option.bind (chk t6 fun a0 => chk t7 fun a1 => Prim.run (.bin .rem) [a0, a1]) fun t8 =>
  Option.bind (chk t8 fun a0 => Prim.run .mov [a0]) fun t5 =>
  Option.bind (chk t5 fun a0 => Prim.run .mov [a0]) fun t9 =>
  Option.bind (chk t9 fun a0 => Prim.run (.bin .lss) [a0, (.int .i64 0)]) fun t10 =>
  chk t10 fun c0 => isB c0
 (Option.bind (chk t5 fun a0 => Prim.run .mov [a0]) fun t11 =>
  Option.bind (chk t1 fun a0 => Prim.run .mov [a0]) fun t12 =>
  Option.bind (chk t11 fun a0 => chk t12 fun a1 => Prim.run (.bin .add) [a0, a1]) fun t13 =>
  Option.bind (chk t13 fun a0 => Prim.run .mov [a0]) fun t5 =>
  Option.bind (chk t5 fun a0 => Prim.run .mov [a0]) fun t14 =>
  Option.bind (chk t14 fun a0 => Prim.run .mov [a0]) fun t4 =>
  allDef [t4])
 (Option.bind (chk t5 fun a0 => Prim.run .mov [a0]) fun t14 =>
  Option.bind (chk t14 fun a0 => Prim.run .mov [a0]) fun t4 =>
  allDef [t4])) = some rs) : Ans T 21 [t0, t1] = some rs := call_of (T := T) c21 (Eq.trans (by kernel_rfl) h)
/-! vmfleet/vmfleetmake.Event -/
@[simp] theorem lA43x2 (t2 t3 t7 t8 : PV) (K : RK) : denK T A43x2 [.undef, .undef, t2, t3, .undef, .undef, .undef, t7, t8, .undef, .undef, .undef, .undef, .undef, .undef, .undef, .undef, .undef, .undef, .undef, .undef, .undef, .undef, .undef, .undef, .undef, .undef, .undef, .undef, .undef, .undef, .undef, .undef, .undef, .undef, .undef, .undef, .undef, .undef, .undef, .undef, .undef, .undef, .undef, .undef, .undef] K =
  Option.bind (chk t7 fun a0 => Prim.run (.bin .eql) [a0, (.int .i64 1)]) fun t12 =>
  Option.bind (chk t12 fun a0 => Prim.run .mov [a0]) fun t11 =>
  chk t11 fun c0 => isB c0
 (K (.normal, [.undef, .undef, t2, t3, .undef, .undef, .undef, t7, .undef, .undef, .undef, t11, .undef, .undef, .undef, .undef, .undef, .undef, .undef, .undef, .undef, .undef, .undef, .undef, .undef, .undef, .undef, .undef, .undef, .undef, .undef, .undef, .undef, .undef, .undef, .undef, .undef, .undef, .undef, .undef, .undef, .undef, .undef, .undef, .undef, .undef]))
 (Option.bind (chk t7 fun a0 => Prim.run (.bin .eql) [a0, (.int .i64 2)]) fun t13 =>
  Option.bind (chk t13 fun a0 => Prim.run .mov [a0]) fun t11 =>
  K (.normal, [.undef, .undef, t2, t3, .undef, .undef, .undef, t7, .undef, .undef, .undef, t11, .undef, .undef, .undef, .undef, .undef, .undef, .undef, .undef, .undef, .undef, .undef, .undef, .undef, .undef, .undef, .undef, .undef, .undef, .undef, .undef, .undef, .undef, .undef, .undef, .undef, .undef, .undef, .undef, .undef, .undef, .undef, .undef, .undef, .undef])) := by kernel_rfl
@[simp] theorem lB43x2 (t2 t3 t7 t11 : PV) (K : RK) : denK T B43x2 [.undef, .undef, t2, t3, .undef, .undef, .undef, t7, .undef, .undef, .undef, t11, .undef, .undef, .undef, .undef, .undef, .undef, .undef, .undef, .undef, .undef, .undef, .undef, .undef, .undef, .undef, .undef, .undef, .undef, .undef, .undef, .undef, .undef, .undef, .undef, .undef, .undef, .undef, .undef, .undef, .undef, .undef, .undef, .undef, .undef] K =
  chk t11 fun c0 => isB c0
 (Option.bind (chk t3 fun a0 => Prim.run .mov [a0]) fun t14 =>
  Option.bind (chk t14 fun a0 => Prim.run (.bin .shr) [a0, (.int .u64 8)]) fun t15 =>
  Option.bind (chk t15 fun a0 => Prim.run (.bin .and) [a0, (.int .i64 255)]) fun t16 =>
  Option.bind (chk t16 fun a0 => Prim.run (.toInt .u32) [a0]) fun t17 =>
  Option.bind (chk t17 fun a1 => Prim.run (.build [(.int .i64 0), (.int .u32 0), (.str [])] [0, 1]) [(.int .i64 3), a1]) fun t18 =>
  chk t18 fun a0 => chk t2 fun y0 => Option.bind (setP [] y0 a0) fun t2 =>
  K (.ret, [.undef, .undef, t2, .undef, .undef, .undef, .undef, .undef, .undef, .undef, .undef, .undef, .undef, .undef, .undef, .undef, .undef, .undef, .undef, .undef, .undef, .undef, .undef, .undef, .undef, .undef, .undef, .undef, .undef, .undef, .undef, .undef, .undef, .undef, .undef, .undef, .undef, .undef, .undef, .undef, .undef, .undef, .undef, .undef, .undef, .undef]))
 (Option.bind (chk t7 fun a0 => Prim.run (.bin .eql) [a0, (.int .i64 3)]) fun t20 =>
  Option.bind (chk t20 fun a0 => Prim.run .mov [a0]) fun t19 =>
  chk t19 fun c0 => isB c0
 (Option.bind (Prim.run (.build [(.int .i64 0), (.int .u32 0), (.str [])] [0, 1]) [(.int .i64 4), (.int .u32 1)]) fun t21 =>
  chk t21 fun a0 => chk t2 fun y0 => Option.bind (setP [] y0 a0) fun t2 =>
  K (.ret, [.undef, .undef, t2, .undef, .undef, .undef, .undef, .undef, .undef, .undef, .undef, .undef, .undef, .undef, .undef, .undef, .undef, .undef, .undef, .undef, .undef, .undef, .undef, .undef, .undef, .undef, .undef, .undef, .undef, .undef, .undef, .undef, .undef, .undef, .undef, .undef, .undef, .undef, .undef, .undef, .undef, .undef, .undef, .undef, .undef, .undef]))
 (Option.bind (chk t7 fun a0 => Prim.run (.bin .eql) [a0, (.int .i64 4)]) fun t23 =>
  Option.bind (chk t23 fun a0 => Prim.run .mov [a0]) fun t22 =>
  chk t22 fun c0 => isB c0
 (Option.bind (chk t3 fun a0 => Prim.run .mov [a0]) fun t24 =>
  Option.bind (chk t24 fun a0 => Option.bind (Ans T 69 [a0, (.int .i64 128)]) fun rs => retV 1 rs) fun t25 =>
  Option.bind (chk t25 fun a2 => Prim.run (.build [(.int .i64 0), (.int .u32 0), (.str [])] [0, 1, 2]) [(.int .i64 4), (.int .u32 1), a2]) fun t26 =>
  chk t26 fun a0 => chk t2 fun y0 => Option.bind (setP [] y0 a0) fun t2 =>
  K (.ret, [.undef, .undef, t2, .undef, .undef, .undef, .undef, .undef, .undef, .undef, .undef, .undef, .undef, .undef, .undef, .undef, .undef, .undef, .undef, .undef, .undef, .undef, .undef, .undef, .undef, .undef, .undef, .undef, .undef, .undef, .undef, .undef, .undef, .undef, .undef, .undef, .undef, .undef, .undef, .undef, .undef, .undef, .undef, .undef, .undef, .undef]))
 (Option.bind (chk t7 fun a0 => Prim.run (.bin .eql) [a0, (.int .i64 5)]) fun t28 =>
  Option.bind (chk t28 fun a0 => Prim.run .mov [a0]) fun t27 =>
  chk t27 fun c0 => isB c0
 (Option.bind (chk t3 fun a0 => Prim.run .mov [a0]) fun t29 =>
  Option.bind (chk t3 fun a0 => Prim.run .mov [a0]) fun t30 =>
  Option.bind (chk t30 fun a0 => Prim.run (.bin .shr) [a0, (.int .u64 8)]) fun t31 =>
  Option.bind (chk t31 fun a0 => Prim.run (.bin .rem) [a0, (.int .i64 40)]) fun t32 =>
  Option.bind (chk t32 fun a1 => Prim.run (.bin .add) [(.int .i64 1), a1]) fun t33 =>
  Option.bind (chk t29 fun a0 => chk t33 fun a1 => Option.bind (Ans T 69 [a0, a1]) fun rs => retV 1 rs) fun t34 =>
  Option.bind (chk t34 fun a1 => Prim.run (.build [(.int .i64 0), (.int .u32 0), (.str [])] [0, 2]) [(.int .i64 5), a1]) fun t35 =>
  chk t35 fun a0 => chk t2 fun y0 => Option.bind (setP [] y0 a0) fun t2 =>
  K (.ret, [.undef, .undef, t2, .undef, .undef, .undef, .undef, .undef, .undef, .undef, .undef, .undef, .undef, .undef, .undef, .undef, .undef, .undef, .undef, .undef, .undef, .undef, .undef, .undef, .undef, .undef, .undef, .undef, .undef, .undef, .undef, .undef, .undef, .undef, .undef, .undef, .undef, .undef, .undef, .undef, .undef, .undef, .undef, .undef, .undef, .undef]))
 (K (.normal, [.undef, .undef, t2, t3, .undef, .undef, .undef, .undef, .undef, .undef, .undef, .undef, .undef, .undef, .undef, .undef, .undef, .undef, .undef, .undef, .undef, .undef, .undef, .undef, .undef, .undef, .undef, t27, .undef, .undef, .undef, .undef, .undef, .undef, .undef, .undef, .undef, .undef, .undef, .undef, .undef, .undef, .undef, .undef, .undef, .undef]))))) := by kernel_rfl
@[simp] theorem lA43x1 (t2 t3 : PV) (K : RK) : denK T A43x1 [.undef, .undef, t2, t3, .undef, .undef, .undef, .undef, .undef, .undef, .undef, .undef, .undef, .undef, .undef, .undef, .undef, .undef, .undef, .undef, .undef, .undef, .undef, .undef, .undef, .undef, .undef, .undef, .undef, .undef, .undef, .undef, .undef, .undef, .undef, .undef, .undef, .undef, .undef, .undef, .undef, .undef, .undef, .undef, .undef, .undef] K =
  Option.bind (chk t3 fun a0 => Prim.run .mov [a0]) fun t6 =>
  Option.bind (chk t6 fun a0 => Prim.run (.bin .rem) [a0, (.int .i64 7)]) fun t7 =>
  Option.bind (chk t7 fun a0 => Prim.run (.bin .eql) [a0, (.int .i64 0)]) fun t9 =>
  Option.bind (chk t9 fun a0 => Prim.run .mov [a0]) fun t8 =>
  chk t8 fun c0 => isB c0
 (Option.bind (Prim.run (.build [(.int .i64 0), (.int .u32 0), (.str [])] [0]) [(.int .i64 2)]) fun t10 =>
  chk t10 fun a0 => chk t2 fun y0 => Option.bind (setP [] y0 a0) fun t2 =>
  K (.ret, [.undef, .undef, t2, .undef, .undef, .undef, .undef, .undef, .undef, .undef, .undef, .undef, .undef, .undef, .undef, .undef, .undef, .undef, .undef, .undef, .undef, .undef, .undef, .undef, .undef, .undef, .undef, .undef, .undef, .undef, .undef, .undef, .undef, .undef, .undef, .undef, .undef, .undef, .undef, .undef, .undef, .undef, .undef, .undef, .undef, .undef]))
 (denK T A43x2 [.undef, .undef, t2, t3, .undef, .undef, .undef, t7, t8, .undef, .undef, .undef, .undef, .undef, .undef, .undef, .undef, .undef, .undef, .undef, .undef, .undef, .undef, .undef, .undef, .undef, .undef, .undef, .undef, .undef, .undef, .undef, .undef, .undef, .undef, .undef, .undef, .undef, .undef, .undef, .undef, .undef, .undef, .undef, .undef, .undef] (seqK T B43x2 (blockK 0 K))) := by kernel_rfl
@[simp] theorem lB43x1 (t2 t3 t27 : PV) (K : RK) : denK T B43x1 [.undef, .undef, t2, t3, .undef, .undef, .undef, .undef, .undef, .undef, .undef, .undef, .undef, .undef, .undef, .undef, .undef, .undef, .undef, .undef, .undef, .undef, .undef, .undef, .undef, .undef, .undef, t27, .undef, .undef, .undef, .undef, .undef, .undef, .undef, .undef, .undef, .undef, .undef, .undef, .undef, .undef, .undef, .undef, .undef, .undef] K =
  Option.bind (chk t3 fun a0 => Prim.run .mov [a0]) fun t36 =>
  Option.bind (chk t36 fun a0 => Prim.run (.bin .shr) [a0, (.int .u64 8)]) fun t37 =>
  Option.bind (chk t37 fun a0 => Prim.run (.bin .rem) [a0, (.int .i64 4)]) fun t38 =>
  Option.bind (chk t38 fun a0 => Prim.run (.bin .eql) [a0, (.int .i64 0)]) fun t39 =>
  chk t39 fun c0 => isB c0
 (Option.bind (Prim.run (.build [(.int .i64 0), (.int .u32 0), (.str [])] [0]) [(.int .i64 4)]) fun t40 =>
  chk t40 fun a0 => chk t2 fun y0 => Option.bind (setP [] y0 a0) fun t2 =>
  K (.ret, [.undef, .undef, t2, .undef, .undef, .undef, .undef, .undef, .undef, .undef, .undef, .undef, .undef, .undef, .undef, .undef, .undef, .undef, .undef, .undef, .undef, .undef, .undef, .undef, .undef, .undef, .undef, .undef, .undef, .undef, .undef, .undef, .undef, .undef, .undef, .undef, .undef, .undef, .undef, .undef, .undef, .undef, .undef, .undef, .undef, .undef]))
 (Option.bind (chk t3 fun a0 => Prim.run .mov [a0]) fun t41 =>
  Option.bind (chk t41 fun a0 => Prim.run (.bin .shr) [a0, (.int .u64 8)]) fun t42 =>
  Option.bind (chk t42 fun a0 => Prim.run (.bin .rem) [a0, (.int .i64 3)]) fun t43 =>
  Option.bind (chk t43 fun a0 => Prim.run (.toInt .u32) [a0]) fun t44 =>
  Option.bind (chk t44 fun a1 => Prim.run (.build [(.int .i64 0), (.int .u32 0), (.str [])] [0, 1]) [(.int .i64 6), a1]) fun t45 =>
  chk t45 fun a0 => chk t2 fun y0 => Option.bind (setP [] y0 a0) fun t2 =>
  K (.ret, [.undef, .undef, t2, .undef, .undef, .undef, .undef, .undef, .undef, .undef, .undef, .undef, .undef, .undef, .undef, .undef, .undef, .undef, .undef, .undef, .undef, .undef, .undef, .undef, .undef, .undef, .undef, .undef, .undef, .undef, .undef, .undef, .undef, .undef, .undef, .undef, .undef, .undef, .undef, .undef, .undef, .undef, .undef, .undef, .undef, .undef])) := by kernel_rfl
theorem f43 (t0 : PV) {rs : List PV} (h : (Option.bind (Prim.run .mov [(.agg [(.int .i64 0), (.int .u32 0), (.str [])])]) fun t2 =>
  Option.bind (chk t0 fun a0 => Prim.run .mov [a0]) fun t4 =>
  Option.bind (chk t4 fun a0 => Option.bind (Ans T 68 [a0, (.int .i64 2)]) fun rs => retV 1 rs) fun t5 =>
  Option.bind (chk t5 fun a0 => Prim.run .mov [a0]) fun t3 =>
  denK T A43x1 [.undef, .undef, t2, t3, .undef, .undef, .undef, .undef, .undef, .undef, .undef, .undef, .undef, .undef, .undef, .undef, .undef, .undef, .undef, .undef, .undef, .undef, .undef, .undef, .undef, .undef, .undef, .undef, .undef, .undef, .undef, .undef, .undef, .undef, .undef, .undef, .undef, .undef, .undef, .undef, .undef, .undef, .undef, .undef, .undef, .undef] (seqK T B43x1 (endK [2]))) = some rs) : Ans T 43 [t0] = some rs := call_of (T := T) c43 (Eq.trans (by kernel_rfl) h)
/-! vmfleet/vmfleetlaw19.awake -/
theorem f44 {rs : List PV} (h : (Option.bind (Prim.run .mov [(.bool false)]) fun t0 =>
  Option.bind (Prim.run (.build [(.int .i64 0), (.int .u32 0), (.str [])] [0]) [(.int .i64 2)]) fun t7 =>
  Option.bind (chk t7 fun a1 => Prim.run (.build [(.int .u64 0), (.agg [(.int .i64 0), (.int .u32 0), (.str [])])] [0, 1]) [(.int .u64 7), a1]) fun t8 =>
  Option.bind (chk t8 fun a0 => Prim.run (.buildSl (.agg [(.int .u64 0), (.agg [(.int .i64 0), (.int .u32 0), (.str [])])]) 1 [0]) [a0]) fun t9 =>
  Option.bind (chk t9 fun a0 => Option.bind (Ans T 70 [a0, (.int .u64 5)]) fun rs => retV 2 rs) fun t10 =>
  Option.bind (chk t10 fun a0 => Prim.run .mov [a0]) fun t6 =>
  Option.bind (chk t6 fun a0 => Prim.run (.ext 0) [a0]) fun t11 =>
  Option.bind (chk t6 fun a0 => Prim.run (.ext 1) [a0]) fun t12 =>
  Option.bind (chk t11 fun a0 => Prim.run .mov [a0]) fun t1 =>
  Option.bind (chk t12 fun a0 => Prim.run .mov [a0]) fun t2 =>
  Option.bind (Option.bind (Ans T 47 [(.int .u64 300), (.str [97, 98])]) fun rs => retV 1 rs) fun t14 =>
  Option.bind (chk t14 fun a0 => Option.bind (Ans T 48 [a0]) fun rs => retV 3 rs) fun t15 =>
  Option.bind (chk t15 fun a0 => Prim.run .mov [a0]) fun t13 =>
  Option.bind (chk t13 fun a0 => Prim.run (.ext 0) [a0]) fun t16 =>
  Option.bind (chk t13 fun a0 => Prim.run (.ext 1) [a0]) fun t17 =>
  Option.bind (chk t13 fun a0 => Prim.run (.ext 2) [a0]) fun t18 =>
  Option.bind (chk t16 fun a0 => Prim.run .mov [a0]) fun t3 =>
  Option.bind (chk t17 fun a0 => Prim.run .mov [a0]) fun t4 =>
  Option.bind (chk t18 fun a0 => Prim.run .mov [a0]) fun t5 =>
  Option.bind (chk t2 fun a0 => Prim.run .mov [a0]) fun t19 =>
  Option.bind (chk t19 fun a0 => Prim.run (.bin .eql) [a0, (.int .i64 0)]) fun t20 =>
  Option.bind (chk t20 fun a0 => Prim.run .mov [a0]) fun t21 =>
  Option.bind (grd t21 true (chk t1 fun a0 => Prim.run .mov [a0])) fun t22 =>
  Option.bind (grd t21 true (chk t22 fun a0 => Prim.run (.bin .eql) [a0, (.str [1, 2, 2])])) fun t23 =>
  Option.bind (chk t21 fun a0 => isB a0 (chk t23 fun a1 => some a1) (some (.bool false))) fun t24 =>
  Option.bind (chk t24 fun a0 => Prim.run .mov [a0]) fun t25 =>
  Option.bind (grd t25 true (chk t5 fun a0 => Prim.run .mov [a0])) fun t26 =>
  Option.bind (grd t25 true (chk t26 fun a0 => Prim.run (.bin .eql) [a0, (.int .i64 0)])) fun t27 =>
  Option.bind (chk t25 fun a0 => isB a0 (chk t27 fun a1 => some a1) (some (.bool false))) fun t28 =>
  Option.bind (chk t28 fun a0 => Prim.run .mov [a0]) fun t29 =>
  Option.bind (grd t29 true (chk t3 fun a0 => Prim.run .mov [a0])) fun t30 =>
  Option.bind (grd t29 true (chk t30 fun a0 => Prim.run (.bin .eql) [a0, (.int .u64 300)])) fun t31 =>
  Option.bind (chk t29 fun a0 => isB a0 (chk t31 fun a1 => some a1) (some (.bool false))) fun t32 =>
  Option.bind (chk t32 fun a0 => Prim.run .mov [a0]) fun t33 =>
  Option.bind (grd t33 true (chk t4 fun a0 => Prim.run .mov [a0])) fun t34 =>
  Option.bind (grd t33 true (chk t34 fun a0 => Prim.run (.bin .eql) [a0, (.str [97, 98])])) fun t35 =>
  Option.bind (chk t33 fun a0 => isB a0 (chk t35 fun a1 => some a1) (some (.bool false))) fun t36 =>
  Option.bind (chk t36 fun a0 => Prim.run .mov [a0]) fun t37 =>
  Option.bind (grd t37 true (Prim.run (.build [(.int .i64 0), (.int .u32 0), (.str [])] [0]) [(.int .i64 2)])) fun t38 =>
  Option.bind (grd t37 true (chk t38 fun a0 => Option.bind (Ans T 45 [a0]) fun rs => retV 1 rs)) fun t39 =>
  Option.bind (chk t37 fun a0 => isB a0 (chk t39 fun a1 => some a1) (some (.bool false))) fun t40 =>
  Option.bind (chk t40 fun a0 => Prim.run .mov [a0]) fun t0 =>
  allDef [t0]) = some rs) : Ans T 44 [] = some rs := call_of (T := T) c44 (Eq.trans (by kernel_rfl) h)
/-! vmfleet/eventlog.Valid -/
@[simp] theorem lA45x2 (t1 t3 t8 : PV) (K : RK) : denK T A45x2 [.undef, t1, .undef, t3, .undef, .undef, .undef, .undef, t8, .undef, .undef, .undef, .undef, .undef, .undef, .undef, .undef, .undef, .undef, .undef, .undef, .undef, .undef, .undef, .undef, .undef, .undef, .undef, .undef, .undef, .undef, .undef, .undef, .undef, .undef, .undef, .undef, .undef, .undef, .undef, .undef, .undef, .undef, .undef, .undef, .undef, .undef, .undef, .undef, .undef, .undef, .undef, .undef, .undef, .undef, .undef, .undef, .undef, .undef, .undef, .undef, .undef, .undef] K =
  Option.bind (chk t8 fun a0 => Prim.run (.bin .eql) [a0, (.int .i64 1)]) fun t10 =>
  Option.bind (chk t10 fun a0 => Prim.run .mov [a0]) fun t9 =>
  chk t9 fun c0 => isB c0
 (K (.normal, [.undef, t1, .undef, t3, .undef, .undef, .undef, .undef, t8, t9, .undef, .undef, .undef, .undef, .undef, .undef, .undef, .undef, .undef, .undef, .undef, .undef, .undef, .undef, .undef, .undef, .undef, .undef, .undef, .undef, .undef, .undef, .undef, .undef, .undef, .undef, .undef, .undef, .undef, .undef, .undef, .undef, .undef, .undef, .undef, .undef, .undef, .undef, .undef, .undef, .undef, .undef, .undef, .undef, .undef, .undef, .undef, .undef, .undef, .undef, .undef, .undef, .undef]))
 (Option.bind (chk t8 fun a0 => Prim.run (.bin .eql) [a0, (.int .i64 6)]) fun t11 =>
  Option.bind (chk t11 fun a0 => Prim.run .mov [a0]) fun t9 =>
  K (.normal, [.undef, t1, .undef, t3, .undef, .undef, .undef, .undef, t8, t9, .undef, .undef, .undef, .undef, .undef, .undef, .undef, .undef, .undef, .undef, .undef, .undef, .undef, .undef, .undef, .undef, .undef, .undef, .undef, .undef, .undef, .undef, .undef, .undef, .undef, .undef, .undef, .undef, .undef, .undef, .undef, .undef, .undef, .undef, .undef, .undef, .undef, .undef, .undef, .undef, .undef, .undef, .undef, .undef, .undef, .undef, .undef, .undef, .undef, .undef, .undef, .undef, .undef])) := by kernel_rfl
@[simp] theorem lB45x2 (t1 t3 t8 t9 : PV) (K : RK) : denK T B45x2 [.undef, t1, .undef, t3, .undef, .undef, .undef, .undef, t8, t9, .undef, .undef, .undef, .undef, .undef, .undef, .undef, .undef, .undef, .undef, .undef, .undef, .undef, .undef, .undef, .undef, .undef, .undef, .undef, .undef, .undef, .undef, .undef, .undef, .undef, .undef, .undef, .undef, .undef, .undef, .undef, .undef, .undef, .undef, .undef, .undef, .undef, .undef, .undef, .undef, .undef, .undef, .undef, .undef, .undef, .undef, .undef, .undef, .undef, .undef, .undef, .undef, .undef] K =
  chk t9 fun c0 => isB c0
 (Option.bind (chk t3 fun a0 => Prim.run .mov [a0]) fun t12 =>
  Option.bind (chk t12 fun a0 => Prim.run (.bin .eql) [a0, (.int .i64 0)]) fun t13 =>
  Option.bind (chk t13 fun a0 => Prim.run .mov [a0]) fun t2 =>
  K (.ret, [.undef, .undef, t2, .undef, .undef, .undef, .undef, .undef, .undef, .undef, .undef, .undef, .undef, .undef, .undef, .undef, .undef, .undef, .undef, .undef, .undef, .undef, .undef, .undef, .undef, .undef, .undef, .undef, .undef, .undef, .undef, .undef, .undef, .undef, .undef, .undef, .undef, .undef, .undef, .undef, .undef, .undef, .undef, .undef, .undef, .undef, .undef, .undef, .undef, .undef, .undef, .undef, .undef, .undef, .undef, .undef, .undef, .undef, .undef, .undef, .undef, .undef, .undef]))
 (Option.bind (chk t8 fun a0 => Prim.run (.bin .eql) [a0, (.int .i64 2)]) fun t15 =>
  Option.bind (chk t15 fun a0 => Prim.run .mov [a0]) fun t14 =>
  chk t14 fun c0 => isB c0
 (Option.bind (Prim.run (.fptr 1) [(.ptr [])]) fun t16 =>
  Option.bind (chk t1 fun a0 => chk t16 fun a1 => Prim.run .load [a0, a1]) fun t17 =>
  Option.bind (chk t17 fun a0 => Prim.run (.bin .eql) [a0, (.int .u32 0)]) fun t18 =>
  Option.bind (chk t18 fun a0 => Prim.run .mov [a0]) fun t19 =>
  Option.bind (grd t19 true (chk t3 fun a0 => Prim.run .mov [a0])) fun t20 =>
  Option.bind (grd t19 true (chk t20 fun a0 => Prim.run (.bin .eql) [a0, (.int .i64 0)])) fun t21 =>
  Option.bind (chk t19 fun a0 => isB a0 (chk t21 fun a1 => some a1) (some (.bool false))) fun t22 =>
  Option.bind (chk t22 fun a0 => Prim.run .mov [a0]) fun t2 =>
  K (.ret, [.undef, .undef, t2, .undef, .undef, .undef, .undef, .undef, .undef, .undef, .undef, .undef, .undef, .undef, .undef, .undef, .undef, .undef, .undef, .undef, .undef, .undef, .undef, .undef, .undef, .undef, .undef, .undef, .undef, .undef, .undef, .undef, .undef, .undef, .undef, .undef, .undef, .undef, .undef, .undef, .undef, .undef, .undef, .undef, .undef, .undef, .undef, .undef, .undef, .undef, .undef, .undef, .undef, .undef, .undef, .undef, .undef, .undef, .undef, .undef, .undef, .undef, .undef]))
 (Option.bind (chk t8 fun a0 => Prim.run (.bin .eql) [a0, (.int .i64 3)]) fun t24 =>
  Option.bind (chk t24 fun a0 => Prim.run .mov [a0]) fun t23 =>
  chk t23 fun c0 => isB c0
 (Option.bind (Prim.run (.fptr 1) [(.ptr [])]) fun t25 =>
  Option.bind (chk t1 fun a0 => chk t25 fun a1 => Prim.run .load [a0, a1]) fun t26 =>
  Option.bind (chk t26 fun a0 => Prim.run (.bin .leq) [a0, (.int .u32 255)]) fun t27 =>
  Option.bind (chk t27 fun a0 => Prim.run .mov [a0]) fun t28 =>
  Option.bind (grd t28 true (chk t3 fun a0 => Prim.run .mov [a0])) fun t29 =>
  Option.bind (grd t28 true (chk t29 fun a0 => Prim.run (.bin .eql) [a0, (.int .i64 0)])) fun t30 =>
  Option.bind (chk t28 fun a0 => isB a0 (chk t30 fun a1 => some a1) (some (.bool false))) fun t31 =>
  Option.bind (chk t31 fun a0 => Prim.run .mov [a0]) fun t2 =>
  K (.ret, [.undef, .undef, t2, .undef, .undef, .undef, .undef, .undef, .undef, .undef, .undef, .undef, .undef, .undef, .undef, .undef, .undef, .undef, .undef, .undef, .undef, .undef, .undef, .undef, .undef, .undef, .undef, .undef, .undef, .undef, .undef, .undef, .undef, .undef, .undef, .undef, .undef, .undef, .undef, .undef, .undef, .undef, .undef, .undef, .undef, .undef, .undef, .undef, .undef, .undef, .undef, .undef, .undef, .undef, .undef, .undef, .undef, .undef, .undef, .undef, .undef, .undef, .undef]))
 (Option.bind (chk t8 fun a0 => Prim.run (.bin .eql) [a0, (.int .i64 4)]) fun t33 =>
  Option.bind (chk t33 fun a0 => Prim.run .mov [a0]) fun t32 =>
  chk t32 fun c0 => isB c0
 (Option.bind (Prim.run (.fptr 1) [(.ptr [])]) fun t34 =>
  Option.bind (chk t1 fun a0 => chk t34 fun a1 => Prim.run .load [a0, a1]) fun t35 =>
  Option.bind (chk t35 fun a0 => Prim.run (.bin .leq) [a0, (.int .u32 1)]) fun t36 =>
  Option.bind (chk t36 fun a0 => Prim.run .mov [a0]) fun t37 =>
  Option.bind (grd t37 true (chk t3 fun a0 => Prim.run .mov [a0])) fun t38 =>
  Option.bind (grd t37 true (chk t38 fun a0 => Prim.run (.bin .eql) [a0, (.int .i64 0)])) fun t39 =>
  Option.bind (chk t37 fun a0 => isB a0 (chk t39 fun a1 => some a1) (some (.bool false))) fun t40 =>
  Option.bind (chk t40 fun a0 => Prim.run .mov [a0]) fun t41 =>
  Option.bind (grd t41 false (Prim.run (.fptr 1) [(.ptr [])])) fun t42 =>
  Option.bind (grd t41 false (chk t1 fun a0 => chk t42 fun a1 => Prim.run .load [a0, a1])) fun t43 =>
  Option.bind (grd t41 false (chk t43 fun a0 => Prim.run (.bin .eql) [a0, (.int .u32 1)])) fun t44 =>
  Option.bind (grd t41 false (chk t44 fun a0 => Prim.run .mov [a0])) fun t45 =>
  Option.bind (grd t45 true (chk t3 fun a0 => Prim.run .mov [a0])) fun t46 =>
  Option.bind (grd t45 true (chk t46 fun a0 => Prim.run (.bin .eql) [a0, (.int .i64 128)])) fun t47 =>
  Option.bind (grd t41 false (chk t45 fun a0 => isB a0 (chk t47 fun a1 => some a1) (some (.bool false)))) fun t48 =>
  Option.bind (chk t41 fun a0 => isB a0 (some (.bool true)) (chk t48 fun a1 => some a1)) fun t49 =>
  Option.bind (chk t49 fun a0 => Prim.run .mov [a0]) fun t2 =>
  K (.ret, [.undef, .undef, t2, .undef, .undef, .undef, .undef, .undef, .undef, .undef, .undef, .undef, .undef, .undef, .undef, .undef, .undef, .undef, .undef, .undef, .undef, .undef, .undef, .undef, .undef, .undef, .undef, .undef, .undef, .undef, .undef, .undef, .undef, .undef, .undef, .undef, .undef, .undef, .undef, .undef, .undef, .undef, .undef, .undef, .undef, .undef, .undef, .undef, .undef, .undef, .undef, .undef, .undef, .undef, .undef, .undef, .undef, .undef, .undef, .undef, .undef, .undef, .undef]))
 (Option.bind (chk t8 fun a0 => Prim.run (.bin .eql) [a0, (.int .i64 5)]) fun t51 =>
  Option.bind (chk t51 fun a0 => Prim.run .mov [a0]) fun t50 =>
  chk t50 fun c0 => isB c0
 (Option.bind (Prim.run (.fptr 1) [(.ptr [])]) fun t52 =>
  Option.bind (chk t1 fun a0 => chk t52 fun a1 => Prim.run .load [a0, a1]) fun t53 =>
  Option.bind (chk t53 fun a0 => Prim.run (.bin .eql) [a0, (.int .u32 0)]) fun t54 =>
  Option.bind (chk t54 fun a0 => Prim.run .mov [a0]) fun t55 =>
  Option.bind (grd t55 true (chk t3 fun a0 => Prim.run .mov [a0])) fun t56 =>
  Option.bind (grd t55 true (chk t56 fun a0 => Prim.run (.bin .geq) [a0, (.int .i64 1)])) fun t57 =>
  Option.bind (chk t55 fun a0 => isB a0 (chk t57 fun a1 => some a1) (some (.bool false))) fun t58 =>
  Option.bind (chk t58 fun a0 => Prim.run .mov [a0]) fun t59 =>
  Option.bind (grd t59 true (chk t3 fun a0 => Prim.run .mov [a0])) fun t60 =>
  Option.bind (grd t59 true (chk t60 fun a0 => Prim.run (.bin .leq) [a0, (.int .i64 128)])) fun t61 =>
  Option.bind (chk t59 fun a0 => isB a0 (chk t61 fun a1 => some a1) (some (.bool false))) fun t62 =>
  Option.bind (chk t62 fun a0 => Prim.run .mov [a0]) fun t2 =>
  K (.ret, [.undef, .undef, t2, .undef, .undef, .undef, .undef, .undef, .undef, .undef, .undef, .undef, .undef, .undef, .undef, .undef, .undef, .undef, .undef, .undef, .undef, .undef, .undef, .undef, .undef, .undef, .undef, .undef, .undef, .undef, .undef, .undef, .undef, .undef, .undef, .undef, .undef, .undef, .undef, .undef, .undef, .undef, .undef, .undef, .undef, .undef, .undef, .undef, .undef, .undef, .undef, .undef, .undef, .undef, .undef, .undef, .undef, .undef, .undef, .undef, .undef, .undef, .undef]))
 (K (.normal, [.undef, t1, .undef, t3, .undef, .undef, .undef, .undef, .undef, .undef, .undef, .undef, .undef, .undef, .undef, .undef, .undef, .undef, .undef, .undef, .undef, .undef, .undef, .undef, .undef, .undef, .undef, .undef, .undef, .undef, .undef, .undef, .undef, .undef, .undef, .undef, .undef, .undef, .undef, .undef, .undef, .undef, .undef, .undef, .undef, .undef, .undef, .undef, .undef, .undef, t50, .undef, .undef, .undef, .undef, .undef, .undef, .undef, .undef, .undef, .undef, .undef, .undef])))))) := by kernel_rfl
@[simp] theorem lA45x1 (t1 t3 : PV) (K : RK) : denK T A45x1 [.undef, t1, .undef, t3, .undef, .undef, .undef, .undef, .undef, .undef, .undef, .undef, .undef, .undef, .undef, .undef, .undef, .undef, .undef, .undef, .undef, .undef, .undef, .undef, .undef, .undef, .undef, .undef, .undef, .undef, .undef, .undef, .undef, .undef, .undef, .undef, .undef, .undef, .undef, .undef, .undef, .undef, .undef, .undef, .undef, .undef, .undef, .undef, .undef, .undef, .undef, .undef, .undef, .undef, .undef, .undef, .undef, .undef, .undef, .undef, .undef, .undef, .undef] K =
  Option.bind (Prim.run (.fptr 0) [(.ptr [])]) fun t7 =>
  Option.bind (chk t1 fun a0 => chk t7 fun a1 => Prim.run .load [a0, a1]) fun t8 =>
  denK T A45x2 [.undef, t1, .undef, t3, .undef, .undef, .undef, .undef, t8, .undef, .undef, .undef, .undef, .undef, .undef, .undef, .undef, .undef, .undef, .undef, .undef, .undef, .undef, .undef, .undef, .undef, .undef, .undef, .undef, .undef, .undef, .undef, .undef, .undef, .undef, .undef, .undef, .undef, .undef, .undef, .undef, .undef, .undef, .undef, .undef, .undef, .undef, .undef, .undef, .undef, .undef, .undef, .undef, .undef, .undef, .undef, .undef, .undef, .undef, .undef, .undef, .undef, .undef] (seqK T B45x2 (blockK 0 K)) := by kernel_rfl
@[simp] theorem lB45x1 (t1 t3 t50 : PV) (K : RK) : denK T B45x1 [.undef, t1, .undef, t3, .undef, .undef, .undef, .undef, .undef, .undef, .undef, .undef, .undef, .undef, .undef, .undef, .undef, .undef, .undef, .undef, .undef, .undef, .undef, .undef, .undef, .undef, .undef, .undef, .undef, .undef, .undef, .undef, .undef, .undef, .undef, .undef, .undef, .undef, .undef, .undef, .undef, .undef, .undef, .undef, .undef, .undef, .undef, .undef, .undef, .undef, t50, .undef, .undef, .undef, .undef, .undef, .undef, .undef, .undef, .undef, .undef, .undef, .undef] K =
  Option.bind (Prim.run .mov [(.bool false)]) fun t2 =>
  K (.ret, [.undef, .undef, t2, .undef, .undef, .undef, .undef, .undef, .undef, .undef, .undef, .undef, .undef, .undef, .undef, .undef, .undef, .undef, .undef, .undef, .undef, .undef, .undef, .undef, .undef, .undef, .undef, .undef, .undef, .undef, .undef, .undef, .undef, .undef, .undef, .undef, .undef, .undef, .undef, .undef, .undef, .undef, .undef, .undef, .undef, .undef, .undef, .undef, .undef, .undef, .undef, .undef, .undef, .undef, .undef, .undef, .undef, .undef, .undef, .undef, .undef, .undef, .undef]) := by kernel_rfl
theorem f45 (t0 : PV) {rs : List PV} (h : (Option.bind (chk t0 fun a0 => Prim.run .mov [a0]) fun t1 =>
  Option.bind (Prim.run .mov [(.bool false)]) fun t2 =>
  Option.bind (Prim.run (.fptr 2) [(.ptr [])]) fun t4 =>
  Option.bind (chk t1 fun a0 => chk t4 fun a1 => Prim.run .load [a0, a1]) fun t5 =>
  Option.bind (chk t5 fun a0 => Prim.run .len [a0]) fun t6 =>
  Option.bind (chk t6 fun a0 => Prim.run .mov [a0]) fun t3 =>
  denK T A45x1 [.undef, t1, .undef, t3, .undef, .undef, .undef, .undef, .undef, .undef, .undef, .undef, .undef, .undef, .undef, .undef, .undef, .undef, .undef, .undef, .undef, .undef, .undef, .undef, .undef, .undef, .undef, .undef, .undef, .undef, .undef, .undef, .undef, .undef, .undef, .undef, .undef, .undef, .undef, .undef, .undef, .undef, .undef, .undef, .undef, .undef, .undef, .undef, .undef, .undef, .undef, .undef, .undef, .undef, .undef, .undef, .undef, .undef, .undef, .undef, .undef, .undef, .undef] (seqK T B45x1 (endK [2]))) = some rs) : Ans T 45 [t0] = some rs := call_of (T := T) c45 (Eq.trans (by kernel_rfl) h)
/-! vmfleet/vmfleetref19.Valid -/
@[simp] theorem lA46x2 (t1 t4 : PV) (K : RK) : denK T A46x2 [.undef, t1, .undef, .undef, t4, .undef, .undef, .undef, .undef, .undef, .undef, .undef, .undef, .undef, .undef, .undef, .undef, .undef, .undef, .undef, .undef, .undef, .undef, .undef, .undef, .undef, .undef, .undef, .undef, .undef, .undef, .undef, .undef, .undef, .undef, .undef, .undef, .undef, .undef, .undef, .undef, .undef, .undef, .undef, .undef, .undef, .undef, .undef, .undef, .undef, .undef, .undef, .undef, .undef, .undef, .undef, .undef, .undef, .undef, .undef, .undef, .undef, .undef, .undef, .undef, .undef, .undef, .undef, .undef] K =
  Option.bind (chk t4 fun a0 => Prim.run (.bin .eql) [a0, (.int .i64 1)]) fun t6 =>
  Option.bind (chk t6 fun a0 => Prim.run .mov [a0]) fun t5 =>
  chk t5 fun c0 => isB c0
 (K (.normal, [.undef, t1, .undef, .undef, t4, t5, .undef, .undef, .undef, .undef, .undef, .undef, .undef, .undef, .undef, .undef, .undef, .undef, .undef, .undef, .undef, .undef, .undef, .undef, .undef, .undef, .undef, .undef, .undef, .undef, .undef, .undef, .undef, .undef, .undef, .undef, .undef, .undef, .undef, .undef, .undef, .undef, .undef, .undef, .undef, .undef, .undef, .undef, .undef, .undef, .undef, .undef, .undef, .undef, .undef, .undef, .undef, .undef, .undef, .undef, .undef, .undef, .undef, .undef, .undef, .undef, .undef, .undef, .undef]))
 (Option.bind (chk t4 fun a0 => Prim.run (.bin .eql) [a0, (.int .i64 6)]) fun t7 =>
  Option.bind (chk t7 fun a0 => Prim.run .mov [a0]) fun t5 =>
  K (.normal, [.undef, t1, .undef, .undef, t4, t5, .undef, .undef, .undef, .undef, .undef, .undef, .undef, .undef, .undef, .undef, .undef, .undef, .undef, .undef, .undef, .undef, .undef, .undef, .undef, .undef, .undef, .undef, .undef, .undef, .undef, .undef, .undef, .undef, .undef, .undef, .undef, .undef, .undef, .undef, .undef, .undef, .undef, .undef, .undef, .undef, .undef, .undef, .undef, .undef, .undef, .undef, .undef, .undef, .undef, .undef, .undef, .undef, .undef, .undef, .undef, .undef, .undef, .undef, .undef, .undef, .undef, .undef, .undef])) := by kernel_rfl
@[simp] theorem lB46x2 (t1 t4 t5 : PV) (K : RK) : denK T B46x2 [.undef, t1, .undef, .undef, t4, t5, .undef, .undef, .undef, .undef, .undef, .undef, .undef, .undef, .undef, .undef, .undef, .undef, .undef, .undef, .undef, .undef, .undef, .undef, .undef, .undef, .undef, .undef, .undef, .undef, .undef, .undef, .undef, .undef, .undef, .undef, .undef, .undef, .undef, .undef, .undef, .undef, .undef, .undef, .undef, .undef, .undef, .undef, .undef, .undef, .undef, .undef, .undef, .undef, .undef, .undef, .undef, .undef, .undef, .undef, .undef, .undef, .undef, .undef, .undef, .undef, .undef, .undef, .undef] K =
  chk t5 fun c0 => isB c0
 (Option.bind (Prim.run (.fptr 2) [(.ptr [])]) fun t8 =>
  Option.bind (chk t1 fun a0 => chk t8 fun a1 => Prim.run .load [a0, a1]) fun t9 =>
  Option.bind (chk t9 fun a0 => Prim.run (.bin .eql) [a0, (.str [])]) fun t10 =>
  Option.bind (chk t10 fun a0 => Prim.run .mov [a0]) fun t2 =>
  K (.ret, [.undef, .undef, t2, .undef, .undef, .undef, .undef, .undef, .undef, .undef, .undef, .undef, .undef, .undef, .undef, .undef, .undef, .undef, .undef, .undef, .undef, .undef, .undef, .undef, .undef, .undef, .undef, .undef, .undef, .undef, .undef, .undef, .undef, .undef, .undef, .undef, .undef, .undef, .undef, .undef, .undef, .undef, .undef, .undef, .undef, .undef, .undef, .undef, .undef, .undef, .undef, .undef, .undef, .undef, .undef, .undef, .undef, .undef, .undef, .undef, .undef, .undef, .undef, .undef, .undef, .undef, .undef, .undef, .undef]))
 (Option.bind (chk t4 fun a0 => Prim.run (.bin .eql) [a0, (.int .i64 2)]) fun t12 =>
  Option.bind (chk t12 fun a0 => Prim.run .mov [a0]) fun t11 =>
  chk t11 fun c0 => isB c0
 (Option.bind (Prim.run (.fptr 1) [(.ptr [])]) fun t13 =>
  Option.bind (chk t1 fun a0 => chk t13 fun a1 => Prim.run .load [a0, a1]) fun t14 =>
  Option.bind (chk t14 fun a0 => Prim.run (.bin .eql) [a0, (.int .u32 0)]) fun t15 =>
  Option.bind (chk t15 fun a0 => Prim.run .mov [a0]) fun t16 =>
  Option.bind (grd t16 true (Prim.run (.fptr 2) [(.ptr [])])) fun t17 =>
  Option.bind (grd t16 true (chk t1 fun a0 => chk t17 fun a1 => Prim.run .load [a0, a1])) fun t18 =>
  Option.bind (grd t16 true (chk t18 fun a0 => Prim.run (.bin .eql) [a0, (.str [])])) fun t19 =>
  Option.bind (chk t16 fun a0 => isB a0 (chk t19 fun a1 => some a1) (some (.bool false))) fun t20 =>
  Option.bind (chk t20 fun a0 => Prim.run .mov [a0]) fun t2 =>
  K (.ret, [.undef, .undef, t2, .undef, .undef, .undef, .undef, .undef, .undef, .undef, .undef, .undef, .undef, .undef, .undef, .undef, .undef, .undef, .undef, .undef, .undef, .undef, .undef, .undef, .undef, .undef, .undef, .undef, .undef, .undef, .undef, .undef, .undef, .undef, .undef, .undef, .undef, .undef, .undef, .undef, .undef, .undef, .undef, .undef, .undef, .undef, .undef, .undef, .undef, .undef, .undef, .undef, .undef, .undef, .undef, .undef, .undef, .undef, .undef, .undef, .undef, .undef, .undef, .undef, .undef, .undef, .undef, .undef, .undef]))
 (Option.bind (chk t4 fun a0 => Prim.run (.bin .eql) [a0, (.int .i64 3)]) fun t22 =>
  Option.bind (chk t22 fun a0 => Prim.run .mov [a0]) fun t21 =>
  chk t21 fun c0 => isB c0
 (Option.bind (Prim.run (.fptr 1) [(.ptr [])]) fun t23 =>
  Option.bind (chk t1 fun a0 => chk t23 fun a1 => Prim.run .load [a0, a1]) fun t24 =>
  Option.bind (chk t24 fun a0 => Prim.run (.bin .leq) [a0, (.int .u32 255)]) fun t25 =>
  Option.bind (chk t25 fun a0 => Prim.run .mov [a0]) fun t26 =>
  Option.bind (grd t26 true (Prim.run (.fptr 2) [(.ptr [])])) fun t27 =>
  Option.bind (grd t26 true (chk t1 fun a0 => chk t27 fun a1 => Prim.run .load [a0, a1])) fun t28 =>
  Option.bind (grd t26 true (chk t28 fun a0 => Prim.run (.bin .eql) [a0, (.str [])])) fun t29 =>
  Option.bind (chk t26 fun a0 => isB a0 (chk t29 fun a1 => some a1) (some (.bool false))) fun t30 =>
  Option.bind (chk t30 fun a0 => Prim.run .mov [a0]) fun t2 =>
  K (.ret, [.undef, .undef, t2, .undef, .undef, .undef, .undef, .undef, .undef, .undef, .undef, .undef, .undef, .undef, .undef, .undef, .undef, .undef, .undef, .undef, .undef, .undef, .undef, .undef, .undef, .undef, .undef, .undef, .undef, .undef, .undef, .undef, .undef, .undef, .undef, .undef, .undef, .undef, .undef, .undef, .undef, .undef, .undef, .undef, .undef, .undef, .undef, .undef, .undef, .undef, .undef, .undef, .undef, .undef, .undef, .undef, .undef, .undef, .undef, .undef, .undef, .undef, .undef, .undef, .undef, .undef, .undef, .undef, .undef]))
 (Option.bind (chk t4 fun a0 => Prim.run (.bin .eql) [a0, (.int .i64 4)]) fun t32 =>
  Option.bind (chk t32 fun a0 => Prim.run .mov [a0]) fun t31 =>
  chk t31 fun c0 => isB c0
 (Option.bind (Prim.run (.fptr 1) [(.ptr [])]) fun t33 =>
  Option.bind (chk t1 fun a0 => chk t33 fun a1 => Prim.run .load [a0, a1]) fun t34 =>
  Option.bind (chk t34 fun a0 => Prim.run (.bin .leq) [a0, (.int .u32 1)]) fun t35 =>
  Option.bind (chk t35 fun a0 => Prim.run .mov [a0]) fun t36 =>
  Option.bind (grd t36 true (Prim.run (.fptr 2) [(.ptr [])])) fun t37 =>
  Option.bind (grd t36 true (chk t1 fun a0 => chk t37 fun a1 => Prim.run .load [a0, a1])) fun t38 =>
  Option.bind (grd t36 true (chk t38 fun a0 => Prim.run (.bin .eql) [a0, (.str [])])) fun t39 =>
  Option.bind (grd t36 true (chk t39 fun a0 => Prim.run .mov [a0])) fun t40 =>
  Option.bind (grd t40 false (Prim.run (.fptr 1) [(.ptr [])])) fun t41 =>
  Option.bind (grd t40 false (chk t1 fun a0 => chk t41 fun a1 => Prim.run .load [a0, a1])) fun t42 =>
  Option.bind (grd t40 false (chk t42 fun a0 => Prim.run (.bin .eql) [a0, (.int .u32 1)])) fun t43 =>
  Option.bind (grd t40 false (chk t43 fun a0 => Prim.run .mov [a0])) fun t44 =>
  Option.bind (grd t44 true (Prim.run (.fptr 2) [(.ptr [])])) fun t45 =>
  Option.bind (grd t44 true (chk t1 fun a0 => chk t45 fun a1 => Prim.run .load [a0, a1])) fun t46 =>
  Option.bind (grd t44 true (chk t46 fun a0 => Prim.run .len [a0])) fun t47 =>
  Option.bind (grd t44 true (chk t47 fun a0 => Prim.run (.bin .eql) [a0, (.int .i64 128)])) fun t48 =>
  Option.bind (grd t40 false (chk t44 fun a0 => isB a0 (chk t48 fun a1 => some a1) (some (.bool false)))) fun t49 =>
  Option.bind (grd t36 true (chk t40 fun a0 => isB a0 (some (.bool true)) (chk t49 fun a1 => some a1))) fun t50 =>
  Option.bind (chk t36 fun a0 => isB a0 (chk t50 fun a1 => some a1) (some (.bool false))) fun t51 =>
  Option.bind (chk t51 fun a0 => Prim.run .mov [a0]) fun t2 =>
  K (.ret, [.undef, .undef, t2, .undef, .undef, .undef, .undef, .undef, .undef, .undef, .undef, .undef, .undef, .undef, .undef, .undef, .undef, .undef, .undef, .undef, .undef, .undef, .undef, .undef, .undef, .undef, .undef, .undef, .undef, .undef, .undef, .undef, .undef, .undef, .undef, .undef, .undef, .undef, .undef, .undef, .undef, .undef, .undef, .undef, .undef, .undef, .undef, .undef, .undef, .undef, .undef, .undef, .undef, .undef, .undef, .undef, .undef, .undef, .undef, .undef, .undef, .undef, .undef, .undef, .undef, .undef, .undef, .undef, .undef]))
 (Option.bind (chk t4 fun a0 => Prim.run (.bin .eql) [a0, (.int .i64 5)]) fun t53 =>
  Option.bind (chk t53 fun a0 => Prim.run .mov [a0]) fun t52 =>
  chk t52 fun c0 => isB c0
 (Option.bind (Prim.run (.fptr 1) [(.ptr [])]) fun t54 =>
  Option.bind (chk t1 fun a0 => chk t54 fun a1 => Prim.run .load [a0, a1]) fun t55 =>
  Option.bind (chk t55 fun a0 => Prim.run (.bin .eql) [a0, (.int .u32 0)]) fun t56 =>
  Option.bind (chk t56 fun a0 => Prim.run .mov [a0]) fun t57 =>
  Option.bind (grd t57 true (Prim.run (.fptr 2) [(.ptr [])])) fun t58 =>
  Option.bind (grd t57 true (chk t1 fun a0 => chk t58 fun a1 => Prim.run .load [a0, a1])) fun t59 =>
  Option.bind (grd t57 true (chk t59 fun a0 => Prim.run .len [a0])) fun t60 =>
  Option.bind (grd t57 true (chk t60 fun a0 => Prim.run (.bin .geq) [a0, (.int .i64 1)])) fun t61 =>
  Option.bind (chk t57 fun a0 => isB a0 (chk t61 fun a1 => some a1) (some (.bool false))) fun t62 =>
  Option.bind (chk t62 fun a0 => Prim.run .mov [a0]) fun t63 =>
  Option.bind (grd t63 true (Prim.run (.fptr 2) [(.ptr [])])) fun t64 =>
  Option.bind (grd t63 true (chk t1 fun a0 => chk t64 fun a1 => Prim.run .load [a0, a1])) fun t65 =>
  Option.bind (grd t63 true (chk t65 fun a0 => Prim.run .len [a0])) fun t66 =>
  Option.bind (grd t63 true (chk t66 fun a0 => Prim.run (.bin .leq) [a0, (.int .i64 128)])) fun t67 =>
  Option.bind (chk t63 fun a0 => isB a0 (chk t67 fun a1 => some a1) (some (.bool false))) fun t68 =>
  Option.bind (chk t68 fun a0 => Prim.run .mov [a0]) fun t2 =>
  K (.ret, [.undef, .undef, t2, .undef, .undef, .undef, .undef, .undef, .undef, .undef, .undef, .undef, .undef, .undef, .undef, .undef, .undef, .undef, .undef, .undef, .undef, .undef, .undef, .undef, .undef, .undef, .undef, .undef, .undef, .undef, .undef, .undef, .undef, .undef, .undef, .undef, .undef, .undef, .undef, .undef, .undef, .undef, .undef, .undef, .undef, .undef, .undef, .undef, .undef, .undef, .undef, .undef, .undef, .undef, .undef, .undef, .undef, .undef, .undef, .undef, .undef, .undef, .undef, .undef, .undef, .undef, .undef, .undef, .undef]))
 (K (.normal, [.undef, t1, .undef, .undef, .undef, .undef, .undef, .undef, .undef, .undef, .undef, .undef, .undef, .undef, .undef, .undef, .undef, .undef, .undef, .undef, .undef, .undef, .undef, .undef, .undef, .undef, .undef, .undef, .undef, .undef, .undef, .undef, .undef, .undef, .undef, .undef, .undef, .undef, .undef, .undef, .undef, .undef, .undef, .undef, .undef, .undef, .undef, .undef, .undef, .undef, .undef, .undef, t52, .undef, .undef, .undef, .undef, .undef, .undef, .undef, .undef, .undef, .undef, .undef, .undef, .undef, .undef, .undef, .undef])))))) := by kernel_rfl
@[simp] theorem lA46x1 (t1 : PV) (K : RK) : denK T A46x1 [.undef, t1, .undef, .undef, .undef, .undef, .undef, .undef, .undef, .undef, .undef, .undef, .undef, .undef, .undef, .undef, .undef, .undef, .undef, .undef, .undef, .undef, .undef, .undef, .undef, .undef, .undef, .undef, .undef, .undef, .undef, .undef, .undef, .undef, .undef, .undef, .undef, .undef, .undef, .undef, .undef, .undef, .undef, .undef, .undef, .undef, .undef, .undef, .undef, .undef, .undef, .undef, .undef, .undef, .undef, .undef, .undef, .undef, .undef, .undef, .undef, .undef, .undef, .undef, .undef, .undef, .undef, .undef, .undef] K =
  Option.bind (Prim.run (.fptr 0) [(.ptr [])]) fun t3 =>
  Option.bind (chk t1 fun a0 => chk t3 fun a1 => Prim.run .load [a0, a1]) fun t4 =>
  denK T A46x2 [.undef, t1, .undef, .undef, t4, .undef, .undef, .undef, .undef, .undef, .undef, .undef, .undef, .undef, .undef, .undef, .undef, .undef, .undef, .undef, .undef, .undef, .undef, .undef, .undef, .undef, .undef, .undef, .undef, .undef, .undef, .undef, .undef, .undef, .undef, .undef, .undef, .undef, .undef, .undef, .undef, .undef, .undef, .undef, .undef, .undef, .undef, .undef, .undef, .undef, .undef, .undef, .undef, .undef, .undef, .undef, .undef, .undef, .undef, .undef, .undef, .undef, .undef, .undef, .undef, .undef, .undef, .undef, .undef] (seqK T B46x2 (blockK 0 K)) := by kernel_rfl
@[simp] theorem lB46x1 (t1 t52 : PV) (K : RK) : denK T B46x1 [.undef, t1, .undef, .undef, .undef, .undef, .undef, .undef, .undef, .undef, .undef, .undef, .undef, .undef, .undef, .undef, .undef, .undef, .undef, .undef, .undef, .undef, .undef, .undef, .undef, .undef, .undef, .undef, .undef, .undef, .undef, .undef, .undef, .undef, .undef, .undef, .undef, .undef, .undef, .undef, .undef, .undef, .undef, .undef, .undef, .undef, .undef, .undef, .undef, .undef, .undef, .undef, t52, .undef, .undef, .undef, .undef, .undef, .undef, .undef, .undef, .undef, .undef, .undef, .undef, .undef, .undef, .undef, .undef] K =
  Option.bind (Prim.run .mov [(.bool false)]) fun t2 =>
  K (.ret, [.undef, .undef, t2, .undef, .undef, .undef, .undef, .undef, .undef, .undef, .undef, .undef, .undef, .undef, .undef, .undef, .undef, .undef, .undef, .undef, .undef, .undef, .undef, .undef, .undef, .undef, .undef, .undef, .undef, .undef, .undef, .undef, .undef, .undef, .undef, .undef, .undef, .undef, .undef, .undef, .undef, .undef, .undef, .undef, .undef, .undef, .undef, .undef, .undef, .undef, .undef, .undef, .undef, .undef, .undef, .undef, .undef, .undef, .undef, .undef, .undef, .undef, .undef, .undef, .undef, .undef, .undef, .undef, .undef]) := by kernel_rfl
theorem f46 (t0 : PV) {rs : List PV} (h : (Option.bind (chk t0 fun a0 => Prim.run .mov [a0]) fun t1 =>
  Option.bind (Prim.run .mov [(.bool false)]) fun t2 =>
  denK T A46x1 [.undef, t1, .undef, .undef, .undef, .undef, .undef, .undef, .undef, .undef, .undef, .undef, .undef, .undef, .undef, .undef, .undef, .undef, .undef, .undef, .undef, .undef, .undef, .undef, .undef, .undef, .undef, .undef, .undef, .undef, .undef, .undef, .undef, .undef, .undef, .undef, .undef, .undef, .undef, .undef, .undef, .undef, .undef, .undef, .undef, .undef, .undef, .undef, .undef, .undef, .undef, .undef, .undef, .undef, .undef, .undef, .undef, .undef, .undef, .undef, .undef, .undef, .undef, .undef, .undef, .undef, .undef, .undef, .undef] (seqK T B46x1 (endK [2]))) = some rs) : Ans T 46 [t0] = some rs := call_of (T := T) c46 (Eq.trans (by kernel_rfl) h)
/-! vmfleet/eventlog.Seal -/
theorem f47 (t0 t1 : PV) {rs : List PV} (h : (Option.bind (Prim.run .mov [(.str [])]) fun t4 =>
  Option.bind (chk t0 fun a0 => Prim.run .mov [a0]) fun t6 =>
  Option.bind (chk t6 fun a0 => Option.bind (Ans T 66 [a0]) fun rs => retV 1 rs) fun t7 =>
  Option.bind (chk t1 fun a0 => Prim.run .mov [a0]) fun t8 =>
  Option.bind (chk t8 fun a0 => Option.bind (Ans T 71 [a0]) fun rs => retV 1 rs) fun t9 =>
  Option.bind (chk t7 fun a0 => chk t9 fun a1 => Prim.run (.bin .add) [a0, a1]) fun t10 =>
  Option.bind (chk t10 fun a0 => Prim.run .mov [a0]) fun t5 =>
  Option.bind (chk t5 fun a0 => Prim.run .mov [a0]) fun t11 =>
  Option.bind (chk t5 fun a0 => Prim.run .mov [a0]) fun t12 =>
  Option.bind (chk t12 fun a0 => Option.bind (Ans T 72 [a0]) fun rs => retV 1 rs) fun t13 =>
  Option.bind (chk t11 fun a0 => chk t13 fun a1 => Prim.run (.bin .add) [a0, a1]) fun t14 =>
  Option.bind (chk t14 fun a0 => Prim.run .mov [a0]) fun t4 =>
  allDef [t4]) = some rs) : Ans T 47 [t0, t1] = some rs := call_of (T := T) c47 (Eq.trans (by kernel_rfl) h)
/-! vmfleet/eventlog.Open -/
theorem f48 (t0 : PV) {rs : List PV} (h : (Option.bind (Prim.run .mov [(.int .u64 0)]) fun t2 =>
  Option.bind (Prim.run .mov [(.str [])]) fun t3 =>
  Option.bind (Prim.run .mov [(.int .i64 0)]) fun t4 =>
  Option.bind (chk t0 fun a0 => Prim.run .mov [a0]) fun t8 =>
  Option.bind (chk t8 fun a0 => Prim.run (.build [(.str []), (.bool false)] [0, 1]) [a0, (.bool true)]) fun t9 =>
  Option.bind (chk t9 fun a0 => Prim.run .mov [a0]) fun t10 =>
  Option.bind (Prim.run .mov [(.ptr [])]) fun t5 =>
  Option.bind (chk t5 fun a0 => Prim.run .mov [a0]) fun t11 =>
  asPath t11 fun a0q => chk t10 fun a0r => Option.bind (getP a0q a0r) fun a0 => Option.bind (Ans T 73 [a0]) fun rs1 => consK (rs1.drop 1) fun y0 ys0 => asPath t11 fun q0 => chk t10 fun x0 => Option.bind (setP q0 x0 y0) fun t10 => nilK ys0 (Option.bind (chk t5 fun a0 => Prim.run .mov [a0]) fun t13 =>
  asPath t13 fun a0q => chk t10 fun a0r => Option.bind (getP a0q a0r) fun a0 => Option.bind (Ans T 74 [a0]) fun rs2 => consK (rs2.drop 1) fun y0 ys0 => asPath t13 fun q0 => chk t10 fun x0 => Option.bind (setP q0 x0 y0) fun t10 => nilK ys0 (Option.bind (chk (resultOf 1 rs1) fun a0 => Prim.run .mov [a0]) fun t6 =>
  Option.bind (chk (resultOf 1 rs2) fun a0 => Prim.run .mov [a0]) fun t7 =>
  Option.bind (chk t5 fun a0 => Prim.run .mov [a0]) fun t15 =>
  Option.bind (chk t15 fun a0 => Prim.run .mov [a0]) fun t16 =>
  Option.bind (chk t16 fun a0 => Prim.run (.fptr 1) [a0]) fun t17 =>
  Option.bind (chk t10 fun a0 => chk t17 fun a1 => Prim.run .load [a0, a1]) fun t18 =>
  Option.bind (chk t18 fun a0 => Prim.run (.un .not) [a0]) fun t19 =>
  Option.bind (chk t19 fun a0 => Prim.run .mov [a0]) fun t20 =>
  Option.bind (grd t20 false (chk t5 fun a0 => Prim.run .mov [a0])) fun t21 =>
  Option.bind (grd t20 false (chk t21 fun a0 => Prim.run .mov [a0])) fun t22 =>
  Option.bind (grd t20 false (chk t22 fun a0 => Prim.run (.fptr 0) [a0])) fun t23 =>
  Option.bind (grd t20 false (chk t10 fun a0 => chk t23 fun a1 => Prim.run .load [a0, a1])) fun t24 =>
  Option.bind (grd t20 false (chk t24 fun a0 => Prim.run .len [a0])) fun t25 =>
  Option.bind (grd t20 false (chk t25 fun a0 => Prim.run (.bin .neq) [a0, (.int .i64 8)])) fun t26 =>
  Option.bind (chk t20 fun a0 => isB a0 (some (.bool true)) (chk t26 fun a1 => some a1)) fun t27 =>
  chk t27 fun c0 => isB c0
 (Option.bind (Prim.run .mov [(.int .u64 0)]) fun t2 =>
  Option.bind (Prim.run .mov [(.str [])]) fun t3 =>
  Option.bind (Prim.run .mov [(.int .i64 1900)]) fun t4 =>
  allDef [t2, t3, t4])
 (Option.bind (chk t5 fun a0 => Prim.run .mov [a0]) fun t28 =>
  Option.bind (chk t28 fun a0 => Prim.run .mov [a0]) fun t29 =>
  Option.bind (chk t29 fun a0 => Prim.run (.fptr 0) [a0]) fun t30 =>
  Option.bind (chk t10 fun a0 => chk t30 fun a1 => Prim.run .load [a0, a1]) fun t31 =>
  Option.bind (chk t0 fun a0 => Prim.run .mov [a0]) fun t32 =>
  Option.bind (chk t0 fun a0 => Prim.run .mov [a0]) fun t33 =>
  Option.bind (chk t33 fun a0 => Prim.run .len [a0]) fun t34 =>
  Option.bind (chk t34 fun a0 => Prim.run (.bin .sub) [a0, (.int .i64 8)]) fun t35 =>
  Option.bind (chk t32 fun a0 => chk t35 fun a1 => Prim.run (.sl false true) [a0, a1]) fun t36 =>
  Option.bind (chk t36 fun a0 => Option.bind (Ans T 72 [a0]) fun rs => retV 1 rs) fun t37 =>
  Option.bind (chk t31 fun a0 => chk t37 fun a1 => Prim.run (.bin .neq) [a0, a1]) fun t38 =>
  chk t38 fun c0 => isB c0
 (Option.bind (Prim.run .mov [(.int .u64 0)]) fun t2 =>
  Option.bind (Prim.run .mov [(.str [])]) fun t3 =>
  Option.bind (Prim.run .mov [(.int .i64 1903)]) fun t4 =>
  allDef [t2, t3, t4])
 (Option.bind (chk t6 fun a0 => Prim.run .mov [a0]) fun t39 =>
  Option.bind (chk t7 fun a0 => Prim.run .mov [a0]) fun t40 =>
  Option.bind (chk t39 fun a0 => Prim.run .mov [a0]) fun t2 =>
  Option.bind (chk t40 fun a0 => Prim.run .mov [a0]) fun t3 =>
  Option.bind (Prim.run .mov [(.int .i64 0)]) fun t4 =>
  allDef [t2, t3, t4]))))) = some rs) : Ans T 48 [t0] = some rs := call_of (T := T) c48 (Eq.trans (by kernel_rfl) h)
/-! vmfleet/vmfleetref19.Seal -/
theorem f49 (t0 t1 : PV) {rs : List PV} (h : (Option.bind (Prim.run .mov [(.str [])]) fun t4 =>
  Option.bind (chk t0 fun a0 => Prim.run .mov [a0]) fun t6 =>
  Option.bind (chk t6 fun a0 => Option.bind (Ans T 67 [a0]) fun rs => retV 1 rs) fun t7 =>
  Option.bind (chk t1 fun a0 => Prim.run .mov [a0]) fun t8 =>
  Option.bind (chk t8 fun a0 => Prim.run .len [a0]) fun t9 =>
  Option.bind (chk t9 fun a0 => Prim.run (.toInt .u64) [a0]) fun t10 =>
  Option.bind (chk t10 fun a0 => Option.bind (Ans T 67 [a0]) fun rs => retV 1 rs) fun t11 =>
  Option.bind (chk t7 fun a0 => chk t11 fun a1 => Prim.run (.bin .add) [a0, a1]) fun t12 =>
  Option.bind (chk t1 fun a0 => Prim.run .mov [a0]) fun t13 =>
  Option.bind (chk t12 fun a0 => chk t13 fun a1 => Prim.run (.bin .add) [a0, a1]) fun t14 =>
  Option.bind (chk t14 fun a0 => Prim.run .mov [a0]) fun t5 =>
  Option.bind (chk t5 fun a0 => Prim.run .mov [a0]) fun t15 =>
  Option.bind (chk t5 fun a0 => Prim.run .mov [a0]) fun t16 =>
  Option.bind (chk t16 fun a1 => Option.bind (Ans T 76 [(.int .u64 14695981039346656037), a1]) fun rs => retV 1 rs) fun t17 =>
  Option.bind (chk t17 fun a0 => Option.bind (Ans T 75 [a0]) fun rs => retV 1 rs) fun t18 =>
  Option.bind (chk t15 fun a0 => chk t18 fun a1 => Prim.run (.bin .add) [a0, a1]) fun t19 =>
  Option.bind (chk t19 fun a0 => Prim.run .mov [a0]) fun t4 =>
  allDef [t4]) = some rs) : Ans T 49 [t0, t1] = some rs := call_of (T := T) c49 (Eq.trans (by kernel_rfl) h)
/-! vmfleet/vmfleetref19.Open -/
theorem f50 (t0 : PV) {rs : List PV} (h : (Option.bind (Prim.run .mov [(.int .u64 0)]) fun t2 =>
  Option.bind (Prim.run .mov [(.str [])]) fun t3 =>
  Option.bind (Prim.run .mov [(.int .i64 0)]) fun t4 =>
  Option.bind (chk t0 fun a0 => Prim.run .mov [a0]) fun t8 =>
  Option.bind (chk t8 fun a0 => Prim.run (.build [(.str []), (.bool false)] [0]) [a0]) fun t9 =>
  Option.bind (chk t9 fun a0 => Prim.run .mov [a0]) fun t10 =>
  Option.bind (Prim.run .mov [(.ptr [])]) fun t5 =>
  Option.bind (chk t5 fun a0 => Prim.run .mov [a0]) fun t11 =>
  asPath t11 fun a0q => chk t10 fun a0r => Option.bind (getP a0q a0r) fun a0 => Option.bind (Ans T 77 [a0]) fun rs1 => consK (rs1.drop 1) fun y0 ys0 => asPath t11 fun q0 => chk t10 fun x0 => Option.bind (setP q0 x0 y0) fun t10 => nilK ys0 (Option.bind (chk (resultOf 1 rs1) fun a0 => Prim.run .mov [a0]) fun t6 =>
  Option.bind (chk t5 fun a0 => Prim.run .mov [a0]) fun t13 =>
  Option.bind (chk t5 fun a0 => Prim.run .mov [a0]) fun t14 =>
  asPath t14 fun a0q => chk t10 fun a0r => Option.bind (getP a0q a0r) fun a0 => Option.bind (Ans T 77 [a0]) fun rs2 => consK (rs2.drop 1) fun y0 ys0 => asPath t14 fun q0 => chk t10 fun x0 => Option.bind (setP q0 x0 y0) fun t10 => nilK ys0 (asPath t13 fun a0q => chk t10 fun a0r => Option.bind (getP a0q a0r) fun a0 => chk (resultOf 1 rs2) fun a1 => Option.bind (Ans T 78 [a0, a1]) fun rs3 => consK (rs3.drop 1) fun y0 ys0 => asPath t13 fun q0 => chk t10 fun x0 => Option.bind (setP q0 x0 y0) fun t10 => nilK ys0 (Option.bind (chk (resultOf 1 rs3) fun a0 => Prim.run .mov [a0]) fun t7 =>
  Option.bind (chk t5 fun a0 => Prim.run .mov [a0]) fun t17 =>
  Option.bind (chk t17 fun a0 => Prim.run .mov [a0]) fun t18 =>
  Option.bind (chk t18 fun a0 => Prim.run (.fptr 1) [a0]) fun t19 =>
  Option.bind (chk t10 fun a0 => chk t19 fun a1 => Prim.run .load [a0, a1]) fun t20 =>
  Option.bind (chk t20 fun a0 => Prim.run .mov [a0]) fun t21 =>
  Option.bind (grd t21 false (chk t5 fun a0 => Prim.run .mov [a0])) fun t22 =>
  Option.bind (grd t21 false (chk t22 fun a0 => Prim.run .mov [a0])) fun t23 =>
  Option.bind (grd t21 false (chk t23 fun a0 => Prim.run (.fptr 0) [a0])) fun t24 =>
  Option.bind (grd t21 false (chk t10 fun a0 => chk t24 fun a1 => Prim.run .load [a0, a1])) fun t25 =>
  Option.bind (grd t21 false (chk t25 fun a0 => Prim.run .len [a0])) fun t26 =>
  Option.bind (grd t21 false (chk t26 fun a0 => Prim.run (.bin .neq) [a0, (.int .i64 8)])) fun t27 =>
  Option.bind (chk t21 fun a0 => isB a0 (some (.bool true)) (chk t27 fun a1 => some a1)) fun t28 =>
  chk t28 fun c0 => isB c0
 (Option.bind (Prim.run .mov [(.int .u64 0)]) fun t2 =>
  Option.bind (Prim.run .mov [(.str [])]) fun t3 =>
  Option.bind (Prim.run .mov [(.int .i64 1900)]) fun t4 =>
  allDef [t2, t3, t4])
 (Option.bind (chk t0 fun a0 => Prim.run .mov [a0]) fun t29 =>
  Option.bind (chk t0 fun a0 => Prim.run .mov [a0]) fun t30 =>
  Option.bind (chk t30 fun a0 => Prim.run .len [a0]) fun t31 =>
  Option.bind (chk t31 fun a0 => Prim.run (.bin .sub) [a0, (.int .i64 8)]) fun t32 =>
  Option.bind (chk t29 fun a0 => chk t32 fun a1 => Prim.run (.sl false true) [a0, a1]) fun t33 =>
  Option.bind (chk t33 fun a1 => Option.bind (Ans T 76 [(.int .u64 14695981039346656037), a1]) fun rs => retV 1 rs) fun t34 =>
  Option.bind (chk t34 fun a0 => Option.bind (Ans T 75 [a0]) fun rs => retV 1 rs) fun t35 =>
  Option.bind (chk t5 fun a0 => Prim.run .mov [a0]) fun t36 =>
  Option.bind (chk t36 fun a0 => Prim.run .mov [a0]) fun t37 =>
  Option.bind (chk t37 fun a0 => Prim.run (.fptr 0) [a0]) fun t38 =>
  Option.bind (chk t10 fun a0 => chk t38 fun a1 => Prim.run .load [a0, a1]) fun t39 =>
  Option.bind (chk t35 fun a0 => chk t39 fun a1 => Prim.run (.bin .neq) [a0, a1]) fun t40 =>
  chk t40 fun c0 => isB c0
 (Option.bind (Prim.run .mov [(.int .u64 0)]) fun t2 =>
  Option.bind (Prim.run .mov [(.str [])]) fun t3 =>
  Option.bind (Prim.run .mov [(.int .i64 1903)]) fun t4 =>
  allDef [t2, t3, t4])
 (Option.bind (chk t6 fun a0 => Prim.run .mov [a0]) fun t41 =>
  Option.bind (chk t7 fun a0 => Prim.run .mov [a0]) fun t42 =>
  Option.bind (chk t41 fun a0 => Prim.run .mov [a0]) fun t2 =>
  Option.bind (chk t42 fun a0 => Prim.run .mov [a0]) fun t3 =>
  Option.bind (Prim.run .mov [(.int .i64 0)]) fun t4 =>
  allDef [t2, t3, t4])))))) = some rs) : Ans T 50 [t0] = some rs := call_of (T := T) c50 (Eq.trans (by kernel_rfl) h)
/-! vmfleet/bits.Uvarint -/
noncomputable def WL63x2 (t0 t5 t10 t11 : PV) (K : RK) : Option (List PV) := loopK T kL63x2 L63x2 [t0, .undef, .undef, .undef, .undef, t5, .undef, .undef, .undef, .undef, t10, t11, .undef, .undef, .undef, .undef, .undef, .undef, .undef, .undef, .undef, .undef, .undef, .undef, .undef, .undef, .undef, .undef, .undef, .undef, .undef, .undef, .undef, .undef, .undef, .undef, .undef, .undef, .undef, .undef, .undef, .undef, .undef] K
theorem oL63x2 (t0 t5 t10 t11 : PV) (K : RK) {a : List PV} (h : (Option.bind (chk t11 fun a0 => chk t10 fun a1 => Prim.run (.bin .lss) [a0, a1]) fun t12 =>
  chk t12 fun c0 => isB c0
 (Option.bind (chk t11 fun a0 => Prim.run .mov [a0]) fun t13 =>
  Option.bind (chk t13 fun a0 => Prim.run .mov [a0]) fun t6 =>
  Option.bind (chk t0 fun a0 => Prim.run .mov [a0]) fun t14 =>
  Option.bind (chk t6 fun a0 => Prim.run .mov [a0]) fun t15 =>
  Option.bind (chk t14 fun a0 => chk t15 fun a1 => Prim.run .index [a0, a1]) fun t16 =>
  Option.bind (chk t16 fun a0 => Prim.run .mov [a0]) fun t7 =>
  Option.bind (chk t6 fun a0 => Prim.run .mov [a0]) fun t17 =>
  Option.bind (chk t17 fun a0 => Prim.run (.bin .eql) [a0, (.int .i64 9)]) fun t18 =>
  Option.bind (chk t18 fun a0 => Prim.run .mov [a0]) fun t19 =>
  Option.bind (grd t19 true (chk t7 fun a0 => Prim.run .mov [a0])) fun t20 =>
  Option.bind (grd t19 true (chk t20 fun a0 => Prim.run (.bin .gtr) [a0, (.int .u8 1)])) fun t21 =>
  Option.bind (chk t19 fun a0 => isB a0 (chk t21 fun a1 => some a1) (some (.bool false))) fun t22 =>
  chk t22 fun c0 => isB c0
 (Option.bind (Prim.run .mov [(.int .u64 0)]) fun t2 =>
  Option.bind (Prim.run .mov [(.int .i64 0)]) fun t3 =>
  Option.bind (Prim.run .mov [(.bool false)]) fun t4 =>
  K (.ret, [.undef, .undef, t2, t3, t4, .undef, .undef, .undef, .undef, .undef, .undef, .undef, .undef, .undef, .undef, .undef, .undef, .undef, .undef, .undef, .undef, .undef, .undef, .undef, .undef, .undef, .undef, .undef, .undef, .undef, .undef, .undef, .undef, .undef, .undef, .undef, .undef, .undef, .undef, .undef, .undef, .undef, .undef]))
 (Option.bind (chk t5 fun a0 => Prim.run .mov [a0]) fun t23 =>
  Option.bind (chk t7 fun a0 => Prim.run .mov [a0]) fun t24 =>
  Option.bind (chk t24 fun a0 => Prim.run (.bin .and) [a0, (.int .u8 127)]) fun t25 =>
  Option.bind (chk t25 fun a0 => Prim.run (.toInt .u64) [a0]) fun t26 =>
  Option.bind (chk t6 fun a0 => Prim.run .mov [a0]) fun t27 =>
  Option.bind (chk t27 fun a1 => Prim.run (.bin .mul) [(.int .i64 7), a1]) fun t28 =>
  Option.bind (chk t26 fun a0 => chk t28 fun a1 => Prim.run (.bin .shl) [a0, a1]) fun t29 =>
  Option.bind (chk t23 fun a0 => chk t29 fun a1 => Prim.run (.bin .or) [a0, a1]) fun t30 =>
  Option.bind (chk t30 fun a0 => Prim.run .mov [a0]) fun t5 =>
  Option.bind (chk t7 fun a0 => Prim.run .mov [a0]) fun t31 =>
  Option.bind (chk t31 fun a0 => Prim.run (.bin .lss) [a0, (.int .u8 128)]) fun t32 =>
  chk t32 fun c0 => isB c0
 (Option.bind (chk t7 fun a0 => Prim.run .mov [a0]) fun t33 =>
  Option.bind (chk t33 fun a0 => Prim.run (.bin .eql) [a0, (.int .u8 0)]) fun t34 =>
  Option.bind (chk t34 fun a0 => Prim.run .mov [a0]) fun t35 =>
  Option.bind (grd t35 true (chk t6 fun a0 => Prim.run .mov [a0])) fun t36 =>
  Option.bind (grd t35 true (chk t36 fun a0 => Prim.run (.bin .gtr) [a0, (.int .i64 0)])) fun t37 =>
  Option.bind (chk t35 fun a0 => isB a0 (chk t37 fun a1 => some a1) (some (.bool false))) fun t38 =>
  chk t38 fun c0 => isB c0
 (Option.bind (Prim.run .mov [(.int .u64 0)]) fun t2 =>
  Option.bind (Prim.run .mov [(.int .i64 0)]) fun t3 =>
  Option.bind (Prim.run .mov [(.bool false)]) fun t4 =>
  K (.ret, [.undef, .undef, t2, t3, t4, .undef, .undef, .undef, .undef, .undef, .undef, .undef, .undef, .undef, .undef, .undef, .undef, .undef, .undef, .undef, .undef, .undef, .undef, .undef, .undef, .undef, .undef, .undef, .undef, .undef, .undef, .undef, .undef, .undef, .undef, .undef, .undef, .undef, .undef, .undef, .undef, .undef, .undef]))
 (Option.bind (chk t5 fun a0 => Prim.run .mov [a0]) fun t39 =>
  Option.bind (chk t6 fun a0 => Prim.run .mov [a0]) fun t40 =>
  Option.bind (chk t40 fun a0 => Prim.run (.bin .add) [a0, (.int .i64 1)]) fun t41 =>
  Option.bind (chk t39 fun a0 => Prim.run .mov [a0]) fun t2 =>
  Option.bind (chk t41 fun a0 => Prim.run .mov [a0]) fun t3 =>
  Option.bind (Prim.run .mov [(.bool true)]) fun t4 =>
  K (.ret, [.undef, .undef, t2, t3, t4, .undef, .undef, .undef, .undef, .undef, .undef, .undef, .undef, .undef, .undef, .undef, .undef, .undef, .undef, .undef, .undef, .undef, .undef, .undef, .undef, .undef, .undef, .undef, .undef, .undef, .undef, .undef, .undef, .undef, .undef, .undef, .undef, .undef, .undef, .undef, .undef, .undef, .undef])))
 (Option.bind (chk t11 fun a0 => Prim.run (.bin .add) [a0, (.int .i64 1)]) fun t42 =>
  Option.bind (chk t42 fun a0 => Prim.run .mov [a0]) fun t11 =>
  WL63x2 t0 t5 t10 t11 K)))
 (K (.exit 0, [.undef, .undef, .undef, .undef, .undef, .undef, .undef, .undef, .undef, .undef, .undef, .undef, .undef, .undef, .undef, .undef, .undef, .undef, .undef, .undef, .undef, .undef, .undef, .undef, .undef, .undef, .undef, .undef, .undef, .undef, .undef, .undef, .undef, .undef, .undef, .undef, .undef, .undef, .undef, .undef, .undef, .undef, .undef]))) = some a) : WL63x2 t0 t5 t10 t11 K = some a := loopK_of (Eq.trans (by kernel_rfl) h)
@[simp] theorem aL63x2 (t0 t1 t2 t3 t4 t5 t6 t7 t8 t9 t10 t11 t12 t13 t14 t15 t16 t17 t18 t19 t20 t21 t22 t23 t24 t25 t26 t27 t28 t29 t30 t31 t32 t33 t34 t35 t36 t37 t38 t39 t40 t41 t42 : PV) (K : RK) : againK T kL63x2 L63x2 K (.normal, [t0, t1, t2, t3, t4, t5, t6, t7, t8, t9, t10, t11, t12, t13, t14, t15, t16, t17, t18, t19, t20, t21, t22, t23, t24, t25, t26, t27, t28, t29, t30, t31, t32, t33, t34, t35, t36, t37, t38, t39, t40, t41, t42]) = WL63x2 t0 t5 t10 t11 K := by kernel_rfl
@[simp] theorem lA63x1 (t0 t5 : PV) (K : RK) : denK T A63x1 [t0, .undef, .undef, .undef, .undef, t5, .undef, .undef, .undef, .undef, .undef, .undef, .undef, .undef, .undef, .undef, .undef, .undef, .undef, .undef, .undef, .undef, .undef, .undef, .undef, .undef, .undef, .undef, .undef, .undef, .undef, .undef, .undef, .undef, .undef, .undef, .undef, .undef, .undef, .undef, .undef, .undef, .undef] K =
  Option.bind (chk t0 fun a0 => Prim.run .mov [a0]) fun t8 =>
  Option.bind (chk t8 fun a0 => Prim.run .len [a0]) fun t9 =>
  Option.bind (chk t9 fun a0 => Prim.run .minI [a0, (.int .i64 10)]) fun t10 =>
  Option.bind (Prim.run .mov [(.int .i64 0)]) fun t11 =>
  WL63x2 t0 t5 t10 t11 (blockK 0 K) := by kernel_rfl
@[simp] theorem lB63x1 (K : RK) : denK T B63x1 [.undef, .undef, .undef, .undef, .undef, .undef, .undef, .undef, .undef, .undef, .undef, .undef, .undef, .undef, .undef, .undef, .undef, .undef, .undef, .undef, .undef, .undef, .undef, .undef, .undef, .undef, .undef, .undef, .undef, .undef, .undef, .undef, .undef, .undef, .undef, .undef, .undef, .undef, .undef, .undef, .undef, .undef, .undef] K =
  Option.bind (Prim.run .mov [(.int .u64 0)]) fun t2 =>
  Option.bind (Prim.run .mov [(.int .i64 0)]) fun t3 =>
  Option.bind (Prim.run .mov [(.bool false)]) fun t4 =>
  K (.ret, [.undef, .undef, t2, t3, t4, .undef, .undef, .undef, .undef, .undef, .undef, .undef, .undef, .undef, .undef, .undef, .undef, .undef, .undef, .undef, .undef, .undef, .undef, .undef, .undef, .undef, .undef, .undef, .undef, .undef, .undef, .undef, .undef, .undef, .undef, .undef, .undef, .undef, .undef, .undef, .undef, .undef, .undef]) := by kernel_rfl
theorem f63 (t0 : PV) {rs : List PV} (h : (Option.bind (Prim.run .mov [(.int .u64 0)]) fun t2 =>
  Option.bind (Prim.run .mov [(.int .i64 0)]) fun t3 =>
  Option.bind (Prim.run .mov [(.bool false)]) fun t4 =>
  Option.bind (Prim.run .mov [(.int .u64 0)]) fun t5 =>
  denK T A63x1 [t0, .undef, .undef, .undef, .undef, t5, .undef, .undef, .undef, .undef, .undef, .undef, .undef, .undef, .undef, .undef, .undef, .undef, .undef, .undef, .undef, .undef, .undef, .undef, .undef, .undef, .undef, .undef, .undef, .undef, .undef, .undef, .undef, .undef, .undef, .undef, .undef, .undef, .undef, .undef, .undef, .undef, .undef] (seqK T B63x1 (endK [2, 3, 4]))) = some rs) : Ans T 63 [t0] = some rs := call_of (T := T) c63 (Eq.trans (by kernel_rfl) h)
/-! vmfleet/bits.PutUvarint -/
noncomputable def WL66x2 (t0 t3 : PV) (K : RK) : Option (List PV) := loopK T kL66x2 L66x2 [t0, .undef, .undef, t3, .undef, .undef, .undef, .undef, .undef, .undef, .undef, .undef, .undef, .undef, .undef, .undef, .undef, .undef, .undef, .undef] K
theorem oL66x2 (t0 t3 : PV) (K : RK) {a : List PV} (h : (Option.bind (chk t0 fun a0 => Prim.run .mov [a0]) fun t4 =>
  Option.bind (chk t4 fun a0 => Prim.run (.bin .geq) [a0, (.int .u64 128)]) fun t5 =>
  chk t5 fun c0 => isB c0
 (Option.bind (chk t3 fun a0 => Prim.run .mov [a0]) fun t6 =>
  Option.bind (chk t0 fun a0 => Prim.run .mov [a0]) fun t7 =>
  Option.bind (chk t7 fun a0 => Prim.run (.toInt .u8) [a0]) fun t8 =>
  Option.bind (chk t8 fun a0 => Prim.run (.bin .or) [a0, (.int .u8 128)]) fun t9 =>
  Option.bind (chk t9 fun a0 => Prim.run (.buildSl (.int .u8 0) 1 [0]) [a0]) fun t10 =>
  Option.bind (chk t6 fun a0 => chk t10 fun a1 => Prim.run (.app 1) [a0, a1]) fun t11 =>
  Option.bind (chk t11 fun a0 => Prim.run .mov [a0]) fun t3 =>
  Option.bind (chk t0 fun a0 => Prim.run .mov [a0]) fun t12 =>
  Option.bind (chk t12 fun a0 => Prim.run (.bin .shr) [a0, (.int .u64 7)]) fun t13 =>
  Option.bind (chk t13 fun a0 => Prim.run .mov [a0]) fun t0 =>
  WL66x2 t0 t3 K)
 (K (.exit 0, [t0, .undef, .undef, t3, .undef, .undef, .undef, .undef, .undef, .undef, .undef, .undef, .undef, .undef, .undef, .undef, .undef, .undef, .undef, .undef]))) = some a) : WL66x2 t0 t3 K = some a := loopK_of (Eq.trans (by kernel_rfl) h)
@[simp] theorem aL66x2 (t0 t1 t2 t3 t4 t5 t6 t7 t8 t9 t10 t11 t12 t13 t14 t15 t16 t17 t18 t19 : PV) (K : RK) : againK T kL66x2 L66x2 K (.normal, [t0, t1, t2, t3, t4, t5, t6, t7, t8, t9, t10, t11, t12, t13, t14, t15, t16, t17, t18, t19]) = WL66x2 t0 t3 K := by kernel_rfl
@[simp] theorem lA66x1 (t0 t3 : PV) (K : RK) : denK T A66x1 [t0, .undef, .undef, t3, .undef, .undef, .undef, .undef, .undef, .undef, .undef, .undef, .undef, .undef, .undef, .undef, .undef, .undef, .undef, .undef] K =
  WL66x2 t0 t3 (blockK 0 K) := by kernel_rfl
@[simp] theorem lB66x1 (t0 t3 : PV) (K : RK) : denK T B66x1 [t0, .undef, .undef, t3, .undef, .undef, .undef, .undef, .undef, .undef, .undef, .undef, .undef, .undef, .undef, .undef, .undef, .undef, .undef, .undef] K =
  Option.bind (chk t3 fun a0 => Prim.run .mov [a0]) fun t14 =>
  Option.bind (chk t0 fun a0 => Prim.run .mov [a0]) fun t15 =>
  Option.bind (chk t15 fun a0 => Prim.run (.toInt .u8) [a0]) fun t16 =>
  Option.bind (chk t16 fun a0 => Prim.run (.buildSl (.int .u8 0) 1 [0]) [a0]) fun t17 =>
  Option.bind (chk t14 fun a0 => chk t17 fun a1 => Prim.run (.app 1) [a0, a1]) fun t18 =>
  Option.bind (chk t18 fun a0 => Prim.run .toStr [a0]) fun t19 =>
  Option.bind (chk t19 fun a0 => Prim.run .mov [a0]) fun t2 =>
  K (.ret, [.undef, .undef, t2, .undef, .undef, .undef, .undef, .undef, .undef, .undef, .undef, .undef, .undef, .undef, t14, .undef, .undef, .undef, .undef, .undef]) := by kernel_rfl
theorem f66 (t0 : PV) {rs : List PV} (h : (Option.bind (Prim.run .mov [(.str [])]) fun t2 =>
  Option.bind (Prim.run .mov [(.slice true [])]) fun t3 =>
  denK T A66x1 [t0, .undef, .undef, t3, .undef, .undef, .undef, .undef, .undef, .undef, .undef, .undef, .undef, .undef, .undef, .undef, .undef, .undef, .undef, .undef] (seqK T B66x1 (endK [2]))) = some rs) : Ans T 66 [t0] = some rs := call_of (T := T) c66 (Eq.trans (by kernel_rfl) h)
/-! vmfleet/vmfleetref1.PutUvarint -/
noncomputable def WL67x2 (t0 t3 : PV) (K : RK) : Option (List PV) := loopK T kL67x2 L67x2 [t0, .undef, .undef, t3, .undef, .undef, .undef, .undef, .undef, .undef, .undef, .undef, .undef, .undef, .undef, .undef, .undef, .undef, .undef, .undef, .undef] K
theorem oL67x2 (t0 t3 : PV) (K : RK) {a : List PV} (h : (Option.bind (chk t0 fun a0 => Prim.run .mov [a0]) fun t4 =>
  Option.bind (chk t4 fun a0 => Prim.run (.bin .geq) [a0, (.int .u64 128)]) fun t5 =>
  chk t5 fun c0 => isB c0
 (Option.bind (chk t3 fun a0 => Prim.run .mov [a0]) fun t6 =>
  Option.bind (chk t0 fun a0 => Prim.run .mov [a0]) fun t7 =>
  Option.bind (chk t7 fun a0 => Prim.run (.bin .and) [a0, (.int .u64 127)]) fun t8 =>
  Option.bind (chk t8 fun a0 => Prim.run (.toInt .u8) [a0]) fun t9 =>
  Option.bind (chk t9 fun a0 => Prim.run (.bin .or) [a0, (.int .u8 128)]) fun t10 =>
  Option.bind (chk t10 fun a0 => Prim.run (.buildSl (.int .u8 0) 1 [0]) [a0]) fun t11 =>
  Option.bind (chk t6 fun a0 => chk t11 fun a1 => Prim.run (.app 1) [a0, a1]) fun t12 =>
  Option.bind (chk t12 fun a0 => Prim.run .mov [a0]) fun t3 =>
  Option.bind (chk t0 fun a0 => Prim.run .mov [a0]) fun t13 =>
  Option.bind (chk t13 fun a0 => Prim.run (.bin .shr) [a0, (.int .u64 7)]) fun t14 =>
  Option.bind (chk t14 fun a0 => Prim.run .mov [a0]) fun t0 =>
  WL67x2 t0 t3 K)
 (K (.exit 0, [t0, .undef, .undef, t3, .undef, .undef, .undef, .undef, .undef, .undef, .undef, .undef, .undef, .undef, .undef, .undef, .undef, .undef, .undef, .undef, .undef]))) = some a) : WL67x2 t0 t3 K = some a := loopK_of (Eq.trans (by kernel_rfl) h)
@[simp] theorem aL67x2 (t0 t1 t2 t3 t4 t5 t6 t7 t8 t9 t10 t11 t12 t13 t14 t15 t16 t17 t18 t19 t20 : PV) (K : RK) : againK T kL67x2 L67x2 K (.normal, [t0, t1, t2, t3, t4, t5, t6, t7, t8, t9, t10, t11, t12, t13, t14, t15, t16, t17, t18, t19, t20]) = WL67x2 t0 t3 K := by kernel_rfl
@[simp] theorem lA67x1 (t0 t3 : PV) (K : RK) : denK T A67x1 [t0, .undef, .undef, t3, .undef, .undef, .undef, .undef, .undef, .undef, .undef, .undef, .undef, .undef, .undef, .undef, .undef, .undef, .undef, .undef, .undef] K =
  WL67x2 t0 t3 (blockK 0 K) := by kernel_rfl
@[simp] theorem lB67x1 (t0 t3 : PV) (K : RK) : denK T B67x1 [t0, .undef, .undef, t3, .undef, .undef, .undef, .undef, .undef, .undef, .undef, .undef, .undef, .undef, .undef, .undef, .undef, .undef, .undef, .undef, .undef] K =
  Option.bind (chk t3 fun a0 => Prim.run .mov [a0]) fun t15 =>
  Option.bind (chk t0 fun a0 => Prim.run .mov [a0]) fun t16 =>
  Option.bind (chk t16 fun a0 => Prim.run (.toInt .u8) [a0]) fun t17 =>
  Option.bind (chk t17 fun a0 => Prim.run (.buildSl (.int .u8 0) 1 [0]) [a0]) fun t18 =>
  Option.bind (chk t15 fun a0 => chk t18 fun a1 => Prim.run (.app 1) [a0, a1]) fun t19 =>
  Option.bind (chk t19 fun a0 => Prim.run .toStr [a0]) fun t20 =>
  Option.bind (chk t20 fun a0 => Prim.run .mov [a0]) fun t2 =>
  K (.ret, [.undef, .undef, t2, .undef, .undef, .undef, .undef, .undef, .undef, .undef, .undef, .undef, .undef, .undef, .undef, t15, .undef, .undef, .undef, .undef, .undef]) := by kernel_rfl
theorem f67 (t0 : PV) {rs : List PV} (h : (Option.bind (Prim.run .mov [(.str [])]) fun t2 =>
  Option.bind (Prim.run .mov [(.slice true [])]) fun t3 =>
  denK T A67x1 [t0, .undef, .undef, t3, .undef, .undef, .undef, .undef, .undef, .undef, .undef, .undef, .undef, .undef, .undef, .undef, .undef, .undef, .undef, .undef, .undef] (seqK T B67x1 (endK [2]))) = some rs) : Ans T 67 [t0] = some rs := call_of (T := T) c67 (Eq.trans (by kernel_rfl) h)
/-! vmfleet/vmfleetmake.Mix -/
theorem f68 (t0 t1 : PV) {rs : List PV} (h : (Option.bind (Prim.run .mov [(.int .i64 0)]) fun t4 =>
  Option.bind (chk t0 fun a0 => Prim.run .mov [a0]) fun t8 =>
  Option.bind (chk t8 fun a0 => Prim.run (.toInt .u64) [a0]) fun t9 =>
  Option.bind (chk t1 fun a0 => Prim.run .mov [a0]) fun t10 =>
  Option.bind (chk t10 fun a0 => Prim.run (.toInt .u64) [a0]) fun t11 =>
  Option.bind (chk t11 fun a0 => Prim.run (.bin .mul) [a0, (.int .u64 11400714819323198485)]) fun t12 =>
  Option.bind (chk t9 fun a0 => chk t12 fun a1 => Prim.run (.bin .xor) [a0, a1]) fun t13 =>
  Option.bind (chk t13 fun a0 => Option.bind (Ans T 91 [a0]) fun rs => retV 2 rs) fun t14 =>
  Option.bind (chk t14 fun a0 => Prim.run .mov [a0]) fun t7 =>
  Option.bind (chk t7 fun a0 => Prim.run (.ext 0) [a0]) fun t15 =>
  Option.bind (chk t7 fun a0 => Prim.run (.ext 1) [a0]) fun t16 =>
  Option.bind (chk t15 fun a0 => Prim.run .mov [a0]) fun t5 =>
  Option.bind (chk t16 fun a0 => Prim.run .mov [a0]) fun t6 =>
  Option.bind (chk t5 fun a0 => Prim.run .mov [a0]) fun t17 =>
  Option.bind (chk t17 fun a0 => Prim.run (.bin .shr) [a0, (.int .u64 1)]) fun t18 =>
  Option.bind (chk t18 fun a0 => Prim.run (.toInt .i64) [a0]) fun t19 =>
  Option.bind (chk t19 fun a0 => Prim.run .mov [a0]) fun t4 =>
  allDef [t4]) = some rs) : Ans T 68 [t0, t1] = some rs := call_of (T := T) c68 (Eq.trans (by kernel_rfl) h)
/-! vmfleet/vmfleetmake.Data -/
noncomputable def WL69x2 (t0 t1 t5 t6 : PV) (K : RK) : Option (List PV) := loopK T kL69x2 L69x2 [t0, t1, .undef, .undef, .undef, t5, t6, .undef, .undef, .undef, .undef, .undef, .undef, .undef, .undef, .undef, .undef, .undef, .undef, .undef, .undef, .undef] K
theorem oL69x2 (t0 t1 t5 t6 : PV) (K : RK) {a : List PV} (h : (Option.bind (chk t6 fun a0 => Prim.run .mov [a0]) fun t7 =>
  Option.bind (chk t1 fun a0 => Prim.run .mov [a0]) fun t8 =>
  Option.bind (chk t7 fun a0 => chk t8 fun a1 => Prim.run (.bin .lss) [a0, a1]) fun t9 =>
  chk t9 fun c0 => isB c0
 (Option.bind (chk t5 fun a0 => Prim.run .mov [a0]) fun t12 =>
  Option.bind (chk t0 fun a0 => Prim.run .mov [a0]) fun t13 =>
  Option.bind (chk t6 fun a0 => Prim.run .mov [a0]) fun t14 =>
  Option.bind (chk t14 fun a0 => Prim.run (.bin .quo) [a0, (.int .i64 9)]) fun t15 =>
  Option.bind (chk t13 fun a0 => chk t15 fun a1 => Option.bind (Ans T 68 [a0, a1]) fun rs => retV 1 rs) fun t16 =>
  Option.bind (chk t16 fun a0 => Prim.run (.toInt .u8) [a0]) fun t17 =>
  Option.bind (chk t17 fun a0 => Prim.run (.buildSl (.int .u8 0) 1 [0]) [a0]) fun t18 =>
  Option.bind (chk t12 fun a0 => chk t18 fun a1 => Prim.run (.app 1) [a0, a1]) fun t19 =>
  Option.bind (chk t19 fun a0 => Prim.run .mov [a0]) fun t5 =>
  Option.bind (chk t6 fun a0 => Prim.run .mov [a0]) fun t10 =>
  Option.bind (chk t10 fun a0 => Prim.run (.bin .add) [a0, (.int .i64 1)]) fun t11 =>
  Option.bind (chk t11 fun a0 => Prim.run .mov [a0]) fun t6 =>
  WL69x2 t0 t1 t5 t6 K)
 (K (.exit 0, [.undef, .undef, .undef, .undef, .undef, t5, .undef, .undef, .undef, .undef, .undef, .undef, .undef, .undef, .undef, .undef, .undef, .undef, .undef, .undef, .undef, .undef]))) = some a) : WL69x2 t0 t1 t5 t6 K = some a := loopK_of (Eq.trans (by kernel_rfl) h)
@[simp] theorem aL69x2 (t0 t1 t2 t3 t4 t5 t6 t7 t8 t9 t10 t11 t12 t13 t14 t15 t16 t17 t18 t19 t20 t21 : PV) (K : RK) : againK T kL69x2 L69x2 K (.normal, [t0, t1, t2, t3, t4, t5, t6, t7, t8, t9, t10, t11, t12, t13, t14, t15, t16, t17, t18, t19, t20, t21]) = WL69x2 t0 t1 t5 t6 K := by kernel_rfl
@[simp] theorem lA69x1 (t0 t1 t5 : PV) (K : RK) : denK T A69x1 [t0, t1, .undef, .undef, .undef, t5, .undef, .undef, .undef, .undef, .undef, .undef, .undef, .undef, .undef, .undef, .undef, .undef, .undef, .undef, .undef, .undef] K =
  Option.bind (Prim.run .mov [(.int .i64 0)]) fun t6 =>
  WL69x2 t0 t1 t5 t6 (blockK 0 K) := by kernel_rfl
@[simp] theorem lB69x1 (t5 : PV) (K : RK) : denK T B69x1 [.undef, .undef, .undef, .undef, .undef, t5, .undef, .undef, .undef, .undef, .undef, .undef, .undef, .undef, .undef, .undef, .undef, .undef, .undef, .undef, .undef, .undef] K =
  Option.bind (chk t5 fun a0 => Prim.run .mov [a0]) fun t20 =>
  Option.bind (chk t20 fun a0 => Prim.run .toStr [a0]) fun t21 =>
  Option.bind (chk t21 fun a0 => Prim.run .mov [a0]) fun t4 =>
  K (.ret, [.undef, .undef, .undef, .undef, t4, .undef, .undef, .undef, .undef, .undef, .undef, .undef, .undef, .undef, .undef, .undef, .undef, .undef, .undef, .undef, .undef, .undef]) := by kernel_rfl
theorem f69 (t0 t1 : PV) {rs : List PV} (h : (Option.bind (Prim.run .mov [(.str [])]) fun t4 =>
  Option.bind (Prim.run .mov [(.slice true [])]) fun t5 =>
  denK T A69x1 [t0, t1, .undef, .undef, .undef, t5, .undef, .undef, .undef, .undef, .undef, .undef, .undef, .undef, .undef, .undef, .undef, .undef, .undef, .undef, .undef, .undef] (seqK T B69x1 (endK [4]))) = some rs) : Ans T 69 [t0, t1] = some rs := call_of (T := T) c69 (Eq.trans (by kernel_rfl) h)
/-! vmfleet/eventlog.Encode -/
noncomputable def WL70x2 (t1 t7 t20 t21 t22 : PV) (K : RK) : Option (List PV) := loopK T kL70x2 L70x2 [.undef, t1, .undef, .undef, .undef, .undef, .undef, t7, .undef, .undef, .undef, .undef, .undef, .undef, .undef, .undef, .undef, .undef, .undef, .undef, t20, t21, t22, .undef, .undef, .undef, .undef, .undef, .undef, .undef, .undef, .undef, .undef, .undef, .undef, .undef, .undef, .undef, .undef, .undef, .undef, .undef, .undef, .undef] K
theorem oL70x2 (t1 t7 t20 t21 t22 : PV) (K : RK) {a : List PV} (h : (Option.bind (chk t22 fun a0 => chk t21 fun a1 => Prim.run (.bin .lss) [a0, a1]) fun t23 =>
  chk t23 fun c0 => isB c0
 (Option.bind (chk t20 fun a0 => chk t22 fun a1 => Prim.run (.iptr []) [a0, a1]) fun t24 =>
  Option.bind (chk t20 fun a0 => chk t24 fun a1 => Prim.run .load [a0, a1]) fun t25 =>
  Option.bind (Prim.run .mov [(.agg [(.int .u64 0), (.agg [(.int .i64 0), (.int .u32 0), (.str [])])])]) fun t9 =>
  chk t25 fun a0 => chk t9 fun y0 => Option.bind (setP [] y0 a0) fun t9 =>
  Option.bind (chk t7 fun a0 => Prim.run .mov [a0]) fun t26 =>
  Option.bind (Prim.run (.fptr 0) [(.ptr [])]) fun t27 =>
  Option.bind (chk t9 fun a0 => chk t27 fun a1 => Prim.run .load [a0, a1]) fun t28 =>
  Option.bind (chk t1 fun a0 => Prim.run .mov [a0]) fun t29 =>
  Option.bind (chk t28 fun a0 => chk t29 fun a1 => Prim.run (.bin .sub) [a0, a1]) fun t30 =>
  Option.bind (chk t30 fun a0 => Option.bind (Ans T 66 [a0]) fun rs => retV 1 rs) fun t31 =>
  Option.bind (Prim.run (.fptr 1) [(.ptr [])]) fun t32 =>
  Option.bind (chk t9 fun a0 => chk t32 fun a1 => Prim.run .load [a0, a1]) fun t33 =>
  Option.bind (chk t33 fun a0 => Option.bind (Ans T 93 [a0]) fun rs => retV 1 rs) fun t34 =>
  Option.bind (chk t31 fun a0 => chk t34 fun a1 => Prim.run (.bin .add) [a0, a1]) fun t35 =>
  Option.bind (chk t26 fun a0 => chk t35 fun a1 => Prim.run (.bin .add) [a0, a1]) fun t36 =>
  Option.bind (chk t36 fun a0 => Prim.run .mov [a0]) fun t7 =>
  Option.bind (Prim.run (.fptr 0) [(.ptr [])]) fun t37 =>
  Option.bind (chk t9 fun a0 => chk t37 fun a1 => Prim.run .load [a0, a1]) fun t38 =>
  Option.bind (chk t38 fun a0 => Prim.run .mov [a0]) fun t1 =>
  Option.bind (chk t22 fun a0 => Prim.run (.bin .add) [a0, (.int .i64 1)]) fun t39 =>
  Option.bind (chk t39 fun a0 => Prim.run .mov [a0]) fun t22 =>
  WL70x2 t1 t7 t20 t21 t22 K)
 (K (.exit 0, [.undef, .undef, .undef, .undef, .undef, .undef, .undef, t7, .undef, .undef, .undef, .undef, .undef, .undef, .undef, .undef, .undef, .undef, .undef, .undef, .undef, .undef, .undef, .undef, .undef, .undef, .undef, .undef, .undef, .undef, .undef, .undef, .undef, .undef, .undef, .undef, .undef, .undef, .undef, .undef, .undef, .undef, .undef, .undef]))) = some a) : WL70x2 t1 t7 t20 t21 t22 K = some a := loopK_of (Eq.trans (by kernel_rfl) h)
@[simp] theorem aL70x2 (t0 t1 t2 t3 t4 t5 t6 t7 t8 t9 t10 t11 t12 t13 t14 t15 t16 t17 t18 t19 t20 t21 t22 t23 t24 t25 t26 t27 t28 t29 t30 t31 t32 t33 t34 t35 t36 t37 t38 t39 t40 t41 t42 t43 : PV) (K : RK) : againK T kL70x2 L70x2 K (.normal, [t0, t1, t2, t3, t4, t5, t6, t7, t8, t9, t10, t11, t12, t13, t14, t15, t16, t17, t18, t19, t20, t21, t22, t23, t24, t25, t26, t27, t28, t29, t30, t31, t32, t33, t34, t35, t36, t37, t38, t39, t40, t41, t42, t43]) = WL70x2 t1 t7 t20 t21 t22 K := by kernel_rfl
@[simp] theorem lA70x1 (t0 t1 t7 : PV) (K : RK) : denK T A70x1 [t0, t1, .undef, .undef, .undef, .undef, .undef, t7, .undef, .undef, .undef, .undef, .undef, .undef, .undef, .undef, .undef, .undef, .undef, .undef, .undef, .undef, .undef, .undef, .undef, .undef, .undef, .undef, .undef, .undef, .undef, .undef, .undef, .undef, .undef, .undef, .undef, .undef, .undef, .undef, .undef, .undef, .undef, .undef] K =
  Option.bind (chk t0 fun a0 => Prim.run .mov [a0]) fun t20 =>
  Option.bind (chk t20 fun a0 => Prim.run .len [a0]) fun t21 =>
  Option.bind (Prim.run .mov [(.int .i64 0)]) fun t22 =>
  WL70x2 t1 t7 t20 t21 t22 (blockK 0 K) := by kernel_rfl
@[simp] theorem lB70x1 (t7 : PV) (K : RK) : denK T B70x1 [.undef, .undef, .undef, .undef, .undef, .undef, .undef, t7, .undef, .undef, .undef, .undef, .undef, .undef, .undef, .undef, .undef, .undef, .undef, .undef, .undef, .undef, .undef, .undef, .undef, .undef, .undef, .undef, .undef, .undef, .undef, .undef, .undef, .undef, .undef, .undef, .undef, .undef, .undef, .undef, .undef, .undef, .undef, .undef] K =
  Option.bind (chk t7 fun a0 => Prim.run .mov [a0]) fun t40 =>
  Option.bind (chk t40 fun a0 => Prim.run .len [a0]) fun t41 =>
  Option.bind (chk t41 fun a0 => Prim.run (.bin .gtr) [a0, (.int .i64 65536)]) fun t42 =>
  chk t42 fun c0 => isB c0
 (Option.bind (Prim.run .mov [(.str [])]) fun t4 =>
  Option.bind (Prim.run .mov [(.int .i64 1902)]) fun t5 =>
  K (.ret, [.undef, .undef, .undef, .undef, t4, t5, .undef, .undef, .undef, .undef, .undef, .undef, .undef, .undef, .undef, .undef, .undef, .undef, .undef, .undef, .undef, .undef, .undef, .undef, .undef, .undef, .undef, .undef, .undef, .undef, .undef, .undef, .undef, .undef, .undef, .undef, .undef, .undef, .undef, .undef, .undef, .undef, .undef, .undef]))
 (Option.bind (chk t7 fun a0 => Prim.run .mov [a0]) fun t43 =>
  Option.bind (chk t43 fun a0 => Prim.run .mov [a0]) fun t4 =>
  Option.bind (Prim.run .mov [(.int .i64 0)]) fun t5 =>
  K (.ret, [.undef, .undef, .undef, .undef, t4, t5, .undef, .undef, .undef, .undef, .undef, .undef, .undef, .undef, .undef, .undef, .undef, .undef, .undef, .undef, .undef, .undef, .undef, .undef, .undef, .undef, .undef, .undef, .undef, .undef, .undef, .undef, .undef, .undef, .undef, .undef, .undef, .undef, .undef, .undef, .undef, .undef, .undef, .undef])) := by kernel_rfl
theorem f70 (t0 t1 : PV) {rs : List PV} (h : (Option.bind (Prim.run .mov [(.str [])]) fun t4 =>
  Option.bind (Prim.run .mov [(.int .i64 0)]) fun t5 =>
  Option.bind (chk t0 fun a0 => Prim.run .mov [a0]) fun t10 =>
  Option.bind (chk t1 fun a0 => Prim.run .mov [a0]) fun t11 =>
  Option.bind (chk t10 fun a0 => chk t11 fun a1 => Option.bind (Ans T 92 [a0, a1]) fun rs => retV 1 rs) fun t12 =>
  Option.bind (chk t12 fun a0 => Prim.run .mov [a0]) fun t6 =>
  Option.bind (chk t6 fun a0 => Prim.run .mov [a0]) fun t13 =>
  Option.bind (chk t13 fun a0 => Prim.run (.bin .neq) [a0, (.int .i64 0)]) fun t14 =>
  chk t14 fun c0 => isB c0
 (Option.bind (chk t6 fun a0 => Prim.run .mov [a0]) fun t15 =>
  Option.bind (Prim.run .mov [(.str [])]) fun t4 =>
  Option.bind (chk t15 fun a0 => Prim.run .mov [a0]) fun t5 =>
  allDef [t4, t5])
 (Option.bind (chk t0 fun a0 => Prim.run .mov [a0]) fun t16 =>
  Option.bind (chk t16 fun a0 => Prim.run .len [a0]) fun t17 =>
  Option.bind (chk t17 fun a0 => Prim.run (.toInt .u64) [a0]) fun t18 =>
  Option.bind (chk t18 fun a0 => Option.bind (Ans T 66 [a0]) fun rs => retV 1 rs) fun t19 =>
  Option.bind (chk t19 fun a0 => Prim.run .mov [a0]) fun t7 =>
  denK T A70x1 [t0, t1, .undef, .undef, .undef, .undef, .undef, t7, .undef, .undef, .undef, .undef, .undef, .undef, .undef, .undef, .undef, .undef, .undef, .undef, .undef, .undef, .undef, .undef, .undef, .undef, .undef, .undef, .undef, .undef, .undef, .undef, .undef, .undef, .undef, .undef, .undef, .undef, .undef, .undef, .undef, .undef, .undef, .undef] (seqK T B70x1 (endK [4, 5])))) = some rs) : Ans T 70 [t0, t1] = some rs := call_of (T := T) c70 (Eq.trans (by kernel_rfl) h)
/-! vmfleet/eventlog.text -/
theorem f71 (t0 : PV) {rs : List PV} (h : (Option.bind (Prim.run .mov [(.str [])]) fun t2 =>
  Option.bind (chk t0 fun a0 => Prim.run .mov [a0]) fun t3 =>
  Option.bind (chk t3 fun a0 => Prim.run .len [a0]) fun t4 =>
  Option.bind (chk t4 fun a0 => Prim.run (.toInt .u64) [a0]) fun t5 =>
  Option.bind (chk t5 fun a0 => Option.bind (Ans T 66 [a0]) fun rs => retV 1 rs) fun t6 =>
  Option.bind (chk t0 fun a0 => Prim.run .mov [a0]) fun t7 =>
  Option.bind (chk t6 fun a0 => chk t7 fun a1 => Prim.run (.bin .add) [a0, a1]) fun t8 =>
  Option.bind (chk t8 fun a0 => Prim.run .mov [a0]) fun t2 =>
  allDef [t2]) = some rs) : Ans T 71 [t0] = some rs := call_of (T := T) c71 (Eq.trans (by kernel_rfl) h)
/-! vmfleet/eventlog.sum -/
noncomputable def WL72x2 (t3 t4 t10 t11 : PV) (K : RK) : Option (List PV) := loopK T kL72x2 L72x2 [.undef, .undef, .undef, t3, t4, .undef, .undef, .undef, .undef, .undef, t10, t11, .undef, .undef, .undef, .undef, .undef, .undef, .undef, .undef, .undef, .undef, .undef, .undef, .undef, .undef] K
theorem oL72x2 (t3 t4 t10 t11 : PV) (K : RK) {a : List PV} (h : (Option.bind (chk t11 fun a0 => chk t10 fun a1 => Prim.run (.bin .lss) [a0, a1]) fun t12 =>
  chk t12 fun c0 => isB c0
 (Option.bind (chk t11 fun a0 => Prim.run .mov [a0]) fun t13 =>
  Option.bind (chk t13 fun a0 => Prim.run .mov [a0]) fun t5 =>
  Option.bind (chk t4 fun a0 => Prim.run .mov [a0]) fun t14 =>
  Option.bind (chk t5 fun a0 => Prim.run .mov [a0]) fun t15 =>
  Option.bind (chk t3 fun a0 => Prim.run .mov [a0]) fun t16 =>
  Option.bind (chk t5 fun a0 => Prim.run .mov [a0]) fun t17 =>
  Option.bind (chk t17 fun a1 => Prim.run (.bin .mul) [(.int .i64 8), a1]) fun t18 =>
  Option.bind (chk t18 fun a1 => Prim.run (.bin .sub) [(.int .i64 56), a1]) fun t19 =>
  Option.bind (chk t16 fun a0 => chk t19 fun a1 => Prim.run (.bin .shr) [a0, a1]) fun t20 =>
  Option.bind (chk t20 fun a0 => Prim.run (.toInt .u8) [a0]) fun t21 =>
  Option.bind (chk t14 fun a0 => chk t15 fun a1 => Prim.run (.iptr []) [a0, a1]) fun t22 =>
  chk t21 fun a0 => asPath t22 fun q0 => chk t4 fun y0 => Option.bind (setP q0 y0 a0) fun t4 =>
  Option.bind (chk t11 fun a0 => Prim.run (.bin .add) [a0, (.int .i64 1)]) fun t23 =>
  Option.bind (chk t23 fun a0 => Prim.run .mov [a0]) fun t11 =>
  WL72x2 t3 t4 t10 t11 K)
 (K (.exit 0, [.undef, .undef, .undef, .undef, t4, .undef, .undef, .undef, .undef, .undef, .undef, .undef, .undef, .undef, .undef, .undef, .undef, .undef, .undef, .undef, .undef, .undef, .undef, .undef, .undef, .undef]))) = some a) : WL72x2 t3 t4 t10 t11 K = some a := loopK_of (Eq.trans (by kernel_rfl) h)
@[simp] theorem aL72x2 (t0 t1 t2 t3 t4 t5 t6 t7 t8 t9 t10 t11 t12 t13 t14 t15 t16 t17 t18 t19 t20 t21 t22 t23 t24 t25 : PV) (K : RK) : againK T kL72x2 L72x2 K (.normal, [t0, t1, t2, t3, t4, t5, t6, t7, t8, t9, t10, t11, t12, t13, t14, t15, t16, t17, t18, t19, t20, t21, t22, t23, t24, t25]) = WL72x2 t3 t4 t10 t11 K := by kernel_rfl
@[simp] theorem lA72x1 (t3 t4 : PV) (K : RK) : denK T A72x1 [.undef, .undef, .undef, t3, t4, .undef, .undef, .undef, .undef, .undef, .undef, .undef, .undef, .undef, .undef, .undef, .undef, .undef, .undef, .undef, .undef, .undef, .undef, .undef, .undef, .undef] K =
  Option.bind (chk t4 fun a0 => Prim.run .mov [a0]) fun t9 =>
  Option.bind (chk t9 fun a0 => Prim.run .len [a0]) fun t10 =>
  Option.bind (Prim.run .mov [(.int .i64 0)]) fun t11 =>
  WL72x2 t3 t4 t10 t11 (blockK 0 K) := by kernel_rfl
@[simp] theorem lB72x1 (t4 : PV) (K : RK) : denK T B72x1 [.undef, .undef, .undef, .undef, t4, .undef, .undef, .undef, .undef, .undef, .undef, .undef, .undef, .undef, .undef, .undef, .undef, .undef, .undef, .undef, .undef, .undef, .undef, .undef, .undef, .undef] K =
  Option.bind (chk t4 fun a0 => Prim.run .mov [a0]) fun t24 =>
  Option.bind (chk t24 fun a0 => Prim.run .toStr [a0]) fun t25 =>
  Option.bind (chk t25 fun a0 => Prim.run .mov [a0]) fun t2 =>
  K (.ret, [.undef, .undef, t2, .undef, .undef, .undef, .undef, .undef, .undef, .undef, .undef, .undef, .undef, .undef, .undef, .undef, .undef, .undef, .undef, .undef, .undef, .undef, .undef, .undef, .undef, .undef]) := by kernel_rfl
theorem f72 (t0 : PV) {rs : List PV} (h : (Option.bind (Prim.run .mov [(.str [])]) fun t2 =>
  Option.bind (chk t0 fun a0 => Prim.run .mov [a0]) fun t6 =>
  Option.bind (chk t6 fun a1 => Option.bind (Ans T 94 [(.int .u64 14695981039346656037), a1]) fun rs => retV 1 rs) fun t7 =>
  Option.bind (chk t7 fun a0 => Prim.run .mov [a0]) fun t3 =>
  Option.bind (Prim.run (.mkSl (.int .u8 0) 1) [(.int .i64 8), (.int .i64 8)]) fun t8 =>
  Option.bind (chk t8 fun a0 => Prim.run .mov [a0]) fun t4 =>
  denK T A72x1 [.undef, .undef, .undef, t3, t4, .undef, .undef, .undef, .undef, .undef, .undef, .undef, .undef, .undef, .undef, .undef, .undef, .undef, .undef, .undef, .undef, .undef, .undef, .undef, .undef, .undef] (seqK T B72x1 (endK [2]))) = some rs) : Ans T 72 [t0] = some rs := call_of (T := T) c72 (Eq.trans (by kernel_rfl) h)
/-! (*vmfleet/eventlog.reader).number -/
theorem f73 (t0 : PV) {rs : List PV} (h : (Option.bind (Prim.run .mov [(.int .u64 0)]) fun t2 =>
  Option.bind (Prim.run .mov [(.ptr [])]) fun t7 =>
  Option.bind (chk t7 fun a0 => Prim.run .mov [a0]) fun t8 =>
  Option.bind (chk t8 fun a0 => Prim.run (.fptr 0) [a0]) fun t9 =>
  Option.bind (chk t0 fun a0 => chk t9 fun a1 => Prim.run .load [a0, a1]) fun t10 =>
  Option.bind (chk t10 fun a0 => Option.bind (Ans T 63 [a0]) fun rs => retV 3 rs) fun t11 =>
  Option.bind (chk t11 fun a0 => Prim.run .mov [a0]) fun t6 =>
  Option.bind (chk t6 fun a0 => Prim.run (.ext 0) [a0]) fun t12 =>
  Option.bind (chk t6 fun a0 => Prim.run (.ext 1) [a0]) fun t13 =>
  Option.bind (chk t6 fun a0 => Prim.run (.ext 2) [a0]) fun t14 =>
  Option.bind (chk t12 fun a0 => Prim.run .mov [a0]) fun t3 =>
  Option.bind (chk t13 fun a0 => Prim.run .mov [a0]) fun t4 =>
  Option.bind (chk t14 fun a0 => Prim.run .mov [a0]) fun t5 =>
  Option.bind (Prim.run .mov [(.ptr [])]) fun t15 =>
  Option.bind (Prim.run .mov [(.ptr [])]) fun t16 =>
  Option.bind (chk t16 fun a0 => Prim.run .mov [a0]) fun t17 =>
  Option.bind (chk t17 fun a0 => Prim.run (.fptr 1) [a0]) fun t18 =>
  Option.bind (chk t0 fun a0 => chk t18 fun a1 => Prim.run .load [a0, a1]) fun t19 =>
  Option.bind (chk t19 fun a0 => Prim.run .mov [a0]) fun t20 =>
  Option.bind (grd t20 true (chk t5 fun a0 => Prim.run .mov [a0])) fun t21 =>
  Option.bind (chk t20 fun a0 => isB a0 (chk t21 fun a1 => some a1) (some (.bool false))) fun t22 =>
  Option.bind (chk t15 fun a0 => Prim.run .mov [a0]) fun t23 =>
  Option.bind (chk t23 fun a0 => Prim.run (.fptr 1) [a0]) fun t24 =>
  chk t22 fun a0 => asPath t24 fun q0 => chk t0 fun y0 => Option.bind (setP q0 y0 a0) fun t0 =>
  Option.bind (Prim.run .mov [(.ptr [])]) fun t25 =>
  Option.bind (Prim.run .mov [(.ptr [])]) fun t26 =>
  Option.bind (chk t26 fun a0 => Prim.run .mov [a0]) fun t27 =>
  Option.bind (chk t27 fun a0 => Prim.run (.fptr 0) [a0]) fun t28 =>
  Option.bind (chk t0 fun a0 => chk t28 fun a1 => Prim.run .load [a0, a1]) fun t29 =>
  Option.bind (chk t4 fun a0 => Prim.run .mov [a0]) fun t30 =>
  Option.bind (chk t29 fun a0 => chk t30 fun a1 => Prim.run (.sl true false) [a0, a1]) fun t31 =>
  Option.bind (chk t25 fun a0 => Prim.run .mov [a0]) fun t32 =>
  Option.bind (chk t32 fun a0 => Prim.run (.fptr 0) [a0]) fun t33 =>
  chk t31 fun a0 => asPath t33 fun q0 => chk t0 fun y0 => Option.bind (setP q0 y0 a0) fun t0 =>
  Option.bind (chk t3 fun a0 => Prim.run .mov [a0]) fun t34 =>
  Option.bind (chk t34 fun a0 => Prim.run .mov [a0]) fun t2 =>
  allDef [t2, t0]) = some rs) : Ans T 73 [t0] = some rs := call_of (T := T) c73 (Eq.trans (by kernel_rfl) h)
/-! (*vmfleet/eventlog.reader).text -/
theorem f74 (t0 : PV) {rs : List PV} (h : (Option.bind (Prim.run .mov [(.str [])]) fun t2 =>
  Option.bind (Prim.run .mov [(.ptr [])]) fun t5 =>
  asPath t5 fun a0q => chk t0 fun a0r => Option.bind (getP a0q a0r) fun a0 => Option.bind (Ans T 73 [a0]) fun rs1 => consK (rs1.drop 1) fun y0 ys0 => asPath t5 fun q0 => chk t0 fun x0 => Option.bind (setP q0 x0 y0) fun t0 => nilK ys0 (Option.bind (chk (resultOf 1 rs1) fun a0 => Prim.run .mov [a0]) fun t3 =>
  Option.bind (chk t3 fun a0 => Prim.run .mov [a0]) fun t7 =>
  Option.bind (Prim.run .mov [(.ptr [])]) fun t8 =>
  Option.bind (chk t8 fun a0 => Prim.run .mov [a0]) fun t9 =>
  Option.bind (chk t9 fun a0 => Prim.run (.fptr 0) [a0]) fun t10 =>
  Option.bind (chk t0 fun a0 => chk t10 fun a1 => Prim.run .load [a0, a1]) fun t11 =>
  Option.bind (chk t11 fun a0 => Prim.run .len [a0]) fun t12 =>
  Option.bind (chk t12 fun a0 => Prim.run (.toInt .u64) [a0]) fun t13 =>
  Option.bind (chk t7 fun a0 => chk t13 fun a1 => Prim.run (.bin .gtr) [a0, a1]) fun t14 =>
  chk t14 fun c0 => isB c0
 (Option.bind (Prim.run .mov [(.ptr [])]) fun t15 =>
  Option.bind (chk t15 fun a0 => Prim.run .mov [a0]) fun t16 =>
  Option.bind (chk t16 fun a0 => Prim.run (.fptr 1) [a0]) fun t17 =>
  asPath t17 fun q0 => chk t0 fun y0 => Option.bind (setP q0 y0 (.bool false)) fun t0 =>
  Option.bind (Prim.run .mov [(.str [])]) fun t2 =>
  allDef [t2, t0])
 (Option.bind (Prim.run .mov [(.ptr [])]) fun t18 =>
  Option.bind (chk t18 fun a0 => Prim.run .mov [a0]) fun t19 =>
  Option.bind (chk t19 fun a0 => Prim.run (.fptr 0) [a0]) fun t20 =>
  Option.bind (chk t0 fun a0 => chk t20 fun a1 => Prim.run .load [a0, a1]) fun t21 =>
  Option.bind (chk t3 fun a0 => Prim.run .mov [a0]) fun t22 =>
  Option.bind (chk t21 fun a0 => chk t22 fun a1 => Prim.run (.sl false true) [a0, a1]) fun t23 =>
  Option.bind (chk t23 fun a0 => Prim.run .mov [a0]) fun t4 =>
  Option.bind (Prim.run .mov [(.ptr [])]) fun t24 =>
  Option.bind (Prim.run .mov [(.ptr [])]) fun t25 =>
  Option.bind (chk t25 fun a0 => Prim.run .mov [a0]) fun t26 =>
  Option.bind (chk t26 fun a0 => Prim.run (.fptr 0) [a0]) fun t27 =>
  Option.bind (chk t0 fun a0 => chk t27 fun a1 => Prim.run .load [a0, a1]) fun t28 =>
  Option.bind (chk t3 fun a0 => Prim.run .mov [a0]) fun t29 =>
  Option.bind (chk t28 fun a0 => chk t29 fun a1 => Prim.run (.sl true false) [a0, a1]) fun t30 =>
  Option.bind (chk t24 fun a0 => Prim.run .mov [a0]) fun t31 =>
  Option.bind (chk t31 fun a0 => Prim.run (.fptr 0) [a0]) fun t32 =>
  chk t30 fun a0 => asPath t32 fun q0 => chk t0 fun y0 => Option.bind (setP q0 y0 a0) fun t0 =>
  Option.bind (chk t4 fun a0 => Prim.run .mov [a0]) fun t33 =>
  Option.bind (chk t33 fun a0 => Prim.run .mov [a0]) fun t2 =>
  allDef [t2, t0]))) = some rs) : Ans T 74 [t0] = some rs := call_of (T := T) c74 (Eq.trans (by kernel_rfl) h)
/-! vmfleet/vmfleetref19.eight -/
noncomputable def WL75x2 (t0 t3 t4 : PV) (K : RK) : Option (List PV) := loopK T kL75x2 L75x2 [t0, .undef, .undef, t3, t4, .undef, .undef, .undef, .undef, .undef, .undef, .undef, .undef, .undef, .undef, .undef, .undef, .undef, .undef] K
theorem oL75x2 (t0 t3 t4 : PV) (K : RK) {a : List PV} (h : (Option.bind (chk t4 fun a0 => Prim.run .mov [a0]) fun t5 =>
  Option.bind (chk t5 fun a0 => Prim.run (.bin .geq) [a0, (.int .i64 0)]) fun t6 =>
  chk t6 fun c0 => isB c0
 (Option.bind (chk t3 fun a0 => Prim.run .mov [a0]) fun t9 =>
  Option.bind (chk t0 fun a0 => Prim.run .mov [a0]) fun t10 =>
  Option.bind (chk t4 fun a0 => Prim.run .mov [a0]) fun t11 =>
  Option.bind (chk t11 fun a0 => Prim.run (.toInt .u64) [a0]) fun t12 =>
  Option.bind (chk t10 fun a0 => chk t12 fun a1 => Prim.run (.bin .shr) [a0, a1]) fun t13 =>
  Option.bind (chk t13 fun a0 => Prim.run (.toInt .u8) [a0]) fun t14 =>
  Option.bind (chk t14 fun a0 => Prim.run (.buildSl (.int .u8 0) 1 [0]) [a0]) fun t15 =>
  Option.bind (chk t9 fun a0 => chk t15 fun a1 => Prim.run (.app 1) [a0, a1]) fun t16 =>
  Option.bind (chk t16 fun a0 => Prim.run .mov [a0]) fun t3 =>
  Option.bind (chk t4 fun a0 => Prim.run .mov [a0]) fun t7 =>
  Option.bind (chk t7 fun a0 => Prim.run (.bin .sub) [a0, (.int .i64 8)]) fun t8 =>
  Option.bind (chk t8 fun a0 => Prim.run .mov [a0]) fun t4 =>
  WL75x2 t0 t3 t4 K)
 (K (.exit 0, [.undef, .undef, .undef, t3, .undef, .undef, .undef, .undef, .undef, .undef, .undef, .undef, .undef, .undef, .undef, .undef, .undef, .undef, .undef]))) = some a) : WL75x2 t0 t3 t4 K = some a := loopK_of (Eq.trans (by kernel_rfl) h)
@[simp] theorem aL75x2 (t0 t1 t2 t3 t4 t5 t6 t7 t8 t9 t10 t11 t12 t13 t14 t15 t16 t17 t18 : PV) (K : RK) : againK T kL75x2 L75x2 K (.normal, [t0, t1, t2, t3, t4, t5, t6, t7, t8, t9, t10, t11, t12, t13, t14, t15, t16, t17, t18]) = WL75x2 t0 t3 t4 K := by kernel_rfl
@[simp] theorem lA75x1 (t0 t3 : PV) (K : RK) : denK T A75x1 [t0, .undef, .undef, t3, .undef, .undef, .undef, .undef, .undef, .undef, .undef, .undef, .undef, .undef, .undef, .undef, .undef, .undef, .undef] K =
  Option.bind (Prim.run .mov [(.int .i64 56)]) fun t4 =>
  WL75x2 t0 t3 t4 (blockK 0 K) := by kernel_rfl
@[simp] theorem lB75x1 (t3 : PV) (K : RK) : denK T B75x1 [.undef, .undef, .undef, t3, .undef, .undef, .undef, .undef, .undef, .undef, .undef, .undef, .undef, .undef, .undef, .undef, .undef, .undef, .undef] K =
  Option.bind (chk t3 fun a0 => Prim.run .mov [a0]) fun t17 =>
  Option.bind (chk t17 fun a0 => Prim.run .toStr [a0]) fun t18 =>
  Option.bind (chk t18 fun a0 => Prim.run .mov [a0]) fun t2 =>
  K (.ret, [.undef, .undef, t2, .undef, .undef, .undef, .undef, .undef, .undef, .undef, .undef, .undef, .undef, .undef, .undef, .undef, .undef, .undef, .undef]) := by kernel_rfl
theorem f75 (t0 : PV) {rs : List PV} (h : (Option.bind (Prim.run .mov [(.str [])]) fun t2 =>
  Option.bind (Prim.run .mov [(.slice true [])]) fun t3 =>
  denK T A75x1 [t0, .undef, .undef, t3, .undef, .undef, .undef, .undef, .undef, .undef, .undef, .undef, .undef, .undef, .undef, .undef, .undef, .undef, .undef] (seqK T B75x1 (endK [2]))) = some rs) : Ans T 75 [t0] = some rs := call_of (T := T) c75 (Eq.trans (by kernel_rfl) h)
/-! vmfleet/vmfleetref1.Hash -/
noncomputable def WL76x2 (t0 t1 t5 : PV) (K : RK) : Option (List PV) := loopK T kL76x2 L76x2 [t0, t1, .undef, .undef, .undef, t5, .undef, .undef, .undef, .undef, .undef, .undef, .undef, .undef, .undef, .undef, .undef, .undef, .undef, .undef] K
theorem oL76x2 (t0 t1 t5 : PV) (K : RK) {a : List PV} (h : (Option.bind (chk t5 fun a0 => Prim.run .mov [a0]) fun t6 =>
  Option.bind (chk t1 fun a0 => Prim.run .mov [a0]) fun t7 =>
  Option.bind (chk t7 fun a0 => Prim.run .len [a0]) fun t8 =>
  Option.bind (chk t6 fun a0 => chk t8 fun a1 => Prim.run (.bin .lss) [a0, a1]) fun t9 =>
  chk t9 fun c0 => isB c0
 (Option.bind (chk t0 fun a0 => Prim.run .mov [a0]) fun t12 =>
  Option.bind (chk t1 fun a0 => Prim.run .mov [a0]) fun t13 =>
  Option.bind (chk t5 fun a0 => Prim.run .mov [a0]) fun t14 =>
  Option.bind (chk t13 fun a0 => chk t14 fun a1 => Prim.run .index [a0, a1]) fun t15 =>
  Option.bind (chk t15 fun a0 => Prim.run (.toInt .u64) [a0]) fun t16 =>
  Option.bind (chk t12 fun a0 => chk t16 fun a1 => Prim.run (.bin .xor) [a0, a1]) fun t17 =>
  Option.bind (chk t17 fun a0 => Prim.run (.bin .mul) [a0, (.int .u64 1099511628211)]) fun t18 =>
  Option.bind (chk t18 fun a0 => Prim.run .mov [a0]) fun t0 =>
  Option.bind (chk t5 fun a0 => Prim.run .mov [a0]) fun t10 =>
  Option.bind (chk t10 fun a0 => Prim.run (.bin .add) [a0, (.int .i64 1)]) fun t11 =>
  Option.bind (chk t11 fun a0 => Prim.run .mov [a0]) fun t5 =>
  WL76x2 t0 t1 t5 K)
 (K (.exit 0, [t0, .undef, .undef, .undef, .undef, .undef, .undef, .undef, .undef, .undef, .undef, .undef, .undef, .undef, .undef, .undef, .undef, .undef, .undef, .undef]))) = some a) : WL76x2 t0 t1 t5 K = some a := loopK_of (Eq.trans (by kernel_rfl) h)
@[simp] theorem aL76x2 (t0 t1 t2 t3 t4 t5 t6 t7 t8 t9 t10 t11 t12 t13 t14 t15 t16 t17 t18 t19 : PV) (K : RK) : againK T kL76x2 L76x2 K (.normal, [t0, t1, t2, t3, t4, t5, t6, t7, t8, t9, t10, t11, t12, t13, t14, t15, t16, t17, t18, t19]) = WL76x2 t0 t1 t5 K := by kernel_rfl
@[simp] theorem lA76x1 (t0 t1 : PV) (K : RK) : denK T A76x1 [t0, t1, .undef, .undef, .undef, .undef, .undef, .undef, .undef, .undef, .undef, .undef, .undef, .undef, .undef, .undef, .undef, .undef, .undef, .undef] K =
  Option.bind (Prim.run .mov [(.int .i64 0)]) fun t5 =>
  WL76x2 t0 t1 t5 (blockK 0 K) := by kernel_rfl
@[simp] theorem lB76x1 (t0 : PV) (K : RK) : denK T B76x1 [t0, .undef, .undef, .undef, .undef, .undef, .undef, .undef, .undef, .undef, .undef, .undef, .undef, .undef, .undef, .undef, .undef, .undef, .undef, .undef] K =
  Option.bind (chk t0 fun a0 => Prim.run .mov [a0]) fun t19 =>
  Option.bind (chk t19 fun a0 => Prim.run .mov [a0]) fun t4 =>
  K (.ret, [.undef, .undef, .undef, .undef, t4, .undef, .undef, .undef, .undef, .undef, .undef, .undef, .undef, .undef, .undef, .undef, .undef, .undef, .undef, .undef]) := by kernel_rfl
theorem f76 (t0 t1 : PV) {rs : List PV} (h : (Option.bind (Prim.run .mov [(.int .u64 0)]) fun t4 =>
  denK T A76x1 [t0, t1, .undef, .undef, .undef, .undef, .undef, .undef, .undef, .undef, .undef, .undef, .undef, .undef, .undef, .undef, .undef, .undef, .undef, .undef] (seqK T B76x1 (endK [4]))) = some rs) : Ans T 76 [t0, t1] = some rs := call_of (T := T) c76 (Eq.trans (by kernel_rfl) h)
/-! (*vmfleet/vmfleetref19.reader).number -/
theorem f77 (t0 : PV) {rs : List PV} (h : (Option.bind (Prim.run .mov [(.int .u64 0)]) fun t2 =>
  Option.bind (Prim.run .mov [(.ptr [])]) fun t7 =>
  Option.bind (chk t7 fun a0 => Prim.run .mov [a0]) fun t8 =>
  Option.bind (chk t8 fun a0 => Prim.run (.fptr 0) [a0]) fun t9 =>
  Option.bind (chk t0 fun a0 => chk t9 fun a1 => Prim.run .load [a0, a1]) fun t10 =>
  Option.bind (chk t10 fun a0 => Option.bind (Ans T 90 [a0]) fun rs => retV 3 rs) fun t11 =>
  Option.bind (chk t11 fun a0 => Prim.run .mov [a0]) fun t6 =>
  Option.bind (chk t6 fun a0 => Prim.run (.ext 0) [a0]) fun t12 =>
  Option.bind (chk t6 fun a0 => Prim.run (.ext 1) [a0]) fun t13 =>
  Option.bind (chk t6 fun a0 => Prim.run (.ext 2) [a0]) fun t14 =>
  Option.bind (chk t12 fun a0 => Prim.run .mov [a0]) fun t3 =>
  Option.bind (chk t13 fun a0 => Prim.run .mov [a0]) fun t4 =>
  Option.bind (chk t14 fun a0 => Prim.run .mov [a0]) fun t5 =>
  Option.bind (Prim.run .mov [(.ptr [])]) fun t15 =>
  Option.bind (chk t15 fun a0 => Prim.run .mov [a0]) fun t16 =>
  Option.bind (chk t16 fun a0 => Prim.run (.fptr 1) [a0]) fun t17 =>
  Option.bind (chk t0 fun a0 => chk t17 fun a1 => Prim.run .load [a0, a1]) fun t18 =>
  Option.bind (chk t18 fun a0 => Prim.run .mov [a0]) fun t19 =>
  Option.bind (grd t19 false (chk t5 fun a0 => Prim.run .mov [a0])) fun t20 =>
  Option.bind (grd t19 false (chk t20 fun a0 => Prim.run (.un .not) [a0])) fun t21 =>
  Option.bind (chk t19 fun a0 => isB a0 (some (.bool true)) (chk t21 fun a1 => some a1)) fun t22 =>
  chk t22 fun c0 => isB c0
 (Option.bind (Prim.run .mov [(.ptr [])]) fun t23 =>
  Option.bind (chk t23 fun a0 => Prim.run .mov [a0]) fun t24 =>
  Option.bind (chk t24 fun a0 => Prim.run (.fptr 1) [a0]) fun t25 =>
  asPath t25 fun q0 => chk t0 fun y0 => Option.bind (setP q0 y0 (.bool true)) fun t0 =>
  Option.bind (Prim.run .mov [(.int .u64 0)]) fun t2 =>
  allDef [t2, t0])
 (Option.bind (Prim.run .mov [(.ptr [])]) fun t26 =>
  Option.bind (Prim.run .mov [(.ptr [])]) fun t27 =>
  Option.bind (chk t27 fun a0 => Prim.run .mov [a0]) fun t28 =>
  Option.bind (chk t28 fun a0 => Prim.run (.fptr 0) [a0]) fun t29 =>
  Option.bind (chk t0 fun a0 => chk t29 fun a1 => Prim.run .load [a0, a1]) fun t30 =>
  Option.bind (chk t4 fun a0 => Prim.run .mov [a0]) fun t31 =>
  Option.bind (chk t30 fun a0 => chk t31 fun a1 => Prim.run (.sl true false) [a0, a1]) fun t32 =>
  Option.bind (chk t26 fun a0 => Prim.run .mov [a0]) fun t33 =>
  Option.bind (chk t33 fun a0 => Prim.run (.fptr 0) [a0]) fun t34 =>
  chk t32 fun a0 => asPath t34 fun q0 => chk t0 fun y0 => Option.bind (setP q0 y0 a0) fun t0 =>
  Option.bind (chk t3 fun a0 => Prim.run .mov [a0]) fun t35 =>
  Option.bind (chk t35 fun a0 => Prim.run .mov [a0]) fun t2 =>
  allDef [t2, t0])) = some rs) : Ans T 77 [t0] = some rs := call_of (T := T) c77 (Eq.trans (by kernel_rfl) h)
/-! (*vmfleet/vmfleetref19.reader).bytes -/
theorem f78 (t0 t1 : PV) {rs : List PV} (h : (Option.bind (Prim.run .mov [(.str [])]) fun t4 =>
  Option.bind (Prim.run .mov [(.ptr [])]) fun t6 =>
  Option.bind (chk t6 fun a0 => Prim.run .mov [a0]) fun t7 =>
  Option.bind (chk t7 fun a0 => Prim.run (.fptr 1) [a0]) fun t8 =>
  Option.bind (chk t0 fun a0 => chk t8 fun a1 => Prim.run .load [a0, a1]) fun t9 =>
  Option.bind (chk t9 fun a0 => Prim.run .mov [a0]) fun t10 =>
  Option.bind (grd t10 false (chk t1 fun a0 => Prim.run .mov [a0])) fun t11 =>
  Option.bind (grd t10 false (Prim.run .mov [(.ptr [])])) fun t12 =>
  Option.bind (grd t10 false (chk t12 fun a0 => Prim.run .mov [a0])) fun t13 =>
  Option.bind (grd t10 false (chk t13 fun a0 => Prim.run (.fptr 0) [a0])) fun t14 =>
  Option.bind (grd t10 false (chk t0 fun a0 => chk t14 fun a1 => Prim.run .load [a0, a1])) fun t15 =>
  Option.bind (grd t10 false (chk t15 fun a0 => Prim.run .len [a0])) fun t16 =>
  Option.bind (grd t10 false (chk t16 fun a0 => Prim.run (.toInt .u64) [a0])) fun t17 =>
  Option.bind (grd t10 false (chk t11 fun a0 => chk t17 fun a1 => Prim.run (.bin .gtr) [a0, a1])) fun t18 =>
  Option.bind (chk t10 fun a0 => isB a0 (some (.bool true)) (chk t18 fun a1 => some a1)) fun t19 =>
  chk t19 fun c0 => isB c0
 (Option.bind (Prim.run .mov [(.ptr [])]) fun t20 =>
  Option.bind (chk t20 fun a0 => Prim.run .mov [a0]) fun t21 =>
  Option.bind (chk t21 fun a0 => Prim.run (.fptr 1) [a0]) fun t22 =>
  asPath t22 fun q0 => chk t0 fun y0 => Option.bind (setP q0 y0 (.bool true)) fun t0 =>
  Option.bind (Prim.run .mov [(.str [])]) fun t4 =>
  allDef [t4, t0])
 (Option.bind (Prim.run .mov [(.ptr [])]) fun t23 =>
  Option.bind (chk t23 fun a0 => Prim.run .mov [a0]) fun t24 =>
  Option.bind (chk t24 fun a0 => Prim.run (.fptr 0) [a0]) fun t25 =>
  Option.bind (chk t0 fun a0 => chk t25 fun a1 => Prim.run .load [a0, a1]) fun t26 =>
  Option.bind (chk t1 fun a0 => Prim.run .mov [a0]) fun t27 =>
  Option.bind (chk t26 fun a0 => chk t27 fun a1 => Prim.run (.sl false true) [a0, a1]) fun t28 =>
  Option.bind (chk t28 fun a0 => Prim.run .mov [a0]) fun t5 =>
  Option.bind (Prim.run .mov [(.ptr [])]) fun t29 =>
  Option.bind (Prim.run .mov [(.ptr [])]) fun t30 =>
  Option.bind (chk t30 fun a0 => Prim.run .mov [a0]) fun t31 =>
  Option.bind (chk t31 fun a0 => Prim.run (.fptr 0) [a0]) fun t32 =>
  Option.bind (chk t0 fun a0 => chk t32 fun a1 => Prim.run .load [a0, a1]) fun t33 =>
  Option.bind (chk t1 fun a0 => Prim.run .mov [a0]) fun t34 =>
  Option.bind (chk t33 fun a0 => chk t34 fun a1 => Prim.run (.sl true false) [a0, a1]) fun t35 =>
  Option.bind (chk t29 fun a0 => Prim.run .mov [a0]) fun t36 =>
  Option.bind (chk t36 fun a0 => Prim.run (.fptr 0) [a0]) fun t37 =>
  chk t35 fun a0 => asPath t37 fun q0 => chk t0 fun y0 => Option.bind (setP q0 y0 a0) fun t0 =>
  Option.bind (chk t5 fun a0 => Prim.run .mov [a0]) fun t38 =>
  Option.bind (chk t38 fun a0 => Prim.run .mov [a0]) fun t4 =>
  allDef [t4, t0])) = some rs) : Ans T 78 [t0, t1] = some rs := call_of (T := T) c78 (Eq.trans (by kernel_rfl) h)
/-! vmfleet/vmfleetref1.Uvarint -/
noncomputable def WL90x2 (t0 t5 t6 : PV) (K : RK) : Option (List PV) := loopK T kL90x2 L90x2 [t0, .undef, .undef, .undef, .undef, t5, t6, .undef, .undef, .undef, .undef, .undef, .undef, .undef, .undef, .undef, .undef, .undef, .undef, .undef, .undef, .undef, .undef, .undef, .undef, .undef, .undef, .undef, .undef, .undef, .undef, .undef, .undef, .undef, .undef, .undef, .undef, .undef, .undef, .undef, .undef, .undef, .undef, .undef, .undef, .undef, .undef] K
theorem oL90x2 (t0 t5 t6 : PV) (K : RK) {a : List PV} (h : (Option.bind (chk t6 fun a0 => Prim.run .mov [a0]) fun t8 =>
  Option.bind (chk t0 fun a0 => Prim.run .mov [a0]) fun t9 =>
  Option.bind (chk t9 fun a0 => Prim.run .len [a0]) fun t10 =>
  Option.bind (chk t8 fun a0 => chk t10 fun a1 => Prim.run (.bin .lss) [a0, a1]) fun t11 =>
  Option.bind (chk t11 fun a0 => Prim.run .mov [a0]) fun t12 =>
  Option.bind (grd t12 true (chk t6 fun a0 => Prim.run .mov [a0])) fun t13 =>
  Option.bind (grd t12 true (chk t13 fun a0 => Prim.run (.bin .lss) [a0, (.int .i64 10)])) fun t14 =>
  Option.bind (chk t12 fun a0 => isB a0 (chk t14 fun a1 => some a1) (some (.bool false))) fun t15 =>
  chk t15 fun c0 => isB c0
 (Option.bind (chk t0 fun a0 => Prim.run .mov [a0]) fun t18 =>
  Option.bind (chk t6 fun a0 => Prim.run .mov [a0]) fun t19 =>
  Option.bind (chk t18 fun a0 => chk t19 fun a1 => Prim.run .index [a0, a1]) fun t20 =>
  Option.bind (chk t20 fun a0 => Prim.run (.toInt .u64) [a0]) fun t21 =>
  Option.bind (chk t21 fun a0 => Prim.run .mov [a0]) fun t7 =>
  Option.bind (chk t6 fun a0 => Prim.run .mov [a0]) fun t22 =>
  Option.bind (chk t22 fun a0 => Prim.run (.bin .eql) [a0, (.int .i64 9)]) fun t23 =>
  Option.bind (chk t23 fun a0 => Prim.run .mov [a0]) fun t24 =>
  Option.bind (grd t24 true (chk t7 fun a0 => Prim.run .mov [a0])) fun t25 =>
  Option.bind (grd t24 true (chk t25 fun a0 => Prim.run (.bin .gtr) [a0, (.int .u64 1)])) fun t26 =>
  Option.bind (chk t24 fun a0 => isB a0 (chk t26 fun a1 => some a1) (some (.bool false))) fun t27 =>
  chk t27 fun c0 => isB c0
 (Option.bind (Prim.run .mov [(.int .u64 0)]) fun t2 =>
  Option.bind (Prim.run .mov [(.int .i64 0)]) fun t3 =>
  Option.bind (Prim.run .mov [(.bool false)]) fun t4 =>
  K (.ret, [.undef, .undef, t2, t3, t4, .undef, .undef, .undef, .undef, .undef, .undef, .undef, .undef, .undef, .undef, .undef, .undef, .undef, .undef, .undef, .undef, .undef, .undef, .undef, .undef, .undef, .undef, .undef, .undef, .undef, .undef, .undef, .undef, .undef, .undef, .undef, .undef, .undef, .undef, .undef, .undef, .undef, .undef, .undef, .undef, .undef, .undef]))
 (Option.bind (chk t5 fun a0 => Prim.run .mov [a0]) fun t28 =>
  Option.bind (chk t7 fun a0 => Prim.run .mov [a0]) fun t29 =>
  Option.bind (chk t29 fun a0 => Prim.run (.bin .and) [a0, (.int .u64 127)]) fun t30 =>
  Option.bind (chk t6 fun a0 => Prim.run .mov [a0]) fun t31 =>
  Option.bind (chk t31 fun a1 => Prim.run (.bin .mul) [(.int .i64 7), a1]) fun t32 =>
  Option.bind (chk t32 fun a0 => Prim.run (.toInt .u64) [a0]) fun t33 =>
  Option.bind (chk t30 fun a0 => chk t33 fun a1 => Prim.run (.bin .shl) [a0, a1]) fun t34 =>
  Option.bind (chk t28 fun a0 => chk t34 fun a1 => Prim.run (.bin .or) [a0, a1]) fun t35 =>
  Option.bind (chk t35 fun a0 => Prim.run .mov [a0]) fun t5 =>
  Option.bind (chk t7 fun a0 => Prim.run .mov [a0]) fun t36 =>
  Option.bind (chk t36 fun a0 => Prim.run (.bin .lss) [a0, (.int .u64 128)]) fun t37 =>
  chk t37 fun c0 => isB c0
 (Option.bind (chk t6 fun a0 => Prim.run .mov [a0]) fun t38 =>
  Option.bind (chk t38 fun a0 => Prim.run (.bin .gtr) [a0, (.int .i64 0)]) fun t39 =>
  Option.bind (chk t39 fun a0 => Prim.run .mov [a0]) fun t40 =>
  Option.bind (grd t40 true (chk t7 fun a0 => Prim.run .mov [a0])) fun t41 =>
  Option.bind (grd t40 true (chk t41 fun a0 => Prim.run (.bin .eql) [a0, (.int .u64 0)])) fun t42 =>
  Option.bind (chk t40 fun a0 => isB a0 (chk t42 fun a1 => some a1) (some (.bool false))) fun t43 =>
  chk t43 fun c0 => isB c0
 (Option.bind (Prim.run .mov [(.int .u64 0)]) fun t2 =>
  Option.bind (Prim.run .mov [(.int .i64 0)]) fun t3 =>
  Option.bind (Prim.run .mov [(.bool false)]) fun t4 =>
  K (.ret, [.undef, .undef, t2, t3, t4, .undef, .undef, .undef, .undef, .undef, .undef, .undef, .undef, .undef, .undef, .undef, .undef, .undef, .undef, .undef, .undef, .undef, .undef, .undef, .undef, .undef, .undef, .undef, .undef, .undef, .undef, .undef, .undef, .undef, .undef, .undef, .undef, .undef, .undef, .undef, .undef, .undef, .undef, .undef, .undef, .undef, .undef]))
 (Option.bind (chk t5 fun a0 => Prim.run .mov [a0]) fun t44 =>
  Option.bind (chk t6 fun a0 => Prim.run .mov [a0]) fun t45 =>
  Option.bind (chk t45 fun a0 => Prim.run (.bin .add) [a0, (.int .i64 1)]) fun t46 =>
  Option.bind (chk t44 fun a0 => Prim.run .mov [a0]) fun t2 =>
  Option.bind (chk t46 fun a0 => Prim.run .mov [a0]) fun t3 =>
  Option.bind (Prim.run .mov [(.bool true)]) fun t4 =>
  K (.ret, [.undef, .undef, t2, t3, t4, .undef, .undef, .undef, .undef, .undef, .undef, .undef, .undef, .undef, .undef, .undef, .undef, .undef, .undef, .undef, .undef, .undef, .undef, .undef, .undef, .undef, .undef, .undef, .undef, .undef, .undef, .undef, .undef, .undef, .undef, .undef, .undef, .undef, .undef, .undef, .undef, .undef, .undef, .undef, .undef, .undef, .undef])))
 (Option.bind (chk t6 fun a0 => Prim.run .mov [a0]) fun t16 =>
  Option.bind (chk t16 fun a0 => Prim.run (.bin .add) [a0, (.int .i64 1)]) fun t17 =>
  Option.bind (chk t17 fun a0 => Prim.run .mov [a0]) fun t6 =>
  WL90x2 t0 t5 t6 K)))
 (K (.exit 0, [.undef, .undef, .undef, .undef, .undef, .undef, .undef, .undef, .undef, .undef, .undef, .undef, .undef, .undef, .undef, .undef, .undef, .undef, .undef, .undef, .undef, .undef, .undef, .undef, .undef, .undef, .undef, .undef, .undef, .undef, .undef, .undef, .undef, .undef, .undef, .undef, .undef, .undef, .undef, .undef, .undef, .undef, .undef, .undef, .undef, .undef, .undef]))) = some a) : WL90x2 t0 t5 t6 K = some a := loopK_of (Eq.trans (by kernel_rfl) h)
@[simp] theorem aL90x2 (t0 t1 t2 t3 t4 t5 t6 t7 t8 t9 t10 t11 t12 t13 t14 t15 t16 t17 t18 t19 t20 t21 t22 t23 t24 t25 t26 t27 t28 t29 t30 t31 t32 t33 t34 t35 t36 t37 t38 t39 t40 t41 t42 t43 t44 t45 t46 : PV) (K : RK) : againK T kL90x2 L90x2 K (.normal, [t0, t1, t2, t3, t4, t5, t6, t7, t8, t9, t10, t11, t12, t13, t14, t15, t16, t17, t18, t19, t20, t21, t22, t23, t24, t25, t26, t27, t28, t29, t30, t31, t32, t33, t34, t35, t36, t37, t38, t39, t40, t41, t42, t43, t44, t45, t46]) = WL90x2 t0 t5 t6 K := by kernel_rfl
@[simp] theorem lA90x1 (t0 t5 : PV) (K : RK) : denK T A90x1 [t0, .undef, .undef, .undef, .undef, t5, .undef, .undef, .undef, .undef, .undef, .undef, .undef, .undef, .undef, .undef, .undef, .undef, .undef, .undef, .undef, .undef, .undef, .undef, .undef, .undef, .undef, .undef, .undef, .undef, .undef, .undef, .undef, .undef, .undef, .undef, .undef, .undef, .undef, .undef, .undef, .undef, .undef, .undef, .undef, .undef, .undef] K =
  Option.bind (Prim.run .mov [(.int .i64 0)]) fun t6 =>
  WL90x2 t0 t5 t6 (blockK 0 K) := by kernel_rfl
@[simp] theorem lB90x1 (K : RK) : denK T B90x1 [.undef, .undef, .undef, .undef, .undef, .undef, .undef, .undef, .undef, .undef, .undef, .undef, .undef, .undef, .undef, .undef, .undef, .undef, .undef, .undef, .undef, .undef, .undef, .undef, .undef, .undef, .undef, .undef, .undef, .undef, .undef, .undef, .undef, .undef, .undef, .undef, .undef, .undef, .undef, .undef, .undef, .undef, .undef, .undef, .undef, .undef, .undef] K =
  Option.bind (Prim.run .mov [(.int .u64 0)]) fun t2 =>
  Option.bind (Prim.run .mov [(.int .i64 0)]) fun t3 =>
  Option.bind (Prim.run .mov [(.bool false)]) fun t4 =>
  K (.ret, [.undef, .undef, t2, t3, t4, .undef, .undef, .undef, .undef, .undef, .undef, .undef, .undef, .undef, .undef, .undef, .undef, .undef, .undef, .undef, .undef, .undef, .undef, .undef, .undef, .undef, .undef, .undef, .undef, .undef, .undef, .undef, .undef, .undef, .undef, .undef, .undef, .undef, .undef, .undef, .undef, .undef, .undef, .undef, .undef, .undef, .undef]) := by kernel_rfl
theorem f90 (t0 : PV) {rs : List PV} (h : (Option.bind (Prim.run .mov [(.int .u64 0)]) fun t2 =>
  Option.bind (Prim.run .mov [(.int .i64 0)]) fun t3 =>
  Option.bind (Prim.run .mov [(.bool false)]) fun t4 =>
  Option.bind (Prim.run .mov [(.int .u64 0)]) fun t5 =>
  denK T A90x1 [t0, .undef, .undef, .undef, .undef, t5, .undef, .undef, .undef, .undef, .undef, .undef, .undef, .undef, .undef, .undef, .undef, .undef, .undef, .undef, .undef, .undef, .undef, .undef, .undef, .undef, .undef, .undef, .undef, .undef, .undef, .undef, .undef, .undef, .undef, .undef, .undef, .undef, .undef, .undef, .undef, .undef, .undef, .undef, .undef, .undef, .undef] (seqK T B90x1 (endK [2, 3, 4]))) = some rs) : Ans T 90 [t0] = some rs := call_of (T := T) c90 (Eq.trans (by kernel_rfl) h)
/-! vmfleet/vmfleetref1.Next -/
theorem f91 (t0 : PV) {rs : List PV} (h : (Option.bind (Prim.run .mov [(.int .u64 0)]) fun t2 =>
  Option.bind (Prim.run .mov [(.int .u64 0)]) fun t3 =>
  Option.bind (chk t0 fun a0 => Prim.run .mov [a0]) fun t6 =>
  Option.bind (chk t6 fun a0 => Prim.run (.bin .add) [a0, (.int .u64 11400714819323198485)]) fun t7 =>
  Option.bind (chk t7 fun a0 => Prim.run .mov [a0]) fun t4 =>
  Option.bind (chk t4 fun a0 => Prim.run .mov [a0]) fun t8 =>
  Option.bind (chk t4 fun a0 => Prim.run .mov [a0]) fun t9 =>
  Option.bind (chk t9 fun a0 => Prim.run (.bin .shr) [a0, (.int .u64 30)]) fun t10 =>
  Option.bind (chk t8 fun a0 => chk t10 fun a1 => Prim.run (.bin .xor) [a0, a1]) fun t11 =>
  Option.bind (chk t11 fun a0 => Prim.run (.bin .mul) [a0, (.int .u64 13787848793156543929)]) fun t12 =>
  Option.bind (chk t12 fun a0 => Prim.run .mov [a0]) fun t5 =>
  Option.bind (chk t5 fun a0 => Prim.run .mov [a0]) fun t13 =>
  Option.bind (chk t5 fun a0 => Prim.run .mov [a0]) fun t14 =>
  Option.bind (chk t14 fun a0 => Prim.run (.bin .shr) [a0, (.int .u64 27)]) fun t15 =>
  Option.bind (chk t13 fun a0 => chk t15 fun a1 => Prim.run (.bin .xor) [a0, a1]) fun t16 =>
  Option.bind (chk t16 fun a0 => Prim.run (.bin .mul) [a0, (.int .u64 10723151780598845931)]) fun t17 =>
  Option.bind (chk t17 fun a0 => Prim.run .mov [a0]) fun t5 =>
  Option.bind (chk t5 fun a0 => Prim.run .mov [a0]) fun t18 =>
  Option.bind (chk t5 fun a0 => Prim.run .mov [a0]) fun t19 =>
  Option.bind (chk t19 fun a0 => Prim.run (.bin .shr) [a0, (.int .u64 31)]) fun t20 =>
  Option.bind (chk t18 fun a0 => chk t20 fun a1 => Prim.run (.bin .xor) [a0, a1]) fun t21 =>
  Option.bind (chk t4 fun a0 => Prim.run .mov [a0]) fun t22 =>
  Option.bind (chk t21 fun a0 => Prim.run .mov [a0]) fun t2 =>
  Option.bind (chk t22 fun a0 => Prim.run .mov [a0]) fun t3 =>
  allDef [t2, t3]) = some rs) : Ans T 91 [t0] = some rs := call_of (T := T) c91 (Eq.trans (by kernel_rfl) h)
/-! vmfleet/eventlog.check -/
noncomputable def WL92x2 (t0 t1 t10 t11 t12 : PV) (K : RK) : Option (List PV) := loopK T kL92x2 L92x2 [t0, t1, .undef, .undef, .undef, .undef, .undef, .undef, .undef, .undef, t10, t11, t12, .undef, .undef, .undef, .undef, .undef, .undef, .undef, .undef, .undef, .undef, .undef, .undef, .undef, .undef, .undef, .undef, .undef, .undef, .undef, .undef, .undef, .undef, .undef, .undef] K
theorem oL92x2 (t0 t1 t10 t11 t12 : PV) (K : RK) {a : List PV} (h : (Option.bind (chk t12 fun a0 => chk t11 fun a1 => Prim.run (.bin .lss) [a0, a1]) fun t13 =>
  chk t13 fun c0 => isB c0
 (Option.bind (chk t10 fun a0 => chk t12 fun a1 => Prim.run (.iptr []) [a0, a1]) fun t14 =>
  Option.bind (chk t10 fun a0 => chk t14 fun a1 => Prim.run .load [a0, a1]) fun t15 =>
  Option.bind (Prim.run .mov [(.agg [(.int .u64 0), (.agg [(.int .i64 0), (.int .u32 0), (.str [])])])]) fun t6 =>
  chk t15 fun a0 => chk t6 fun y0 => Option.bind (setP [] y0 a0) fun t6 =>
  Option.bind (Prim.run (.fptr 1) [(.ptr [])]) fun t16 =>
  Option.bind (chk t6 fun a0 => chk t16 fun a1 => Prim.run .load [a0, a1]) fun t17 =>
  Option.bind (chk t17 fun a0 => Option.bind (Ans T 45 [a0]) fun rs => retV 1 rs) fun t18 =>
  Option.bind (chk t18 fun a0 => Prim.run (.un .not) [a0]) fun t19 =>
  chk t19 fun c0 => isB c0
 (Option.bind (Prim.run .mov [(.int .i64 1900)]) fun t4 =>
  K (.ret, [.undef, .undef, .undef, .undef, t4, .undef, .undef, .undef, .undef, .undef, .undef, .undef, .undef, .undef, .undef, .undef, .undef, .undef, .undef, .undef, .undef, .undef, .undef, .undef, .undef, .undef, .undef, .undef, .undef, .undef, .undef, .undef, .undef, .undef, .undef, .undef, .undef]))
 (Option.bind (chk t12 fun a0 => Prim.run (.bin .add) [a0, (.int .i64 1)]) fun t20 =>
  Option.bind (chk t20 fun a0 => Prim.run .mov [a0]) fun t12 =>
  WL92x2 t0 t1 t10 t11 t12 K))
 (K (.exit 0, [t0, t1, .undef, .undef, .undef, .undef, .undef, .undef, .undef, .undef, .undef, .undef, .undef, .undef, .undef, .undef, .undef, .undef, .undef, .undef, .undef, .undef, .undef, .undef, .undef, .undef, .undef, .undef, .undef, .undef, .undef, .undef, .undef, .undef, .undef, .undef, .undef]))) = some a) : WL92x2 t0 t1 t10 t11 t12 K = some a := loopK_of (Eq.trans (by kernel_rfl) h)
@[simp] theorem aL92x2 (t0 t1 t2 t3 t4 t5 t6 t7 t8 t9 t10 t11 t12 t13 t14 t15 t16 t17 t18 t19 t20 t21 t22 t23 t24 t25 t26 t27 t28 t29 t30 t31 t32 t33 t34 t35 t36 : PV) (K : RK) : againK T kL92x2 L92x2 K (.normal, [t0, t1, t2, t3, t4, t5, t6, t7, t8, t9, t10, t11, t12, t13, t14, t15, t16, t17, t18, t19, t20, t21, t22, t23, t24, t25, t26, t27, t28, t29, t30, t31, t32, t33, t34, t35, t36]) = WL92x2 t0 t1 t10 t11 t12 K := by kernel_rfl
@[simp] theorem lA92x1 (t0 t1 t9 : PV) (K : RK) : denK T A92x1 [t0, t1, .undef, .undef, .undef, .undef, .undef, .undef, .undef, t9, .undef, .undef, .undef, .undef, .undef, .undef, .undef, .undef, .undef, .undef, .undef, .undef, .undef, .undef, .undef, .undef, .undef, .undef, .undef, .undef, .undef, .undef, .undef, .undef, .undef, .undef, .undef] K =
  Option.bind (chk t0 fun a0 => Prim.run .mov [a0]) fun t10 =>
  Option.bind (chk t10 fun a0 => Prim.run .len [a0]) fun t11 =>
  Option.bind (Prim.run .mov [(.int .i64 0)]) fun t12 =>
  WL92x2 t0 t1 t10 t11 t12 (blockK 0 K) := by kernel_rfl
@[simp] theorem lB92x1 (t0 t1 : PV) (K : RK) : denK T B92x1 [t0, t1, .undef, .undef, .undef, .undef, .undef, .undef, .undef, .undef, .undef, .undef, .undef, .undef, .undef, .undef, .undef, .undef, .undef, .undef, .undef, .undef, .undef, .undef, .undef, .undef, .undef, .undef, .undef, .undef, .undef, .undef, .undef, .undef, .undef, .undef, .undef] K =
  Option.bind (chk t0 fun a0 => Prim.run .mov [a0]) fun t21 =>
  Option.bind (chk t21 fun a0 => Option.bind (Ans T 109 [a0]) fun rs => retV 1 rs) fun t22 =>
  Option.bind (chk t22 fun a0 => Prim.run (.un .not) [a0]) fun t23 =>
  Option.bind (chk t23 fun a0 => Prim.run .mov [a0]) fun t24 =>
  Option.bind (grd t24 false (chk t0 fun a0 => Prim.run .mov [a0])) fun t25 =>
  Option.bind (grd t24 false (chk t25 fun a0 => Prim.run .len [a0])) fun t26 =>
  Option.bind (grd t24 false (chk t26 fun a0 => Prim.run (.bin .gtr) [a0, (.int .i64 0)])) fun t27 =>
  Option.bind (grd t24 false (chk t27 fun a0 => Prim.run .mov [a0])) fun t28 =>
  Option.bind (grd t28 true (chk t0 fun a0 => Prim.run .mov [a0])) fun t29 =>
  Option.bind (grd t28 true (chk t29 fun a0 => Prim.run (.iptr []) [a0, (.int .i64 0)])) fun t30 =>
  Option.bind (grd t28 true (chk t30 fun a0 => Prim.run (.fptr 0) [a0])) fun t31 =>
  Option.bind (grd t28 true (chk t29 fun a0 => chk t31 fun a1 => Prim.run .load [a0, a1])) fun t32 =>
  Option.bind (grd t28 true (chk t1 fun a0 => Prim.run .mov [a0])) fun t33 =>
  Option.bind (grd t28 true (chk t32 fun a0 => chk t33 fun a1 => Prim.run (.bin .lss) [a0, a1])) fun t34 =>
  Option.bind (grd t24 false (chk t28 fun a0 => isB a0 (chk t34 fun a1 => some a1) (some (.bool false)))) fun t35 =>
  Option.bind (chk t24 fun a0 => isB a0 (some (.bool true)) (chk t35 fun a1 => some a1)) fun t36 =>
  chk t36 fun c0 => isB c0
 (Option.bind (Prim.run .mov [(.int .i64 1901)]) fun t4 =>
  K (.ret, [.undef, .undef, .undef, .undef, t4, .undef, .undef, .undef, .undef, .undef, .undef, .undef, .undef, .undef, .undef, .undef, .undef, .undef, .undef, .undef, .undef, .undef, .undef, .undef, .undef, .undef, .undef, .undef, .undef, .undef, .undef, .undef, .undef, .undef, .undef, .undef, .undef]))
 (Option.bind (Prim.run .mov [(.int .i64 0)]) fun t4 =>
  K (.ret, [.undef, .undef, .undef, .undef, t4, .undef, .undef, .undef, .undef, .undef, .undef, .undef, .undef, .undef, .undef, .undef, .undef, .undef, .undef, .undef, .undef, .undef, .undef, .undef, .undef, .undef, .undef, .undef, .undef, .undef, .undef, .undef, .undef, .undef, .undef, .undef, .undef])) := by kernel_rfl
theorem f92 (t0 t1 : PV) {rs : List PV} (h : (Option.bind (Prim.run .mov [(.int .i64 0)]) fun t4 =>
  Option.bind (chk t0 fun a0 => Prim.run .mov [a0]) fun t7 =>
  Option.bind (chk t7 fun a0 => Prim.run .len [a0]) fun t8 =>
  Option.bind (chk t8 fun a0 => Prim.run (.bin .gtr) [a0, (.int .i64 400)]) fun t9 =>
  chk t9 fun c0 => isB c0
 (Option.bind (Prim.run .mov [(.int .i64 1902)]) fun t4 =>
  allDef [t4])
 (denK T A92x1 [t0, t1, .undef, .undef, .undef, .undef, .undef, .undef, .undef, t9, .undef, .undef, .undef, .undef, .undef, .undef, .undef, .undef, .undef, .undef, .undef, .undef, .undef, .undef, .undef, .undef, .undef, .undef, .undef, .undef, .undef, .undef, .undef, .undef, .undef, .undef, .undef] (seqK T B92x1 (endK [4])))) = some rs) : Ans T 92 [t0, t1] = some rs := call_of (T := T) c92 (Eq.trans (by kernel_rfl) h)
/-! vmfleet/eventlog.encode -/
@[simp] theorem lA93x2 (t1 t3 t9 : PV) (K : RK) : denK T A93x2 [.undef, t1, .undef, t3, .undef, .undef, .undef, .undef, .undef, t9, .undef, .undef, .undef, .undef, .undef, .undef, .undef, .undef, .undef, .undef, .undef, .undef, .undef, .undef, .undef, .undef, .undef, .undef, .undef, .undef, .undef, .undef, .undef, .undef, .undef, .undef, .undef, .undef, .undef, .undef] K =
  Option.bind (chk t9 fun a0 => Prim.run (.bin .eql) [a0, (.int .i64 1)]) fun t11 =>
  Option.bind (chk t11 fun a0 => Prim.run .mov [a0]) fun t10 =>
  chk t10 fun c0 => isB c0
 (K (.normal, [.undef, t1, .undef, t3, .undef, .undef, .undef, .undef, .undef, t9, t10, .undef, .undef, .undef, .undef, .undef, .undef, .undef, .undef, .undef, .undef, .undef, .undef, .undef, .undef, .undef, .undef, .undef, .undef, .undef, .undef, .undef, .undef, .undef, .undef, .undef, .undef, .undef, .undef, .undef]))
 (Option.bind (chk t9 fun a0 => Prim.run (.bin .eql) [a0, (.int .i64 3)]) fun t12 =>
  Option.bind (chk t12 fun a0 => Prim.run .mov [a0]) fun t10 =>
  chk t10 fun c0 => isB c0
 (K (.normal, [.undef, t1, .undef, t3, .undef, .undef, .undef, .undef, .undef, t9, t10, .undef, .undef, .undef, .undef, .undef, .undef, .undef, .undef, .undef, .undef, .undef, .undef, .undef, .undef, .undef, .undef, .undef, .undef, .undef, .undef, .undef, .undef, .undef, .undef, .undef, .undef, .undef, .undef, .undef]))
 (Option.bind (chk t9 fun a0 => Prim.run (.bin .eql) [a0, (.int .i64 6)]) fun t13 =>
  Option.bind (chk t13 fun a0 => Prim.run .mov [a0]) fun t10 =>
  K (.normal, [.undef, t1, .undef, t3, .undef, .undef, .undef, .undef, .undef, t9, t10, .undef, .undef, .undef, .undef, .undef, .undef, .undef, .undef, .undef, .undef, .undef, .undef, .undef, .undef, .undef, .undef, .undef, .undef, .undef, .undef, .undef, .undef, .undef, .undef, .undef, .undef, .undef, .undef, .undef]))) := by kernel_rfl
@[simp] theorem lB93x2 (t1 t3 t9 t10 : PV) (K : RK) : denK T B93x2 [.undef, t1, .undef, t3, .undef, .undef, .undef, .undef, .undef, t9, t10, .undef, .undef, .undef, .undef, .undef, .undef, .undef, .undef, .undef, .undef, .undef, .undef, .undef, .undef, .undef, .undef, .undef, .undef, .undef, .undef, .undef, .undef, .undef, .undef, .undef, .undef, .undef, .undef, .undef] K =
  chk t10 fun c0 => isB c0
 (Option.bind (chk t3 fun a0 => Prim.run .mov [a0]) fun t14 =>
  Option.bind (Prim.run (.fptr 1) [(.ptr [])]) fun t15 =>
  Option.bind (chk t1 fun a0 => chk t15 fun a1 => Prim.run .load [a0, a1]) fun t16 =>
  Option.bind (chk t16 fun a0 => Prim.run (.toInt .u64) [a0]) fun t17 =>
  Option.bind (chk t17 fun a0 => Option.bind (Ans T 66 [a0]) fun rs => retV 1 rs) fun t18 =>
  Option.bind (chk t14 fun a0 => chk t18 fun a1 => Prim.run (.bin .add) [a0, a1]) fun t19 =>
  Option.bind (chk t19 fun a0 => Prim.run .mov [a0]) fun t3 =>
  K (.normal, [.undef, .undef, .undef, t3, .undef, .undef, .undef, .undef, .undef, .undef, .undef, .undef, .undef, .undef, .undef, .undef, .undef, .undef, .undef, .undef, .undef, .undef, .undef, .undef, .undef, .undef, .undef, .undef, .undef, .undef, .undef, .undef, .undef, .undef, .undef, .undef, .undef, .undef, .undef, .undef]))
 (Option.bind (chk t9 fun a0 => Prim.run (.bin .eql) [a0, (.int .i64 4)]) fun t21 =>
  Option.bind (chk t21 fun a0 => Prim.run .mov [a0]) fun t20 =>
  chk t20 fun c0 => isB c0
 (Option.bind (chk t3 fun a0 => Prim.run .mov [a0]) fun t22 =>
  Option.bind (Prim.run (.fptr 1) [(.ptr [])]) fun t23 =>
  Option.bind (chk t1 fun a0 => chk t23 fun a1 => Prim.run .load [a0, a1]) fun t24 =>
  Option.bind (chk t24 fun a0 => Prim.run (.toInt .u64) [a0]) fun t25 =>
  Option.bind (chk t25 fun a0 => Option.bind (Ans T 66 [a0]) fun rs => retV 1 rs) fun t26 =>
  Option.bind (Prim.run (.fptr 2) [(.ptr [])]) fun t27 =>
  Option.bind (chk t1 fun a0 => chk t27 fun a1 => Prim.run .load [a0, a1]) fun t28 =>
  Option.bind (chk t28 fun a0 => Option.bind (Ans T 71 [a0]) fun rs => retV 1 rs) fun t29 =>
  Option.bind (chk t26 fun a0 => chk t29 fun a1 => Prim.run (.bin .add) [a0, a1]) fun t30 =>
  Option.bind (chk t22 fun a0 => chk t30 fun a1 => Prim.run (.bin .add) [a0, a1]) fun t31 =>
  Option.bind (chk t31 fun a0 => Prim.run .mov [a0]) fun t3 =>
  K (.normal, [.undef, .undef, .undef, t3, .undef, .undef, .undef, .undef, .undef, .undef, .undef, .undef, .undef, .undef, .undef, .undef, .undef, .undef, .undef, .undef, .undef, .undef, .undef, .undef, .undef, .undef, .undef, .undef, .undef, .undef, .undef, .undef, .undef, .undef, .undef, .undef, .undef, .undef, .undef, .undef]))
 (Option.bind (chk t9 fun a0 => Prim.run (.bin .eql) [a0, (.int .i64 5)]) fun t33 =>
  Option.bind (chk t33 fun a0 => Prim.run .mov [a0]) fun t32 =>
  chk t32 fun c0 => isB c0
 (Option.bind (chk t3 fun a0 => Prim.run .mov [a0]) fun t34 =>
  Option.bind (Prim.run (.fptr 2) [(.ptr [])]) fun t35 =>
  Option.bind (chk t1 fun a0 => chk t35 fun a1 => Prim.run .load [a0, a1]) fun t36 =>
  Option.bind (chk t36 fun a0 => Option.bind (Ans T 71 [a0]) fun rs => retV 1 rs) fun t37 =>
  Option.bind (chk t34 fun a0 => chk t37 fun a1 => Prim.run (.bin .add) [a0, a1]) fun t38 =>
  Option.bind (chk t38 fun a0 => Prim.run .mov [a0]) fun t3 =>
  K (.normal, [.undef, .undef, .undef, t3, .undef, .undef, .undef, .undef, .undef, .undef, .undef, .undef, .undef, .undef, .undef, .undef, .undef, .undef, .undef, .undef, .undef, .undef, .undef, .undef, .undef, .undef, .undef, .undef, .undef, .undef, .undef, .undef, .undef, .undef, .undef, .undef, .undef, .undef, .undef, .undef]))
 (K (.normal, [.undef, t1, .undef, t3, .undef, .undef, .undef, .undef, .undef, .undef, .undef, .undef, .undef, .undef, .undef, .undef, .undef, .undef, .undef, .undef, .undef, .undef, .undef, .undef, .undef, .undef, .undef, .undef, .undef, .undef, .undef, .undef, t32, .undef, .undef, .undef, .undef, .undef, .undef, .undef])))) := by kernel_rfl
@[simp] theorem lA93x1 (t1 t3 : PV) (K : RK) : denK T A93x1 [.undef, t1, .undef, t3, .undef, .undef, .undef, .undef, .undef, .undef, .undef, .undef, .undef, .undef, .undef, .undef, .undef, .undef, .undef, .undef, .undef, .undef, .undef, .undef, .undef, .undef, .undef, .undef, .undef, .undef, .undef, .undef, .undef, .undef, .undef, .undef, .undef, .undef, .undef, .undef] K =
  Option.bind (Prim.run (.fptr 0) [(.ptr [])]) fun t8 =>
  Option.bind (chk t1 fun a0 => chk t8 fun a1 => Prim.run .load [a0, a1]) fun t9 =>
  denK T A93x2 [.undef, t1, .undef, t3, .undef, .undef, .undef, .undef, .undef, t9, .undef, .undef, .undef, .undef, .undef, .undef, .undef, .undef, .undef, .undef, .undef, .undef, .undef, .undef, .undef, .undef, .undef, .undef, .undef, .undef, .undef, .undef, .undef, .undef, .undef, .undef, .undef, .undef, .undef, .undef] (seqK T B93x2 (blockK 0 K)) := by kernel_rfl
@[simp] theorem lB93x1 (t1 t3 t32 : PV) (K : RK) : denK T B93x1 [.undef, t1, .undef, t3, .undef, .undef, .undef, .undef, .undef, .undef, .undef, .undef, .undef, .undef, .undef, .undef, .undef, .undef, .undef, .undef, .undef, .undef, .undef, .undef, .undef, .undef, .undef, .undef, .undef, .undef, .undef, .undef, t32, .undef, .undef, .undef, .undef, .undef, .undef, .undef] K =
  Option.bind (chk t3 fun a0 => Prim.run .mov [a0]) fun t39 =>
  Option.bind (chk t39 fun a0 => Prim.run .mov [a0]) fun t2 =>
  K (.ret, [.undef, t1, t2, .undef, .undef, .undef, .undef, .undef, .undef, .undef, .undef, .undef, .undef, .undef, .undef, .undef, .undef, .undef, .undef, .undef, .undef, .undef, .undef, .undef, .undef, .undef, .undef, .undef, .undef, .undef, .undef, .undef, t32, .undef, .undef, .undef, .undef, .undef, .undef, .undef]) := by kernel_rfl
theorem f93 (t0 : PV) {rs : List PV} (h : (Option.bind (chk t0 fun a0 => Prim.run .mov [a0]) fun t1 =>
  Option.bind (Prim.run .mov [(.str [])]) fun t2 =>
  Option.bind (Prim.run (.fptr 0) [(.ptr [])]) fun t4 =>
  Option.bind (chk t1 fun a0 => chk t4 fun a1 => Prim.run .load [a0, a1]) fun t5 =>
  Option.bind (chk t5 fun a0 => Prim.run (.toInt .u64) [a0]) fun t6 =>
  Option.bind (chk t6 fun a0 => Option.bind (Ans T 66 [a0]) fun rs => retV 1 rs) fun t7 =>
  Option.bind (chk t7 fun a0 => Prim.run .mov [a0]) fun t3 =>
  denK T A93x1 [.undef, t1, .undef, t3, .undef, .undef, .undef, .undef, .undef, .undef, .undef, .undef, .undef, .undef, .undef, .undef, .undef, .undef, .undef, .undef, .undef, .undef, .undef, .undef, .undef, .undef, .undef, .undef, .undef, .undef, .undef, .undef, .undef, .undef, .undef, .undef, .undef, .undef, .undef, .undef] (seqK T B93x1 (endK [2]))) = some rs) : Ans T 93 [t0] = some rs := call_of (T := T) c93 (Eq.trans (by kernel_rfl) h)
/-! vmfleet/bits.Hash -/
noncomputable def WL94x2 (t0 t1 t7 t8 : PV) (K : RK) : Option (List PV) := loopK T kL94x2 L94x2 [t0, t1, .undef, .undef, .undef, .undef, .undef, t7, t8, .undef, .undef, .undef, .undef, .undef, .undef, .undef, .undef, .undef, .undef, .undef] K
theorem oL94x2 (t0 t1 t7 t8 : PV) (K : RK) {a : List PV} (h : (Option.bind (chk t8 fun a0 => chk t7 fun a1 => Prim.run (.bin .lss) [a0, a1]) fun t9 =>
  chk t9 fun c0 => isB c0
 (Option.bind (chk t8 fun a0 => Prim.run .mov [a0]) fun t10 =>
  Option.bind (chk t10 fun a0 => Prim.run .mov [a0]) fun t5 =>
  Option.bind (chk t0 fun a0 => Prim.run .mov [a0]) fun t11 =>
  Option.bind (chk t1 fun a0 => Prim.run .mov [a0]) fun t12 =>
  Option.bind (chk t5 fun a0 => Prim.run .mov [a0]) fun t13 =>
  Option.bind (chk t12 fun a0 => chk t13 fun a1 => Prim.run .index [a0, a1]) fun t14 =>
  Option.bind (chk t14 fun a0 => Prim.run (.toInt .u64) [a0]) fun t15 =>
  Option.bind (chk t11 fun a0 => chk t15 fun a1 => Prim.run (.bin .xor) [a0, a1]) fun t16 =>
  Option.bind (chk t16 fun a0 => Prim.run (.bin .mul) [a0, (.int .u64 1099511628211)]) fun t17 =>
  Option.bind (chk t17 fun a0 => Prim.run .mov [a0]) fun t0 =>
  Option.bind (chk t8 fun a0 => Prim.run (.bin .add) [a0, (.int .i64 1)]) fun t18 =>
  Option.bind (chk t18 fun a0 => Prim.run .mov [a0]) fun t8 =>
  WL94x2 t0 t1 t7 t8 K)
 (K (.exit 0, [t0, .undef, .undef, .undef, .undef, .undef, .undef, .undef, .undef, .undef, .undef, .undef, .undef, .undef, .undef, .undef, .undef, .undef, .undef, .undef]))) = some a) : WL94x2 t0 t1 t7 t8 K = some a := loopK_of (Eq.trans (by kernel_rfl) h)
@[simp] theorem aL94x2 (t0 t1 t2 t3 t4 t5 t6 t7 t8 t9 t10 t11 t12 t13 t14 t15 t16 t17 t18 t19 : PV) (K : RK) : againK T kL94x2 L94x2 K (.normal, [t0, t1, t2, t3, t4, t5, t6, t7, t8, t9, t10, t11, t12, t13, t14, t15, t16, t17, t18, t19]) = WL94x2 t0 t1 t7 t8 K := by kernel_rfl
@[simp] theorem lA94x1 (t0 t1 : PV) (K : RK) : denK T A94x1 [t0, t1, .undef, .undef, .undef, .undef, .undef, .undef, .undef, .undef, .undef, .undef, .undef, .undef, .undef, .undef, .undef, .undef, .undef, .undef] K =
  Option.bind (chk t1 fun a0 => Prim.run .mov [a0]) fun t6 =>
  Option.bind (chk t6 fun a0 => Prim.run .len [a0]) fun t7 =>
  Option.bind (Prim.run .mov [(.int .i64 0)]) fun t8 =>
  WL94x2 t0 t1 t7 t8 (blockK 0 K) := by kernel_rfl
@[simp] theorem lB94x1 (t0 : PV) (K : RK) : denK T B94x1 [t0, .undef, .undef, .undef, .undef, .undef, .undef, .undef, .undef, .undef, .undef, .undef, .undef, .undef, .undef, .undef, .undef, .undef, .undef, .undef] K =
  Option.bind (chk t0 fun a0 => Prim.run .mov [a0]) fun t19 =>
  Option.bind (chk t19 fun a0 => Prim.run .mov [a0]) fun t4 =>
  K (.ret, [.undef, .undef, .undef, .undef, t4, .undef, .undef, .undef, .undef, .undef, .undef, .undef, .undef, .undef, .undef, .undef, .undef, .undef, .undef, .undef]) := by kernel_rfl
theorem f94 (t0 t1 : PV) {rs : List PV} (h : (Option.bind (Prim.run .mov [(.int .u64 0)]) fun t4 =>
  denK T A94x1 [t0, t1, .undef, .undef, .undef, .undef, .undef, .undef, .undef, .undef, .undef, .undef, .undef, .undef, .undef, .undef, .undef, .undef, .undef, .undef] (seqK T B94x1 (endK [4]))) = some rs) : Ans T 94 [t0, t1] = some rs := call_of (T := T) c94 (Eq.trans (by kernel_rfl) h)
/-! vmfleet/bare.Ordered -/
noncomputable def WL109x2 (t0 t3 : PV) (K : RK) : Option (List PV) := loopK T kL109x2 L109x2 [t0, .undef, .undef, t3, .undef, .undef, .undef, .undef, .undef, .undef, .undef, .undef, .undef, .undef, .undef, .undef, .undef, .undef, .undef, .undef, .undef, .undef, .undef, .undef, .undef, .undef, .undef, .undef, .undef, .undef, .undef, .undef, .undef, .undef, .undef, .undef, .undef, .undef, .undef] K
theorem oL109x2 (t0 t3 : PV) (K : RK) {a : List PV} (h : (Option.bind (chk t3 fun a0 => Prim.run .mov [a0]) fun t6 =>
  Option.bind (chk t0 fun a0 => Prim.run .mov [a0]) fun t7 =>
  Option.bind (chk t7 fun a0 => Prim.run .len [a0]) fun t8 =>
  Option.bind (chk t6 fun a0 => chk t8 fun a1 => Prim.run (.bin .lss) [a0, a1]) fun t9 =>
  chk t9 fun c0 => isB c0
 (Option.bind (chk t0 fun a0 => Prim.run .mov [a0]) fun t12 =>
  Option.bind (chk t3 fun a0 => Prim.run .mov [a0]) fun t13 =>
  Option.bind (chk t13 fun a0 => Prim.run (.bin .sub) [a0, (.int .i64 1)]) fun t14 =>
  Option.bind (chk t12 fun a0 => chk t14 fun a1 => Prim.run (.iptr []) [a0, a1]) fun t15 =>
  Option.bind (chk t12 fun a0 => chk t15 fun a1 => Prim.run .load [a0, a1]) fun t16 =>
  Option.bind (chk t0 fun a0 => Prim.run .mov [a0]) fun t17 =>
  Option.bind (chk t3 fun a0 => Prim.run .mov [a0]) fun t18 =>
  Option.bind (chk t17 fun a0 => chk t18 fun a1 => Prim.run (.iptr []) [a0, a1]) fun t19 =>
  Option.bind (chk t17 fun a0 => chk t19 fun a1 => Prim.run .load [a0, a1]) fun t20 =>
  Option.bind (Prim.run .mov [(.agg [(.int .u64 0), (.agg [(.int .i64 0), (.int .u32 0), (.str [])])])]) fun t4 =>
  Option.bind (Prim.run .mov [(.agg [(.int .u64 0), (.agg [(.int .i64 0), (.int .u32 0), (.str [])])])]) fun t5 =>
  chk t16 fun a0 => chk t4 fun y0 => Option.bind (setP [] y0 a0) fun t4 =>
  chk t20 fun a0 => chk t5 fun y0 => Option.bind (setP [] y0 a0) fun t5 =>
  Option.bind (Prim.run (.fptr 0) [(.ptr [])]) fun t21 =>
  Option.bind (chk t4 fun a0 => chk t21 fun a1 => Prim.run .load [a0, a1]) fun t22 =>
  Option.bind (Prim.run (.fptr 0) [(.ptr [])]) fun t23 =>
  Option.bind (chk t5 fun a0 => chk t23 fun a1 => Prim.run .load [a0, a1]) fun t24 =>
  Option.bind (chk t22 fun a0 => chk t24 fun a1 => Prim.run (.bin .gtr) [a0, a1]) fun t25 =>
  Option.bind (chk t25 fun a0 => Prim.run .mov [a0]) fun t26 =>
  Option.bind (grd t26 false (Prim.run (.fptr 0) [(.ptr [])])) fun t27 =>
  Option.bind (grd t26 false (chk t4 fun a0 => chk t27 fun a1 => Prim.run .load [a0, a1])) fun t28 =>
  Option.bind (grd t26 false (Prim.run (.fptr 0) [(.ptr [])])) fun t29 =>
  Option.bind (grd t26 false (chk t5 fun a0 => chk t29 fun a1 => Prim.run .load [a0, a1])) fun t30 =>
  Option.bind (grd t26 false (chk t28 fun a0 => chk t30 fun a1 => Prim.run (.bin .eql) [a0, a1])) fun t31 =>
  Option.bind (grd t26 false (chk t31 fun a0 => Prim.run .mov [a0])) fun t32 =>
  Option.bind (grd t32 true (Prim.run (.fptr 1) [(.ptr [])])) fun t33 =>
  Option.bind (grd t32 true (chk t33 fun a0 => Prim.run (.fptr 0) [a0])) fun t34 =>
  Option.bind (grd t32 true (chk t4 fun a0 => chk t34 fun a1 => Prim.run .load [a0, a1])) fun t35 =>
  Option.bind (grd t32 true (chk t35 fun a0 => Prim.run (.bin .eql) [a0, (.int .i64 1)])) fun t36 =>
  Option.bind (grd t26 false (chk t32 fun a0 => isB a0 (chk t36 fun a1 => some a1) (some (.bool false)))) fun t37 =>
  Option.bind (chk t26 fun a0 => isB a0 (some (.bool true)) (chk t37 fun a1 => some a1)) fun t38 =>
  chk t38 fun c0 => isB c0
 (Option.bind (Prim.run .mov [(.bool false)]) fun t2 =>
  K (.ret, [.undef, .undef, t2, .undef, .undef, .undef, .undef, .undef, .undef, .undef, .undef, .undef, .undef, .undef, .undef, .undef, .undef, .undef, .undef, .undef, .undef, .undef, .undef, .undef, .undef, .undef, .undef, .undef, .undef, .undef, .undef, .undef, .undef, .undef, .undef, .undef, .undef, .undef, .undef]))
 (Option.bind (chk t3 fun a0 => Prim.run .mov [a0]) fun t10 =>
  Option.bind (chk t10 fun a0 => Prim.run (.bin .add) [a0, (.int .i64 1)]) fun t11 =>
  Option.bind (chk t11 fun a0 => Prim.run .mov [a0]) fun t3 =>
  WL109x2 t0 t3 K))
 (K (.exit 0, [.undef, .undef, .undef, .undef, .undef, .undef, .undef, .undef, .undef, .undef, .undef, .undef, .undef, .undef, .undef, .undef, .undef, .undef, .undef, .undef, .undef, .undef, .undef, .undef, .undef, .undef, .undef, .undef, .undef, .undef, .undef, .undef, .undef, .undef, .undef, .undef, .undef, .undef, .undef]))) = some a) : WL109x2 t0 t3 K = some a := loopK_of (Eq.trans (by kernel_rfl) h)
@[simp] theorem aL109x2 (t0 t1 t2 t3 t4 t5 t6 t7 t8 t9 t10 t11 t12 t13 t14 t15 t16 t17 t18 t19 t20 t21 t22 t23 t24 t25 t26 t27 t28 t29 t30 t31 t32 t33 t34 t35 t36 t37 t38 : PV) (K : RK) : againK T kL109x2 L109x2 K (.normal, [t0, t1, t2, t3, t4, t5, t6, t7, t8, t9, t10, t11, t12, t13, t14, t15, t16, t17, t18, t19, t20, t21, t22, t23, t24, t25, t26, t27, t28, t29, t30, t31, t32, t33, t34, t35, t36, t37, t38]) = WL109x2 t0 t3 K := by kernel_rfl
@[simp] theorem lA109x1 (t0 : PV) (K : RK) : denK T A109x1 [t0, .undef, .undef, .undef, .undef, .undef, .undef, .undef, .undef, .undef, .undef, .undef, .undef, .undef, .undef, .undef, .undef, .undef, .undef, .undef, .undef, .undef, .undef, .undef, .undef, .undef, .undef, .undef, .undef, .undef, .undef, .undef, .undef, .undef, .undef, .undef, .undef, .undef, .undef] K =
  Option.bind (Prim.run .mov [(.int .i64 1)]) fun t3 =>
  WL109x2 t0 t3 (blockK 0 K) := by kernel_rfl
@[simp] theorem lB109x1 (K : RK) : denK T B109x1 [.undef, .undef, .undef, .undef, .undef, .undef, .undef, .undef, .undef, .undef, .undef, .undef, .undef, .undef, .undef, .undef, .undef, .undef, .undef, .undef, .undef, .undef, .undef, .undef, .undef, .undef, .undef, .undef, .undef, .undef, .undef, .undef, .undef, .undef, .undef, .undef, .undef, .undef, .undef] K =
  Option.bind (Prim.run .mov [(.bool true)]) fun t2 =>
  K (.ret, [.undef, .undef, t2, .undef, .undef, .undef, .undef, .undef, .undef, .undef, .undef, .undef, .undef, .undef, .undef, .undef, .undef, .undef, .undef, .undef, .undef, .undef, .undef, .undef, .undef, .undef, .undef, .undef, .undef, .undef, .undef, .undef, .undef, .undef, .undef, .undef, .undef, .undef, .undef]) := by kernel_rfl
theorem f109 (t0 : PV) {rs : List PV} (h : (Option.bind (Prim.run .mov [(.bool false)]) fun t2 =>
  denK T A109x1 [t0, .undef, .undef, .undef, .undef, .undef, .undef, .undef, .undef, .undef, .undef, .undef, .undef, .undef, .undef, .undef, .undef, .undef, .undef, .undef, .undef, .undef, .undef, .undef, .undef, .undef, .undef, .undef, .undef, .undef, .undef, .undef, .undef, .undef, .undef, .undef, .undef, .undef, .undef] (seqK T B109x1 (endK [2]))) = some rs) : Ans T 109 [t0] = some rs := call_of (T := T) c109 (Eq.trans (by kernel_rfl) h)

end Go.Proofs.Ytaldhebldjphbaa

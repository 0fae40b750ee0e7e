
import Derived.KernelRfl
import Derived.Test.YtgnmjfnkibbnkaaGreatDoorM1
import Derived.Test.YtgnmjfnkibbnkaaGreatDoorProg
set_option linter.unusedSimpArgs false
set_option linter.unusedVariables false
namespace Go.Proofs.YtgnmjfnkibbnkaaGreatDoor
open Go Go.Proofs.PantryEng Go.Proofs.PantryEng.Lt1
set_option maxRecDepth 100000
set_option maxHeartbeats 0
def methNames : List String := ["Offer", "Take", "Drain", "Len", "Lost"]
end Go.Proofs.YtgnmjfnkibbnkaaGreatDoor
namespace Go.Proofs.YtgnmjfnkibbnkaaGreatDoor
open Go Go.Proofs.PantryEng Go.Proofs.PantryEng.Lt1
set_option maxRecDepth 100000
set_option maxHeartbeats 0
/-- pantry/pantrylaw26.ScriptReads -/
def c3 : AFunc := ⟨100, [.tmp 8],
  .seq (.region [a 5 (.box (t 1)),
 m 8 (l (.bool false))])
 (.seq (.region [c 21 6 [],
 m 9 (t 21)])
 (.seq (.seq (.region [m 22 (t 0),
 p 23 (.len false (t 22)),
 p 24 (.bin .gtr (t 23) (i 2000)),
 m 25 (t 24),
 g 26 (.move (t 2)) 25 false,
 g 27 (.len false (t 26)) 25 false,
 g 28 (.bin .gtr (t 27) (i 20)) 25 false,
 p 29 (.pick (t 25) (l (.bool true)) (t 28)),
 m 30 (t 29),
 g 31 (.move (t 3)) 30 false,
 g 32 (.len false (t 31)) 30 false,
 g 33 (.bin .gtr (t 32) (i 300)) 30 false,
 p 34 (.pick (t 30) (l (.bool true)) (t 33))])
 (.cond (t 34) (.seq (.region [m 35 (t 9),
 m 8 (t 35)])
 (.ret))
 (.skip)))
 (.seq (.region [a 36 (.buildSlice [(.int .u8 0)] 1 0 []),
 m 37 (t 0),
 e 38 (.append 1 1 (t 36) (t 37)),
 m 10 (t 38)])
 (.seq (.region [m 40 (t 10),
 c 41 7 [(t 40)],
 m 39 (t 41),
 p 42 (.extract (t 39) 0),
 p 43 (.extract (t 39) 1),
 p 44 (.extract (t 39) 2),
 a 11 (.alloc [(.int .i64 0), (.int .i64 0), (.int .i64 0), (.int .i64 0), (.int .i64 0), (.int .i64 0)]),
 z (.store 6 (t 11) (t 42)),
 m 12 (t 43),
 m 13 (t 44)])
 (.seq (.region [m 46 (t 0),
 c 47 8 [(t 46)],
 m 45 (t 47),
 p 48 (.extract (t 45) 0),
 p 49 (.extract (t 45) 1),
 p 50 (.extract (t 45) 2),
 a 14 (.alloc [(.int .i64 0), (.int .i64 0), (.int .i64 0), (.int .i64 0), (.int .i64 0), (.int .i64 0)]),
 z (.store 6 (t 14) (t 48)),
 m 15 (t 49),
 m 16 (t 50)])
 (.seq (.region [p 52 (.load true 6 (t 5)),
 m 53 (t 2),
 m 54 (t 3),
 c 55 9 [(t 52), (t 53), (t 54)],
 m 51 (t 55),
 p 56 (.extract (t 51) 0),
 p 57 (.extract (t 51) 1),
 m 17 (t 56),
 m 18 (t 57)])
 (.seq (.region [p 59 (.load true 6 (t 5)),
 m 60 (t 2),
 m 61 (t 3),
 c 62 10 [(t 59), (t 60), (t 61)],
 m 58 (t 62),
 p 63 (.extract (t 58) 0),
 p 64 (.extract (t 58) 1),
 m 19 (t 63),
 m 20 (t 64)])
 (.seq (.region [m 65 (t 9),
 m 66 (t 65),
 g 67 (.load true 6 (t 11)) 66 true,
 g 68 (.load true 6 (t 14)) 66 true,
 g 69 (.eqAgg false [false, false, false, false, false, false] (t 67) (t 68)) 66 true,
 p 70 (.pick (t 66) (t 69) (l (.bool false))),
 m 71 (t 70),
 g 72 (.move (t 12)) 71 true,
 g 73 (.move (t 15)) 71 true,
 ⟨(some 74), .e (.call (.value (l (.func (.func 11) #[] #[]))) [(t 72), (t 73)]), some (71, true)⟩,
 p 75 (.pick (t 71) (t 74) (l (.bool false))),
 m 76 (t 75),
 g 77 (.move (t 13)) 76 true,
 g 78 (.move (t 16)) 76 true,
 ⟨(some 79), .e (.call (.value (l (.func (.func 12) #[] #[]))) [(t 77), (t 78)]), some (76, true)⟩,
 p 80 (.pick (t 76) (t 79) (l (.bool false))),
 m 81 (t 80),
 g 82 (.move (t 17)) 81 true,
 g 83 (.string (t 82)) 81 true,
 g 84 (.move (t 19)) 81 true,
 g 85 (.string (t 84)) 81 true,
 g 86 (.bin .eql (t 83) (t 85)) 81 true,
 p 87 (.pick (t 81) (t 86) (l (.bool false))),
 m 88 (t 87),
 g 89 (.move (t 18)) 88 true,
 g 90 (.move (t 20)) 88 true,
 g 91 (.bin .eql (t 89) (t 90)) 88 true,
 p 92 (.pick (t 88) (t 91) (l (.bool false))),
 m 93 (t 92),
 g 94 (.move (t 10)) 93 true,
 g 95 (.string (t 94)) 93 true,
 g 96 (.move (t 0)) 93 true,
 g 97 (.string (t 96)) 93 true,
 g 98 (.bin .eql (t 95) (t 97)) 93 true,
 p 99 (.pick (t 93) (t 98) (l (.bool false))),
 m 8 (t 99)])
 (.ret)))))))))⟩
theorem cc3 : cFunc Tryz.prog methNames Tryz.f3 = some c3 := by kernel_rfl
/-- pantry/pantrylaw26.ScriptBack -/
def c4 : AFunc := ⟨107, [.tmp 8],
  .seq (.region [a 5 (.box (t 1)),
 m 8 (l (.bool false))])
 (.seq (.region [c 23 6 [],
 m 9 (t 23)])
 (.seq (.seq (.region [m 24 (t 0),
 p 25 (.len false (t 24)),
 p 26 (.bin .gtr (t 25) (i 2000)),
 m 27 (t 26),
 g 28 (.move (t 2)) 27 false,
 g 29 (.len false (t 28)) 27 false,
 g 30 (.bin .gtr (t 29) (i 20)) 27 false,
 p 31 (.pick (t 27) (l (.bool true)) (t 30)),
 m 32 (t 31),
 g 33 (.move (t 3)) 32 false,
 g 34 (.len false (t 33)) 32 false,
 g 35 (.bin .gtr (t 34) (i 300)) 32 false,
 p 36 (.pick (t 32) (l (.bool true)) (t 35))])
 (.cond (t 36) (.seq (.region [m 37 (t 9),
 m 8 (t 37)])
 (.ret))
 (.skip)))
 (.seq (.region [p 39 (.load true 6 (t 5)),
 m 40 (t 2),
 m 41 (t 3),
 c 42 9 [(t 39), (t 40), (t 41)],
 m 38 (t 42),
 p 43 (.extract (t 38) 0),
 p 44 (.extract (t 38) 1),
 m 10 (t 43),
 m 11 (t 44)])
 (.seq (.seq (.region [m 45 (t 11),
 p 46 (.bin .eql (t 45) (i 0))])
 (.cond (t 46) (.seq (.region [m 48 (t 10),
 c 49 7 [(t 48)],
 m 47 (t 49),
 p 50 (.extract (t 47) 0),
 p 51 (.extract (t 47) 1),
 p 52 (.extract (t 47) 2),
 a 12 (.alloc [(.int .i64 0), (.int .i64 0), (.int .i64 0), (.int .i64 0), (.int .i64 0), (.int .i64 0)]),
 z (.store 6 (t 12) (t 50)),
 m 13 (t 51),
 m 14 (t 52)])
 (.seq (.region [p 53 (.load true 6 (t 12)),
 p 54 (.load true 6 (t 5)),
 p 55 (.eqAgg true [false, false, false, false, false, false] (t 53) (t 54)),
 m 56 (t 55),
 g 57 (.move (t 13)) 56 false,
 g 58 (.move (t 2)) 56 false,
 ⟨(some 59), .e (.call (.value (l (.func (.func 11) #[] #[]))) [(t 57), (t 58)]), some (56, false)⟩,
 g 60 (.not (t 59)) 56 false,
 p 61 (.pick (t 56) (l (.bool true)) (t 60)),
 m 62 (t 61),
 g 63 (.move (t 14)) 62 false,
 g 64 (.move (t 3)) 62 false,
 ⟨(some 65), .e (.call (.value (l (.func (.func 12) #[] #[]))) [(t 63), (t 64)]), some (62, false)⟩,
 g 66 (.not (t 65)) 62 false,
 p 67 (.pick (t 62) (l (.bool true)) (t 66))])
 (.cond (t 67) (.seq (.region [m 8 (l (.bool false))])
 (.ret))
 (.skip))))
 (.skip)))
 (.seq (.region [m 69 (t 0),
 c 70 7 [(t 69)],
 m 68 (t 70),
 p 71 (.extract (t 68) 0),
 p 72 (.extract (t 68) 1),
 p 73 (.extract (t 68) 2),
 a 15 (.alloc [(.int .i64 0), (.int .i64 0), (.int .i64 0), (.int .i64 0), (.int .i64 0), (.int .i64 0)]),
 z (.store 6 (t 15) (t 71)),
 m 16 (t 72),
 m 17 (t 73)])
 (.seq (.region [p 75 (.load true 6 (t 15)),
 m 76 (t 16),
 m 77 (t 17),
 c 78 9 [(t 75), (t 76), (t 77)],
 m 74 (t 78),
 p 79 (.extract (t 74) 0),
 p 80 (.extract (t 74) 1),
 m 18 (t 79),
 m 19 (t 80)])
 (.seq (.region [m 82 (t 18),
 c 83 7 [(t 82)],
 m 81 (t 83),
 p 84 (.extract (t 81) 0),
 p 85 (.extract (t 81) 1),
 p 86 (.extract (t 81) 2),
 a 20 (.alloc [(.int .i64 0), (.int .i64 0), (.int .i64 0), (.int .i64 0), (.int .i64 0), (.int .i64 0)]),
 z (.store 6 (t 20) (t 84)),
 m 21 (t 85),
 m 22 (t 86)])
 (.seq (.region [m 87 (t 9),
 m 88 (t 87),
 g 89 (.move (t 19)) 88 true,
 g 90 (.bin .eql (t 89) (i 0)) 88 true,
 p 91 (.pick (t 88) (t 90) (l (.bool false))),
 m 92 (t 91),
 g 93 (.load true 6 (t 20)) 92 true,
 g 94 (.load true 6 (t 15)) 92 true,
 g 95 (.eqAgg false [false, false, false, false, false, false] (t 93) (t 94)) 92 true,
 p 96 (.pick (t 92) (t 95) (l (.bool false))),
 m 97 (t 96),
 g 98 (.move (t 21)) 97 true,
 g 99 (.move (t 16)) 97 true,
 ⟨(some 100), .e (.call (.value (l (.func (.func 11) #[] #[]))) [(t 98), (t 99)]), some (97, true)⟩,
 p 101 (.pick (t 97) (t 100) (l (.bool false))),
 m 102 (t 101),
 g 103 (.move (t 22)) 102 true,
 g 104 (.move (t 17)) 102 true,
 ⟨(some 105), .e (.call (.value (l (.func (.func 12) #[] #[]))) [(t 103), (t 104)]), some (102, true)⟩,
 p 106 (.pick (t 102) (t 105) (l (.bool false))),
 m 8 (t 106)])
 (.ret)))))))))⟩
theorem cc4 : cFunc Tryz.prog methNames Tryz.f4 = some c4 := by kernel_rfl
/-- pantry/pantrylaw26.ScriptCuts -/
def c5 : AFunc := ⟨149, [.tmp 8],
  .seq (.region [a 4 (.box (t 0)),
 m 8 (l (.bool false))])
 (.seq (.region [c 20 6 [],
 m 9 (t 20)])
 (.seq (.seq (.region [m 21 (t 1),
 p 22 (.len false (t 21)),
 p 23 (.bin .gtr (t 22) (i 20)),
 m 24 (t 23),
 g 25 (.move (t 2)) 24 false,
 g 26 (.len false (t 25)) 24 false,
 g 27 (.bin .gtr (t 26) (i 300)) 24 false,
 p 28 (.pick (t 24) (l (.bool true)) (t 27)),
 m 29 (t 28),
 g 30 (.move (t 3)) 29 false,
 g 31 (.len false (t 30)) 29 false,
 g 32 (.bin .gtr (t 31) (i 300)) 29 false,
 p 33 (.pick (t 29) (l (.bool true)) (t 32))])
 (.cond (t 33) (.seq (.region [m 34 (t 9),
 m 8 (t 34)])
 (.ret))
 (.skip)))
 (.seq (.region [p 36 (.load true 6 (t 4)),
 m 37 (t 1),
 m 38 (t 2),
 c 39 9 [(t 36), (t 37), (t 38)],
 m 35 (t 39),
 p 40 (.extract (t 35) 0),
 p 41 (.extract (t 35) 1),
 m 10 (t 40),
 m 11 (t 41)])
 (.seq (.seq (.region [m 42 (t 11),
 p 43 (.bin .neq (t 42) (i 0))])
 (.cond (t 43) (.seq (.region [m 44 (t 9),
 m 45 (t 44),
 g 46 (.move (t 10)) 45 true,
 g 47 (.len false (t 46)) 45 true,
 g 48 (.bin .eql (t 47) (i 0)) 45 true,
 p 49 (.pick (t 45) (t 48) (l (.bool false))),
 m 8 (t 49)])
 (.ret))
 (.skip)))
 (.seq (.region [a 51 (.buildSlice [(.int .u8 0)] 1 0 []),
 m 52 (t 10),
 e 53 (.append 1 1 (t 51) (t 52)),
 m 54 (t 3),
 e 55 (.append 1 1 (t 53) (t 54)),
 c 56 7 [(t 55)],
 m 50 (t 56),
 p 57 (.extract (t 50) 0),
 p 58 (.extract (t 50) 1),
 p 59 (.extract (t 50) 2),
 a 12 (.alloc [(.int .i64 0), (.int .i64 0), (.int .i64 0), (.int .i64 0), (.int .i64 0), (.int .i64 0)]),
 z (.store 6 (t 12) (t 57)),
 m 13 (t 58),
 m 14 (t 59)])
 (.seq (.region [m 60 (t 10),
 p 61 (.len false (t 60)),
 m 15 (t 61)])
 (.seq (.block 0 (.loop (.seq (.seq (.region [m 62 (t 15),
 p 63 (.bin .gtr (t 62) (i 0)),
 m 64 (t 63),
 g 65 (.move (t 10)) 64 true,
 g 66 (.move (t 15)) 64 true,
 g 67 (.bin .sub (t 66) (i 1)) 64 true,
 g 68 (.indexAddr 1 (t 65) (t 67)) 64 true,
 g 69 (.load false 1 (t 68)) 64 true,
 g 70 (.bin .eql (t 69) (l (.int .u8 0))) 64 true,
 p 71 (.pick (t 64) (t 70) (l (.bool false))),
 m 72 (t 71),
 g 73 (.move (t 15)) 72 true,
 g 74 (.move (t 10)) 72 true,
 g 75 (.len false (t 74)) 72 true,
 g 76 (.move (t 2)) 72 true,
 g 77 (.len false (t 76)) 72 true,
 g 78 (.bin .sub (t 75) (t 77)) 72 true,
 g 79 (.bin .gtr (t 73) (t 78)) 72 true,
 p 80 (.pick (t 72) (t 79) (l (.bool false)))])
 (.cond (t 80) (.skip)
 (.exit 0)))
 (.block 1 (.region [m 81 (t 15),
 p 82 (.bin .sub (t 81) (i 1)),
 m 15 (t 82)])))))
 (.seq (.region [m 84 (t 10),
 m 85 (t 15),
 p 86 (.slice false 1 (t 84) none (some (t 85)) none),
 c 87 7 [(t 86)],
 m 83 (t 87),
 p 88 (.extract (t 83) 0),
 p 89 (.extract (t 83) 1),
 p 90 (.extract (t 83) 2),
 a 16 (.alloc [(.int .i64 0), (.int .i64 0), (.int .i64 0), (.int .i64 0), (.int .i64 0), (.int .i64 0)]),
 z (.store 6 (t 16) (t 88)),
 m 17 (t 89),
 m 18 (t 90)])
 (.seq (.seq (.region [m 91 (t 14),
 p 92 (.len false (t 91)),
 m 93 (t 2),
 p 94 (.len false (t 93)),
 m 95 (t 3),
 p 96 (.len false (t 95)),
 p 97 (.bin .add (t 94) (t 96)),
 p 98 (.bin .neq (t 92) (t 97)),
 m 99 (t 98),
 g 100 (.load true 6 (t 12)) 99 false,
 g 101 (.load true 6 (t 4)) 99 false,
 g 102 (.eqAgg true [false, false, false, false, false, false] (t 100) (t 101)) 99 false,
 p 103 (.pick (t 99) (l (.bool true)) (t 102)),
 m 104 (t 103),
 g 105 (.load true 6 (t 16)) 104 false,
 g 106 (.load true 6 (t 4)) 104 false,
 g 107 (.eqAgg true [false, false, false, false, false, false] (t 105) (t 106)) 104 false,
 p 108 (.pick (t 104) (l (.bool true)) (t 107)),
 m 109 (t 108),
 g 110 (.move (t 13)) 109 false,
 g 111 (.move (t 1)) 109 false,
 ⟨(some 112), .e (.call (.value (l (.func (.func 11) #[] #[]))) [(t 110), (t 111)]), some (109, false)⟩,
 g 113 (.not (t 112)) 109 false,
 p 114 (.pick (t 109) (l (.bool true)) (t 113)),
 m 115 (t 114),
 g 116 (.move (t 17)) 115 false,
 g 117 (.move (t 1)) 115 false,
 ⟨(some 118), .e (.call (.value (l (.func (.func 11) #[] #[]))) [(t 116), (t 117)]), some (115, false)⟩,
 g 119 (.not (t 118)) 115 false,
 p 120 (.pick (t 115) (l (.bool true)) (t 119))])
 (.cond (t 120) (.seq (.region [m 8 (l (.bool false))])
 (.ret))
 (.skip)))
 (.seq (.seq (.region [m 19 (i 0)])
 (.block 2 (.loop (.seq (.seq (.region [m 121 (t 19),
 m 122 (t 3),
 p 123 (.len false (t 122)),
 p 124 (.bin .lss (t 121) (t 123))])
 (.cond (t 124) (.skip)
 (.exit 2)))
 (.seq (.block 3 (.seq (.draw [d (m 127 (t 14)),
 d (m 128 (t 2)),
 d (p 129 (.len false (t 128))),
 d (m 130 (t 19)),
 d (p 131 (.bin .add (t 129) (t 130))),
 d (p 132 (.indexAddr 1 (t 127) (t 131))),
 d (r 133 (t 132)),
 d (m 134 (t 3)),
 d (m 135 (t 19)),
 d (p 136 (.indexAddr 1 (t 134) (t 135))),
 d (r 137 (t 136)),
 d (p 138 (.conv .i64 (t 137))),
 d (p 139 (.bin .neq (t 133) (t 138)))])
 (.cond (t 139) (.seq (.region [m 8 (l (.bool false))])
 (.ret))
 (.skip))))
 (.region [m 125 (t 19),
 p 126 (.bin .add (t 125) (i 1)),
 m 19 (t 126)]))))))
 (.seq (.region [m 140 (t 9),
 m 141 (t 140),
 g 142 (.move (t 14)) 141 true,
 g 143 (.move (t 2)) 141 true,
 g 144 (.len false (t 143)) 141 true,
 g 145 (.slice false 1 (t 142) none (some (t 144)) none) 141 true,
 g 146 (.move (t 2)) 141 true,
 ⟨(some 147), .e (.call (.value (l (.func (.func 12) #[] #[]))) [(t 145), (t 146)]), some (141, true)⟩,
 p 148 (.pick (t 141) (t 147) (l (.bool false))),
 m 8 (t 148)])
 (.ret))))))))))))⟩
theorem cc5 : cFunc Tryz.prog methNames Tryz.f5 = some c5 := by kernel_rfl
/-- pantry/pantrylaw26.small -/
def c6 : AFunc := ⟨111, [.tmp 0],
  .seq (.region [m 0 (l (.bool false))])
 (.seq (.region [p 14 (.build [(.int .i64 0), (.int .i64 0), (.int .i64 0), (.int .i64 0), (.int .i64 0), (.int .i64 0)] [(0, 1, (i 1)), (5, 1, (i 2))]),
 c 15 13 [],
 a 16 (.buildSlice [(.int .i64 0)] 1 2 [(0, (i 0)), (1, (i 1))]),
 c 17 9 [(t 14), (t 15), (t 16)],
 m 13 (t 17),
 p 18 (.extract (t 13) 0),
 p 19 (.extract (t 13) 1),
 m 1 (t 18),
 m 2 (t 19)])
 (.seq (.region [m 21 (t 1),
 c 22 7 [(t 21)],
 m 20 (t 22),
 p 23 (.extract (t 20) 0),
 p 24 (.extract (t 20) 1),
 p 25 (.extract (t 20) 2),
 a 3 (.alloc [(.int .i64 0), (.int .i64 0), (.int .i64 0), (.int .i64 0), (.int .i64 0), (.int .i64 0)]),
 z (.store 6 (t 3) (t 23)),
 m 4 (t 24),
 m 5 (t 25)])
 (.seq (.region [m 27 (t 1),
 c 28 14 [(t 27), (i 1000)],
 m 26 (t 28),
 p 29 (.extract (t 26) 0),
 p 30 (.extract (t 26) 1),
 a 6 (.alloc [(.int .i64 0), (.bool false), (.int .i64 0), (.int .i64 0), (.int .i64 0), (.int .i64 0), (.int .i64 0)]),
 z (.store 7 (t 6) (t 29)),
 m 7 (t 30)])
 (.seq (.region [p 32 (.build [(.int .i64 0), (.int .i64 0), (.int .i64 0), (.int .i64 0), (.int .i64 0), (.int .i64 0)] [(0, 1, (i 256))]),
 c 33 9 [(t 32), (l (.slice none 0 0)), (l (.slice none 0 0))],
 m 31 (t 33),
 p 34 (.extract (t 31) 0),
 p 35 (.extract (t 31) 1),
 m 8 (t 34),
 m 9 (t 35)])
 (.seq (.region [c 37 7 [(l (.slice none 0 0))],
 m 36 (t 37),
 p 38 (.extract (t 36) 0),
 p 39 (.extract (t 36) 1),
 p 40 (.extract (t 36) 2),
 a 10 (.alloc [(.int .i64 0), (.int .i64 0), (.int .i64 0), (.int .i64 0), (.int .i64 0), (.int .i64 0)]),
 z (.store 6 (t 10) (t 38)),
 m 11 (t 39),
 m 12 (t 40)])
 (.seq (.region [m 41 (t 2),
 p 42 (.bin .eql (t 41) (i 0)),
 m 43 (t 42),
 g 44 (.fieldAddr 0 (t 3)) 43 true,
 g 45 (.load false 1 (t 44)) 43 true,
 g 46 (.bin .eql (t 45) (i 1)) 43 true,
 p 47 (.pick (t 43) (t 46) (l (.bool false))),
 m 48 (t 47),
 g 49 (.move (t 4)) 48 true,
 g 50 (.len false (t 49)) 48 true,
 g 51 (.bin .eql (t 50) (i 2)) 48 true,
 p 52 (.pick (t 48) (t 51) (l (.bool false))),
 m 53 (t 52),
 g 54 (.move (t 5)) 53 true,
 ⟨(some 55), .l (.buildSlice [(.int .i64 0)] 1 2 [(0, (i 0)), (1, (i 1))]), some (53, true)⟩,
 ⟨(some 56), .e (.call (.value (l (.func (.func 12) #[] #[]))) [(t 54), (t 55)]), some (53, true)⟩,
 p 57 (.pick (t 53) (t 56) (l (.bool false))),
 m 58 (t 57),
 g 59 (.move (t 7)) 58 true,
 g 60 (.bin .eql (t 59) (i 0)) 58 true,
 p 61 (.pick (t 58) (t 60) (l (.bool false))),
 m 62 (t 61),
 g 63 (.fieldAddr 1 (t 6)) 62 true,
 g 64 (.load false 1 (t 63)) 62 true,
 p 65 (.pick (t 62) (t 64) (l (.bool false))),
 m 66 (t 65),
 g 67 (.fieldAddr 2 (t 6)) 66 true,
 g 68 (.load false 1 (t 67)) 66 true,
 g 69 (.bin .eql (t 68) (i 4)) 66 true,
 p 70 (.pick (t 66) (t 69) (l (.bool false))),
 m 71 (t 70),
 g 72 (.fieldAddr 3 (t 6)) 71 true,
 g 73 (.load false 1 (t 72)) 71 true,
 g 74 (.bin .eql (t 73) (i 1)) 71 true,
 p 75 (.pick (t 71) (t 74) (l (.bool false))),
 m 76 (t 75),
 g 77 (.fieldAddr 4 (t 6)) 76 true,
 g 78 (.load false 1 (t 77)) 76 true,
 g 79 (.bin .eql (t 78) (i 1)) 76 true,
 p 80 (.pick (t 76) (t 79) (l (.bool false))),
 m 81 (t 80),
 g 82 (.fieldAddr 5 (t 6)) 81 true,
 g 83 (.load false 1 (t 82)) 81 true,
 g 84 (.bin .eql (t 83) (i 1)) 81 true,
 p 85 (.pick (t 81) (t 84) (l (.bool false))),
 m 86 (t 85),
 g 87 (.move (t 9)) 86 true,
 g 88 (.bin .eql (t 87) (i 1)) 86 true,
 p 89 (.pick (t 86) (t 88) (l (.bool false))),
 m 90 (t 89),
 g 91 (.load true 6 (t 10)) 90 true,
 g 92 (.build [(.int .i64 0), (.int .i64 0), (.int .i64 0), (.int .i64 0), (.int .i64 0), (.int .i64 0)] []) 90 true,
 g 93 (.eqAgg false [false, false, false, false, false, false] (t 91) (t 92)) 90 true,
 p 94 (.pick (t 90) (t 93) (l (.bool false))),
 m 95 (t 94),
 g 96 (.move (t 11)) 95 true,
 g 97 (.len false (t 96)) 95 true,
 g 98 (.bin .eql (t 97) (i 0)) 95 true,
 p 99 (.pick (t 95) (t 98) (l (.bool false))),
 m 100 (t 99),
 g 101 (.move (t 12)) 100 true,
 g 102 (.len false (t 101)) 100 true,
 g 103 (.bin .eql (t 102) (i 0)) 100 true,
 p 104 (.pick (t 100) (t 103) (l (.bool false))),
 m 105 (t 104),
 g 106 (.move (t 1)) 105 true,
 ⟨(some 107), .e (.call (.value (l (.func (.func 15) #[] #[]))) [(t 106), (i 1000)]), some (105, true)⟩,
 g 108 (.len false (t 107)) 105 true,
 g 109 (.bin .eql (t 108) (i 10)) 105 true,
 p 110 (.pick (t 105) (t 109) (l (.bool false))),
 m 0 (t 110)])
 (.ret)))))))⟩
theorem cc6 : cFunc Tryz.prog methNames Tryz.f6 = some c6 := by kernel_rfl
/-- pantry/script.Decode -/
def c7 : AFunc := ⟨79, [.cell true 6 2, .tmp 3, .tmp 4],
  .seq (.region [a 1 (.box (t 0)),
 a 2 (.alloc [(.int .i64 0), (.int .i64 0), (.int .i64 0), (.int .i64 0), (.int .i64 0), (.int .i64 0)]),
 m 3 (l (.slice none 0 0)),
 m 4 (l (.slice none 0 0))])
 (.seq (.region [p 12 (.makeFunc 16 [] [(t 1)]),
 m 5 (t 12)])
 (.seq (.seq (.region [f 13 0 (t 2),
 f 14 1 (t 2),
 f 15 2 (t 2),
 f 16 3 (t 2),
 f 17 4 (t 2),
 f 18 5 (t 2),
 a 19 (.buildSlice [(.pointer none)] 1 6 [(0, (t 13)), (1, (t 14)), (2, (t 15)), (3, (t 16)), (4, (t 17)), (5, (t 18))]),
 p 20 (.len false (t 19)),
 m 21 (i 0)])
 (.block 0 (.loop (.seq (.region [p 22 (.bin .lss (t 21) (t 20))])
 (.seq (.cond (t 22) (.skip)
 (.exit 0))
 (.seq (.block 1 (.seq (.region [p 23 (.indexAddr 1 (t 19) (t 21)),
 r 24 (t 23),
 m 7 (t 24)])
 (.region [m 25 (t 7),
 m 26 (t 5),
 e 27 (.call (.value (t 26)) []),
 n 28 (t 25),
 z (.store 1 (t 28) (t 27))])))
 (.region [p 29 (.bin .add (t 21) (i 1)),
 m 21 (t 29)])))))))
 (.seq (.seq (.region [m 30 (t 5),
 e 31 (.call (.value (t 30)) []),
 p 32 (.bin .rem (t 31) (i 9)),
 m 33 (i 0)])
 (.block 2 (.loop (.seq (.region [p 34 (.bin .lss (t 33) (t 32))])
 (.seq (.cond (t 34) (.skip)
 (.exit 2))
 (.seq (.block 3 (.seq (.region [m 8 (l (.slice none 0 0))])
 (.seq (.seq (.region [m 35 (t 5),
 e 36 (.call (.value (t 35)) []),
 p 37 (.bin .rem (t 36) (i 33)),
 m 38 (i 0)])
 (.block 4 (.loop (.seq (.region [p 39 (.bin .lss (t 38) (t 37))])
 (.seq (.cond (t 39) (.skip)
 (.exit 4))
 (.seq (.block 5 (.seq (.region [a 9 (.alloc [(.int .i64 0), (.int .i64 0), (.int .i64 0), (.int .i64 0)])])
 (.seq (.region [m 40 (t 5),
 e 41 (.call (.value (t 40)) []),
 p 42 (.bin .rem (t 41) (i 5)),
 f 43 0 (t 9),
 z (.store 1 (t 43) (t 42))])
 (.seq (.seq (.region [f 44 1 (t 9),
 f 45 2 (t 9),
 f 46 3 (t 9),
 a 47 (.buildSlice [(.pointer none)] 1 3 [(0, (t 44)), (1, (t 45)), (2, (t 46))]),
 p 48 (.len false (t 47)),
 m 49 (i 0)])
 (.block 6 (.loop (.seq (.region [p 50 (.bin .lss (t 49) (t 48))])
 (.seq (.cond (t 50) (.skip)
 (.exit 6))
 (.seq (.block 7 (.seq (.region [p 51 (.indexAddr 1 (t 47) (t 49)),
 r 52 (t 51),
 m 11 (t 52)])
 (.region [m 53 (t 11),
 m 54 (t 5),
 e 55 (.call (.value (t 54)) []),
 n 56 (t 53),
 z (.store 1 (t 56) (t 55))])))
 (.region [p 57 (.bin .add (t 49) (i 1)),
 m 49 (t 57)])))))))
 (.region [m 58 (t 8),
 p 59 (.load true 4 (t 9)),
 a 60 (.buildSlice [(.int .i64 0), (.int .i64 0), (.int .i64 0), (.int .i64 0)] 4 1 [(0, (t 59))]),
 e 61 (.append 4 32 (t 58) (t 60)),
 m 8 (t 61)])))))
 (.region [p 62 (.bin .add (t 38) (i 1)),
 m 38 (t 62)])))))))
 (.region [m 63 (t 3),
 m 64 (t 8),
 a 65 (.buildSlice [(.slice none 0 0)] 1 1 [(0, (t 64))]),
 e 66 (.append 1 24 (t 63) (t 65)),
 m 3 (t 66)]))))
 (.region [p 67 (.bin .add (t 33) (i 1)),
 m 33 (t 67)])))))))
 (.seq (.block 8 (.loop (.seq (.seq (.region [r 68 (t 1),
 p 69 (.len false (t 68)),
 p 70 (.bin .gtr (t 69) (i 0))])
 (.cond (t 70) (.skip)
 (.exit 8)))
 (.block 9 (.region [m 71 (t 4),
 m 72 (t 5),
 e 73 (.call (.value (t 72)) []),
 a 74 (.buildSlice [(.int .i64 0)] 1 1 [(0, (t 73))]),
 e 75 (.append 1 8 (t 71) (t 74)),
 m 4 (t 75)])))))
 (.seq (.region [p 76 (.load true 6 (t 2)),
 m 77 (t 3),
 m 78 (t 4),
 z (.store 6 (t 2) (t 76)),
 m 3 (t 77),
 m 4 (t 78)])
 (.ret))))))⟩
theorem cc7 : cFunc Tryz.prog methNames Tryz.f7 = some c7 := by kernel_rfl
/-- pantry/pantryref26.Decode -/
def c8 : AFunc := ⟨88, [.cell true 6 2, .tmp 3, .tmp 4],
  .seq (.region [a 2 (.alloc [(.int .i64 0), (.int .i64 0), (.int .i64 0), (.int .i64 0), (.int .i64 0), (.int .i64 0)]),
 m 3 (l (.slice none 0 0)),
 m 4 (l (.slice none 0 0))])
 (.seq (.region [m 15 (t 0),
 p 16 (.build [(.slice none 0 0), (.int .i64 0)] [(0, 1, (t 15))]),
 a 17 (.box (t 16)),
 m 5 (t 17)])
 (.seq (.region [a 6 (.alloc [(.int .i64 0), (.int .i64 0), (.int .i64 0), (.int .i64 0), (.int .i64 0), (.int .i64 0)])])
 (.seq (.region [m 18 (t 5),
 c 19 17 [(t 18)],
 f 20 0 (t 6),
 z (.store 1 (t 20) (t 19))])
 (.seq (.region [m 21 (t 5),
 c 22 17 [(t 21)],
 f 23 1 (t 6),
 z (.store 1 (t 23) (t 22))])
 (.seq (.region [m 24 (t 5),
 c 25 17 [(t 24)],
 f 26 2 (t 6),
 z (.store 1 (t 26) (t 25))])
 (.seq (.region [m 27 (t 5),
 c 28 17 [(t 27)],
 f 29 3 (t 6),
 z (.store 1 (t 29) (t 28))])
 (.seq (.region [m 30 (t 5),
 c 31 17 [(t 30)],
 f 32 4 (t 6),
 z (.store 1 (t 32) (t 31))])
 (.seq (.region [m 33 (t 5),
 c 34 17 [(t 33)],
 f 35 5 (t 6),
 z (.store 1 (t 35) (t 34))])
 (.seq (.region [m 7 (l (.slice none 0 0))])
 (.seq (.region [m 36 (t 5),
 c 37 17 [(t 36)],
 p 38 (.bin .rem (t 37) (i 9)),
 m 8 (t 38)])
 (.seq (.seq (.region [m 9 (i 0)])
 (.block 0 (.loop (.seq (.seq (.region [m 39 (t 9),
 m 40 (t 8),
 p 41 (.bin .lss (t 39) (t 40))])
 (.cond (t 41) (.skip)
 (.exit 0)))
 (.seq (.block 1 (.seq (.region [m 10 (l (.slice none 0 0))])
 (.seq (.region [m 44 (t 5),
 c 45 17 [(t 44)],
 p 46 (.bin .rem (t 45) (i 33)),
 m 11 (t 46)])
 (.seq (.seq (.region [m 12 (i 0)])
 (.block 2 (.loop (.seq (.seq (.region [m 47 (t 12),
 m 48 (t 11),
 p 49 (.bin .lss (t 47) (t 48))])
 (.cond (t 49) (.skip)
 (.exit 2)))
 (.seq (.block 3 (.seq (.region [a 13 (.alloc [(.int .i64 0), (.int .i64 0), (.int .i64 0), (.int .i64 0)])])
 (.seq (.region [m 52 (t 5),
 c 53 17 [(t 52)],
 p 54 (.bin .rem (t 53) (i 5)),
 f 55 0 (t 13),
 z (.store 1 (t 55) (t 54))])
 (.seq (.region [m 56 (t 5),
 c 57 17 [(t 56)],
 f 58 1 (t 13),
 z (.store 1 (t 58) (t 57))])
 (.seq (.region [m 59 (t 5),
 c 60 17 [(t 59)],
 f 61 2 (t 13),
 z (.store 1 (t 61) (t 60))])
 (.seq (.region [m 62 (t 5),
 c 63 17 [(t 62)],
 f 64 3 (t 13),
 z (.store 1 (t 64) (t 63))])
 (.region [m 65 (t 10),
 p 66 (.load true 4 (t 13)),
 a 67 (.buildSlice [(.int .i64 0), (.int .i64 0), (.int .i64 0), (.int .i64 0)] 4 1 [(0, (t 66))]),
 e 68 (.append 4 32 (t 65) (t 67)),
 m 10 (t 68)])))))))
 (.region [m 50 (t 12),
 p 51 (.bin .add (t 50) (i 1)),
 m 12 (t 51)]))))))
 (.region [m 69 (t 7),
 m 70 (t 10),
 a 71 (.buildSlice [(.slice none 0 0)] 1 1 [(0, (t 70))]),
 e 72 (.append 1 24 (t 69) (t 71)),
 m 7 (t 72)])))))
 (.region [m 42 (t 9),
 p 43 (.bin .add (t 42) (i 1)),
 m 9 (t 43)]))))))
 (.seq (.region [m 14 (l (.slice none 0 0))])
 (.seq (.block 4 (.loop (.seq (.seq (.region [m 73 (t 5),
 n 74 (t 73),
 f 75 1 (t 74),
 r 76 (t 75),
 m 77 (t 0),
 p 78 (.len false (t 77)),
 p 79 (.bin .lss (t 76) (t 78))])
 (.cond (t 79) (.skip)
 (.exit 4)))
 (.block 5 (.region [m 80 (t 14),
 m 81 (t 5),
 c 82 17 [(t 81)],
 a 83 (.buildSlice [(.int .i64 0)] 1 1 [(0, (t 82))]),
 e 84 (.append 1 8 (t 80) (t 83)),
 m 14 (t 84)])))))
 (.seq (.region [p 85 (.load true 6 (t 6)),
 m 86 (t 7),
 m 87 (t 14),
 z (.store 6 (t 2) (t 85)),
 m 3 (t 86),
 m 4 (t 87)])
 (.ret)))))))))))))))⟩
theorem cc8 : cFunc Tryz.prog methNames Tryz.f8 = some c8 := by kernel_rfl
/-- pantry/script.Encode -/
def c9 : AFunc := ⟨79, [.tmp 6, .tmp 7],
  .seq (.region [a 3 (.box (t 0)),
 m 6 (l (.slice none 0 0)),
 m 7 (i 0)])
 (.seq (.region [p 13 (.build [(.slice none 0 0), (.bool false)] []),
 a 14 (.box (t 13)),
 m 8 (t 14)])
 (.seq (.region [m 15 (t 8),
 f 16 0 (t 3),
 r 17 (t 16),
 f 18 1 (t 3),
 r 19 (t 18),
 f 20 2 (t 3),
 r 21 (t 20),
 f 22 3 (t 3),
 r 23 (t 22),
 f 24 4 (t 3),
 r 25 (t 24),
 f 26 5 (t 3),
 r 27 (t 26),
 a 28 (.buildSlice [(.int .i64 0)] 1 6 [(0, (t 17)), (1, (t 19)), (2, (t 21)), (3, (t 23)), (4, (t 25)), (5, (t 27))]),
 c 29 18 [(t 15), (i 255), (t 28)]])
 (.seq (.region [m 30 (t 8),
 m 31 (t 1),
 p 32 (.len false (t 31)),
 a 33 (.buildSlice [(.int .i64 0)] 1 1 [(0, (t 32))]),
 c 34 18 [(t 30), (i 8), (t 33)]])
 (.seq (.seq (.region [m 35 (t 1),
 p 36 (.len false (t 35)),
 m 37 (i 0)])
 (.block 0 (.loop (.seq (.region [p 38 (.bin .lss (t 37) (t 36))])
 (.seq (.cond (t 38) (.skip)
 (.exit 0))
 (.seq (.block 1 (.seq (.region [p 39 (.indexAddr 1 (t 35) (t 37)),
 r 40 (t 39),
 m 10 (t 40)])
 (.seq (.region [m 41 (t 8),
 m 42 (t 10),
 p 43 (.len false (t 42)),
 a 44 (.buildSlice [(.int .i64 0)] 1 1 [(0, (t 43))]),
 c 45 18 [(t 41), (i 32), (t 44)]])
 (.seq (.region [m 46 (t 10),
 p 47 (.len false (t 46)),
 m 48 (i 0)])
 (.block 2 (.loop (.seq (.region [p 49 (.bin .lss (t 48) (t 47))])
 (.seq (.cond (t 49) (.skip)
 (.exit 2))
 (.seq (.block 3 (.seq (.region [p 50 (.indexAddr 4 (t 46) (t 48)),
 p 51 (.load true 4 (t 50)),
 a 12 (.alloc [(.int .i64 0), (.int .i64 0), (.int .i64 0), (.int .i64 0)]),
 z (.store 4 (t 12) (t 51))])
 (.seq (.region [m 52 (t 8),
 f 53 0 (t 12),
 r 54 (t 53),
 a 55 (.buildSlice [(.int .i64 0)] 1 1 [(0, (t 54))]),
 c 56 18 [(t 52), (i 4), (t 55)]])
 (.region [m 57 (t 8),
 f 58 1 (t 12),
 r 59 (t 58),
 f 60 2 (t 12),
 r 61 (t 60),
 f 62 3 (t 12),
 r 63 (t 62),
 a 64 (.buildSlice [(.int .i64 0)] 1 3 [(0, (t 59)), (1, (t 61)), (2, (t 63))]),
 c 65 18 [(t 57), (i 255), (t 64)]]))))
 (.region [p 66 (.bin .add (t 48) (i 1)),
 m 48 (t 66)]))))))))))
 (.region [p 67 (.bin .add (t 37) (i 1)),
 m 37 (t 67)])))))))
 (.seq (.region [m 68 (t 8),
 m 69 (t 2),
 c 70 18 [(t 68), (i 255), (t 69)]])
 (.seq (.seq (.region [m 71 (t 8),
 n 72 (t 71),
 f 73 1 (t 72),
 r 74 (t 73)])
 (.cond (t 74) (.seq (.region [m 6 (l (.slice none 0 0)),
 m 7 (i 1)])
 (.ret))
 (.skip)))
 (.seq (.region [m 75 (t 8),
 n 76 (t 75),
 f 77 0 (t 76),
 r 78 (t 77),
 m 6 (t 78),
 m 7 (i 0)])
 (.ret))))))))⟩
theorem cc9 : cFunc Tryz.prog methNames Tryz.f9 = some c9 := by kernel_rfl
/-- pantry/pantryref26.Encode -/
def c10 : AFunc := ⟨170, [.tmp 6, .tmp 7],
  .seq (.region [a 3 (.box (t 0)),
 m 6 (l (.slice none 0 0)),
 m 7 (i 0)])
 (.seq (.region [f 14 0 (t 3),
 r 15 (t 14),
 c 16 19 [(t 15)],
 m 17 (t 16),
 g 18 (.fieldAddr 1 (t 3)) 17 true,
 g 19 (.load false 1 (t 18)) 17 true,
 ⟨(some 20), .e (.call (.value (l (.func (.func 19) #[] #[]))) [(t 19)]), some (17, true)⟩,
 p 21 (.pick (t 17) (t 20) (l (.bool false))),
 m 22 (t 21),
 g 23 (.fieldAddr 2 (t 3)) 22 true,
 g 24 (.load false 1 (t 23)) 22 true,
 ⟨(some 25), .e (.call (.value (l (.func (.func 19) #[] #[]))) [(t 24)]), some (22, true)⟩,
 p 26 (.pick (t 22) (t 25) (l (.bool false))),
 m 27 (t 26),
 g 28 (.fieldAddr 3 (t 3)) 27 true,
 g 29 (.load false 1 (t 28)) 27 true,
 ⟨(some 30), .e (.call (.value (l (.func (.func 19) #[] #[]))) [(t 29)]), some (27, true)⟩,
 p 31 (.pick (t 27) (t 30) (l (.bool false))),
 m 32 (t 31),
 g 33 (.fieldAddr 4 (t 3)) 32 true,
 g 34 (.load false 1 (t 33)) 32 true,
 ⟨(some 35), .e (.call (.value (l (.func (.func 19) #[] #[]))) [(t 34)]), some (32, true)⟩,
 p 36 (.pick (t 32) (t 35) (l (.bool false))),
 m 37 (t 36),
 g 38 (.fieldAddr 5 (t 3)) 37 true,
 g 39 (.load false 1 (t 38)) 37 true,
 ⟨(some 40), .e (.call (.value (l (.func (.func 19) #[] #[]))) [(t 39)]), some (37, true)⟩,
 p 41 (.pick (t 37) (t 40) (l (.bool false))),
 m 42 (t 41),
 g 43 (.move (t 1)) 42 true,
 g 44 (.len false (t 43)) 42 true,
 g 45 (.bin .leq (t 44) (i 8)) 42 true,
 p 46 (.pick (t 42) (t 45) (l (.bool false))),
 m 8 (t 46)])
 (.seq (.seq (.region [m 47 (t 8),
 p 48 (.not (t 47))])
 (.cond (t 48) (.seq (.region [m 6 (l (.slice none 0 0)),
 m 7 (i 1)])
 (.ret))
 (.skip)))
 (.seq (.region [f 49 0 (t 3),
 r 50 (t 49),
 p 51 (.conv .u8 (t 50)),
 f 52 1 (t 3),
 r 53 (t 52),
 p 54 (.conv .u8 (t 53)),
 f 55 2 (t 3),
 r 56 (t 55),
 p 57 (.conv .u8 (t 56)),
 f 58 3 (t 3),
 r 59 (t 58),
 p 60 (.conv .u8 (t 59)),
 f 61 4 (t 3),
 r 62 (t 61),
 p 63 (.conv .u8 (t 62)),
 f 64 5 (t 3),
 r 65 (t 64),
 p 66 (.conv .u8 (t 65)),
 m 67 (t 1),
 p 68 (.len false (t 67)),
 p 69 (.conv .u8 (t 68)),
 a 70 (.buildSlice [(.int .u8 0)] 1 7 [(0, (t 51)), (1, (t 54)), (2, (t 57)), (3, (t 60)), (4, (t 63)), (5, (t 66)), (6, (t 69))]),
 m 9 (t 70)])
 (.seq (.seq (.region [m 10 (i 0)])
 (.block 0 (.loop (.seq (.seq (.region [m 71 (t 10),
 m 72 (t 1),
 p 73 (.len false (t 72)),
 p 74 (.bin .lss (t 71) (t 73))])
 (.cond (t 74) (.skip)
 (.exit 0)))
 (.seq (.block 1 (.seq (.seq (.region [m 77 (t 1),
 m 78 (t 10),
 p 79 (.indexAddr 1 (t 77) (t 78)),
 r 80 (t 79),
 p 81 (.len false (t 80)),
 p 82 (.bin .gtr (t 81) (i 32))])
 (.cond (t 82) (.seq (.region [m 6 (l (.slice none 0 0)),
 m 7 (i 1)])
 (.ret))
 (.skip)))
 (.seq (.region [m 83 (t 9),
 m 84 (t 1),
 m 85 (t 10),
 p 86 (.indexAddr 1 (t 84) (t 85)),
 r 87 (t 86),
 p 88 (.len false (t 87)),
 p 89 (.conv .u8 (t 88)),
 a 90 (.buildSlice [(.int .u8 0)] 1 1 [(0, (t 89))]),
 e 91 (.append 1 1 (t 83) (t 90)),
 m 9 (t 91)])
 (.seq (.region [m 11 (i 0)])
 (.block 2 (.loop (.seq (.seq (.region [m 92 (t 11),
 m 93 (t 1),
 m 94 (t 10),
 p 95 (.indexAddr 1 (t 93) (t 94)),
 r 96 (t 95),
 p 97 (.len false (t 96)),
 p 98 (.bin .lss (t 92) (t 97))])
 (.cond (t 98) (.skip)
 (.exit 2)))
 (.seq (.block 3 (.seq (.region [m 101 (t 1),
 m 102 (t 10),
 p 103 (.indexAddr 1 (t 101) (t 102)),
 r 104 (t 103),
 m 105 (t 11),
 p 106 (.indexAddr 4 (t 104) (t 105)),
 p 107 (.load true 4 (t 106)),
 a 12 (.alloc [(.int .i64 0), (.int .i64 0), (.int .i64 0), (.int .i64 0)]),
 z (.store 4 (t 12) (t 107))])
 (.seq (.seq (.region [f 108 0 (t 12),
 r 109 (t 108),
 p 110 (.bin .lss (t 109) (i 0)),
 m 111 (t 110),
 g 112 (.fieldAddr 0 (t 12)) 111 false,
 g 113 (.load false 1 (t 112)) 111 false,
 g 114 (.bin .gtr (t 113) (i 4)) 111 false,
 p 115 (.pick (t 111) (l (.bool true)) (t 114)),
 m 116 (t 115),
 g 117 (.fieldAddr 1 (t 12)) 116 false,
 g 118 (.load false 1 (t 117)) 116 false,
 ⟨(some 119), .e (.call (.value (l (.func (.func 19) #[] #[]))) [(t 118)]), some (116, false)⟩,
 g 120 (.not (t 119)) 116 false,
 p 121 (.pick (t 116) (l (.bool true)) (t 120)),
 m 122 (t 121),
 g 123 (.fieldAddr 2 (t 12)) 122 false,
 g 124 (.load false 1 (t 123)) 122 false,
 ⟨(some 125), .e (.call (.value (l (.func (.func 19) #[] #[]))) [(t 124)]), some (122, false)⟩,
 g 126 (.not (t 125)) 122 false,
 p 127 (.pick (t 122) (l (.bool true)) (t 126)),
 m 128 (t 127),
 g 129 (.fieldAddr 3 (t 12)) 128 false,
 g 130 (.load false 1 (t 129)) 128 false,
 ⟨(some 131), .e (.call (.value (l (.func (.func 19) #[] #[]))) [(t 130)]), some (128, false)⟩,
 g 132 (.not (t 131)) 128 false,
 p 133 (.pick (t 128) (l (.bool true)) (t 132))])
 (.cond (t 133) (.seq (.region [m 6 (l (.slice none 0 0)),
 m 7 (i 1)])
 (.ret))
 (.skip)))
 (.region [m 134 (t 9),
 f 135 0 (t 12),
 r 136 (t 135),
 p 137 (.conv .u8 (t 136)),
 f 138 1 (t 12),
 r 139 (t 138),
 p 140 (.conv .u8 (t 139)),
 f 141 2 (t 12),
 r 142 (t 141),
 p 143 (.conv .u8 (t 142)),
 f 144 3 (t 12),
 r 145 (t 144),
 p 146 (.conv .u8 (t 145)),
 a 147 (.buildSlice [(.int .u8 0)] 1 4 [(0, (t 137)), (1, (t 140)), (2, (t 143)), (3, (t 146))]),
 e 148 (.append 1 1 (t 134) (t 147)),
 m 9 (t 148)]))))
 (.region [m 99 (t 11),
 p 100 (.bin .add (t 99) (i 1)),
 m 11 (t 100)])))))))))
 (.region [m 75 (t 10),
 p 76 (.bin .add (t 75) (i 1)),
 m 10 (t 76)]))))))
 (.seq (.seq (.region [m 13 (i 0)])
 (.block 4 (.loop (.seq (.seq (.region [m 149 (t 13),
 m 150 (t 2),
 p 151 (.len false (t 150)),
 p 152 (.bin .lss (t 149) (t 151))])
 (.cond (t 152) (.skip)
 (.exit 4)))
 (.seq (.block 5 (.seq (.seq (.region [m 155 (t 2),
 m 156 (t 13),
 p 157 (.indexAddr 1 (t 155) (t 156)),
 r 158 (t 157),
 c 159 19 [(t 158)],
 p 160 (.not (t 159))])
 (.cond (t 160) (.seq (.region [m 6 (l (.slice none 0 0)),
 m 7 (i 1)])
 (.ret))
 (.skip)))
 (.region [m 161 (t 9),
 m 162 (t 2),
 m 163 (t 13),
 p 164 (.indexAddr 1 (t 162) (t 163)),
 r 165 (t 164),
 p 166 (.conv .u8 (t 165)),
 a 167 (.buildSlice [(.int .u8 0)] 1 1 [(0, (t 166))]),
 e 168 (.append 1 1 (t 161) (t 167)),
 m 9 (t 168)])))
 (.region [m 153 (t 13),
 p 154 (.bin .add (t 153) (i 1)),
 m 13 (t 154)]))))))
 (.seq (.region [m 169 (t 9),
 m 6 (t 169),
 m 7 (i 0)])
 (.ret)))))))⟩
theorem cc10 : cFunc Tryz.prog methNames Tryz.f10 = some c10 := by kernel_rfl
/-- pantry/pantryref26.Programs -/
def c11 : AFunc := ⟨53, [.tmp 4],
  .seq (.region [m 4 (l (.bool false))])
 (.seq (.seq (.region [m 7 (t 0),
 p 8 (.len false (t 7)),
 m 9 (t 1),
 p 10 (.len false (t 9)),
 p 11 (.bin .neq (t 8) (t 10))])
 (.cond (t 11) (.seq (.region [m 4 (l (.bool false))])
 (.ret))
 (.skip)))
 (.seq (.seq (.region [m 5 (i 0)])
 (.block 0 (.loop (.seq (.seq (.region [m 12 (t 5),
 m 13 (t 0),
 p 14 (.len false (t 13)),
 p 15 (.bin .lss (t 12) (t 14))])
 (.cond (t 15) (.skip)
 (.exit 0)))
 (.seq (.block 1 (.seq (.seq (.draw [d (m 18 (t 0)),
 d (m 19 (t 5)),
 d (p 20 (.indexAddr 1 (t 18) (t 19))),
 d (r 21 (t 20)),
 d (p 22 (.len false (t 21))),
 d (m 23 (t 1)),
 d (m 24 (t 5)),
 d (p 25 (.indexAddr 1 (t 23) (t 24))),
 d (r 26 (t 25)),
 d (p 27 (.len false (t 26))),
 d (p 28 (.bin .neq (t 22) (t 27)))])
 (.cond (t 28) (.seq (.region [m 4 (l (.bool false))])
 (.ret))
 (.skip)))
 (.seq (.region [m 6 (i 0)])
 (.block 2 (.loop (.seq (.seq (.region [m 29 (t 6),
 m 30 (t 0),
 m 31 (t 5),
 p 32 (.indexAddr 1 (t 30) (t 31)),
 r 33 (t 32),
 p 34 (.len false (t 33)),
 p 35 (.bin .lss (t 29) (t 34))])
 (.cond (t 35) (.skip)
 (.exit 2)))
 (.seq (.block 3 (.seq (.draw [d (m 38 (t 0)),
 d (m 39 (t 5)),
 d (p 40 (.indexAddr 1 (t 38) (t 39))),
 d (r 41 (t 40)),
 d (m 42 (t 6)),
 d (p 43 (.indexAddr 4 (t 41) (t 42))),
 d (p 44 (.load true 4 (t 43))),
 d (m 45 (t 1)),
 d (m 46 (t 5)),
 d (p 47 (.indexAddr 1 (t 45) (t 46))),
 d (r 48 (t 47)),
 d (m 49 (t 6)),
 d (p 50 (.indexAddr 4 (t 48) (t 49))),
 d (p 51 (.load true 4 (t 50))),
 d (p 52 (.eqAgg true [false, false, false, false] (t 44) (t 51)))])
 (.cond (t 52) (.seq (.region [m 4 (l (.bool false))])
 (.ret))
 (.skip))))
 (.region [m 36 (t 6),
 p 37 (.bin .add (t 36) (i 1)),
 m 6 (t 37)]))))))))
 (.region [m 16 (t 5),
 p 17 (.bin .add (t 16) (i 1)),
 m 5 (t 17)]))))))
 (.seq (.region [m 4 (l (.bool true))])
 (.ret))))⟩
theorem cc11 : cFunc Tryz.prog methNames Tryz.f11 = some c11 := by kernel_rfl
/-- pantry/pantryref03.Ints -/
def c12 : AFunc := ⟨26, [.tmp 4],
  .seq (.region [m 4 (l (.bool false))])
 (.seq (.seq (.region [m 6 (t 0),
 p 7 (.len false (t 6)),
 m 8 (t 1),
 p 9 (.len false (t 8)),
 p 10 (.bin .neq (t 7) (t 9))])
 (.cond (t 10) (.seq (.region [m 4 (l (.bool false))])
 (.ret))
 (.skip)))
 (.seq (.seq (.region [m 5 (i 0)])
 (.block 0 (.loop (.seq (.seq (.region [m 11 (t 5),
 m 12 (t 0),
 p 13 (.len false (t 12)),
 p 14 (.bin .lss (t 11) (t 13))])
 (.cond (t 14) (.skip)
 (.exit 0)))
 (.seq (.block 1 (.seq (.draw [d (m 17 (t 0)),
 d (m 18 (t 5)),
 d (p 19 (.indexAddr 1 (t 17) (t 18))),
 d (r 20 (t 19)),
 d (m 21 (t 1)),
 d (m 22 (t 5)),
 d (p 23 (.indexAddr 1 (t 21) (t 22))),
 d (r 24 (t 23)),
 d (p 25 (.bin .neq (t 20) (t 24)))])
 (.cond (t 25) (.seq (.region [m 4 (l (.bool false))])
 (.ret))
 (.skip))))
 (.region [m 15 (t 5),
 p 16 (.bin .add (t 15) (i 1)),
 m 5 (t 16)]))))))
 (.seq (.region [m 4 (l (.bool true))])
 (.ret))))⟩
theorem cc12 : cFunc Tryz.prog methNames Tryz.f12 = some c12 := by kernel_rfl
/-- pantry/pantrylaw26.program -/
def c13 : AFunc := ⟨7, [.tmp 0],
  .seq (.region [m 0 (l (.slice none 0 0))])
 (.seq (.region [p 1 (.build [(.int .i64 0), (.int .i64 0), (.int .i64 0), (.int .i64 0)] [(0, 1, (i 2)), (1, 1, (i 1)), (2, 1, (i 9)), (3, 1, (i 1))]),
 p 2 (.build [(.int .i64 0), (.int .i64 0), (.int .i64 0), (.int .i64 0)] [(0, 1, (i 2)), (1, 1, (i 2)), (2, 1, (i 8)), (3, 1, (i 1))]),
 a 3 (.buildSlice [(.int .i64 0), (.int .i64 0), (.int .i64 0), (.int .i64 0)] 4 2 [(0, (t 1)), (1, (t 2))]),
 p 4 (.build [(.int .i64 0), (.int .i64 0), (.int .i64 0), (.int .i64 0)] [(0, 1, (i 1)), (1, 1, (i 1))]),
 a 5 (.buildSlice [(.int .i64 0), (.int .i64 0), (.int .i64 0), (.int .i64 0)] 4 1 [(0, (t 4))]),
 a 6 (.buildSlice [(.slice none 0 0)] 1 2 [(0, (t 3)), (1, (t 5))]),
 m 0 (t 6)])
 (.ret))⟩
theorem cc13 : cFunc Tryz.prog methNames Tryz.f13 = some c13 := by kernel_rfl
/-- pantry/script.Run -/
def c14 : AFunc := ⟨54, [.cell true 7 4, .tmp 5],
  .seq (.region [a 4 (.alloc [(.int .i64 0), (.bool false), (.int .i64 0), (.int .i64 0), (.int .i64 0), (.int .i64 0), (.int .i64 0)]),
 m 5 (i 0)])
 (.seq (.region [m 13 (t 0),
 m 14 (t 1),
 c 15 20 [(t 13), (t 14)],
 m 12 (t 15),
 p 16 (.extract (t 12) 0),
 p 17 (.extract (t 12) 1),
 m 6 (t 16),
 m 7 (t 17)])
 (.seq (.region [m 18 (t 6),
 c 19 21 [(t 18)],
 m 8 (t 19)])
 (.seq (.region [m 20 (t 7),
 m 21 (t 6),
 c 22 23 [(t 21)],
 c 23 22 [(t 22), (l (.bool true))],
 p 24 (.not (t 23)),
 m 25 (t 8),
 c 26 24 [(t 25)],
 p 27 (.len false (t 26)),
 m 28 (t 6),
 c 29 25 [(t 28)],
 p 30 (.len false (t 29)),
 m 31 (t 6),
 c 32 26 [(t 31)],
 m 33 (t 6),
 c 34 27 [(t 33)],
 p 35 (.build [(.int .i64 0), (.bool false), (.int .i64 0), (.int .i64 0), (.int .i64 0), (.int .i64 0), (.int .i64 0)] [(0, 1, (t 20)), (1, 1, (t 24)), (2, 1, (t 27)), (4, 1, (t 30)), (5, 1, (t 32)), (6, 1, (t 34))]),
 a 9 (.alloc [(.int .i64 0), (.bool false), (.int .i64 0), (.int .i64 0), (.int .i64 0), (.int .i64 0), (.int .i64 0)]),
 z (.store 7 (t 9) (t 35))])
 (.seq (.seq (.region [m 36 (t 8),
 c 37 24 [(t 36)],
 p 38 (.len false (t 37)),
 m 39 (i 0)])
 (.block 0 (.loop (.seq (.region [p 40 (.bin .lss (t 39) (t 38))])
 (.seq (.cond (t 40) (.skip)
 (.exit 0))
 (.seq (.block 1 (.seq (.region [p 41 (.indexAddr 4 (t 37) (t 39)),
 p 42 (.load true 4 (t 41)),
 a 11 (.alloc [(.int .i64 0), (.int .i64 0), (.int .i64 0), (.bool false)]),
 z (.store 4 (t 11) (t 42))])
 (.seq (.region [f 43 0 (t 11),
 r 44 (t 43),
 p 45 (.bin .eql (t 44) (i 4))])
 (.cond (t 45) (.region [f 46 3 (t 9),
 r 47 (t 46),
 p 48 (.bin .add (t 47) (i 1)),
 f 49 3 (t 9),
 z (.store 1 (t 49) (t 48))])
 (.skip)))))
 (.region [p 50 (.bin .add (t 39) (i 1)),
 m 39 (t 50)])))))))
 (.seq (.draw [d (m 52 (t 8)),
 d (c 53 28 [(t 52)]),
 (p 51 (.load true 7 (t 9)), [0]),
 d (z (.store 7 (t 4) (t 51))),
 d (m 5 (t 53))])
 (.ret))))))⟩
theorem cc14 : cFunc Tryz.prog methNames Tryz.f14 = some c14 := by kernel_rfl
/-- pantry/script.Records -/
def c15 : AFunc := ⟨15, [.tmp 4],
  .seq (.region [m 4 (l (.slice none 0 0))])
 (.seq (.region [m 8 (t 0),
 m 9 (t 1),
 c 10 20 [(t 8), (t 9)],
 m 7 (t 10),
 p 11 (.extract (t 7) 0),
 p 12 (.extract (t 7) 1),
 m 5 (t 11),
 m 6 (t 12)])
 (.seq (.region [m 13 (t 5),
 c 14 21 [(t 13)],
 m 4 (t 14)])
 (.ret)))⟩
theorem cc15 : cFunc Tryz.prog methNames Tryz.f15 = some c15 := by kernel_rfl
/-- pantry/script.Decode$1 -/
def c16 : AFunc := ⟨13, [.tmp 1],
  .seq (.region [m 1 (i 0)])
 (.seq (.seq (.region [r 3 (t 0),
 p 4 (.len false (t 3)),
 p 5 (.bin .eql (t 4) (i 0))])
 (.cond (t 5) (.seq (.region [m 1 (i 0)])
 (.ret))
 (.skip)))
 (.seq (.region [r 6 (t 0),
 p 7 (.indexAddr 1 (t 6) (i 0)),
 r 8 (t 7),
 p 9 (.conv .i64 (t 8)),
 m 2 (t 9)])
 (.seq (.region [r 10 (t 0),
 p 11 (.slice false 1 (t 10) (some (i 1)) none none),
 z (.store 1 (t 0) (t 11))])
 (.seq (.region [m 12 (t 2),
 m 1 (t 12)])
 (.ret)))))⟩
theorem cc16 : cFunc Tryz.prog methNames Tryz.f16 = some c16 := by kernel_rfl
/-- (*pantry/pantryref26.reader).next -/
def c17 : AFunc := ⟨32, [.tmp 2],
  .seq (.region [m 2 (i 0)])
 (.seq (.seq (.draw [d (m 3 (t 0)),
 d (n 4 (t 3)),
 d (f 5 1 (t 4)),
 d (r 6 (t 5)),
 d (m 7 (t 0)),
 d (n 8 (t 7)),
 d (f 9 0 (t 8)),
 d (r 10 (t 9)),
 d (p 11 (.len false (t 10))),
 d (p 12 (.bin .geq (t 6) (t 11)))])
 (.cond (t 12) (.seq (.region [m 2 (i 0)])
 (.ret))
 (.skip)))
 (.seq (.region [m 13 (t 0),
 n 14 (t 13),
 f 15 1 (t 14),
 r 16 (t 15),
 p 17 (.bin .add (t 16) (i 1)),
 n 18 (t 13),
 f 19 1 (t 18),
 z (.store 1 (t 19) (t 17))])
 (.seq (.draw [d (m 20 (t 0)),
 d (n 21 (t 20)),
 d (f 22 0 (t 21)),
 d (r 23 (t 22)),
 d (m 24 (t 0)),
 d (n 25 (t 24)),
 d (f 26 1 (t 25)),
 d (r 27 (t 26)),
 d (p 28 (.bin .sub (t 27) (i 1))),
 d (p 29 (.indexAddr 1 (t 23) (t 28))),
 d (r 30 (t 29)),
 d (p 31 (.conv .i64 (t 30))),
 d (m 2 (t 31))])
 (.ret))))⟩
theorem cc17 : cFunc Tryz.prog methNames Tryz.f17 = some c17 := by kernel_rfl
/-- (*pantry/script.writer).put -/
def c18 : AFunc := ⟨42, [],
  .seq (.region [m 8 (t 2),
 p 9 (.len false (t 8)),
 m 10 (i 0)])
 (.block 0 (.loop (.seq (.region [p 11 (.bin .lss (t 10) (t 9))])
 (.seq (.cond (t 11) (.skip)
 (.exit 0))
 (.seq (.block 1 (.seq (.region [p 12 (.indexAddr 1 (t 8) (t 10)),
 r 13 (t 12),
 m 7 (t 13)])
 (.seq (.region [m 14 (t 0),
 m 15 (t 0),
 n 16 (t 15),
 f 17 1 (t 16),
 r 18 (t 17),
 m 19 (t 18),
 g 20 (.move (t 7)) 19 false,
 g 21 (.bin .lss (t 20) (i 0)) 19 false,
 p 22 (.pick (t 19) (l (.bool true)) (t 21)),
 m 23 (t 22),
 g 24 (.move (t 7)) 23 false,
 g 25 (.move (t 1)) 23 false,
 g 26 (.bin .gtr (t 24) (t 25)) 23 false,
 p 27 (.pick (t 23) (l (.bool true)) (t 26)),
 n 28 (t 14),
 f 29 1 (t 28),
 z (.store 1 (t 29) (t 27))])
 (.region [m 30 (t 0),
 m 31 (t 0),
 n 32 (t 31),
 f 33 0 (t 32),
 r 34 (t 33),
 m 35 (t 7),
 p 36 (.conv .u8 (t 35)),
 a 37 (.buildSlice [(.int .u8 0)] 1 1 [(0, (t 36))]),
 e 38 (.append 1 1 (t 34) (t 37)),
 n 39 (t 30),
 f 40 0 (t 39),
 z (.store 1 (t 40) (t 38))]))))
 (.region [p 41 (.bin .add (t 10) (i 1)),
 m 10 (t 41)]))))))⟩
theorem cc18 : cFunc Tryz.prog methNames Tryz.f18 = some c18 := by kernel_rfl
/-- pantry/pantryref26.byteOf -/
def c19 : AFunc := ⟨9, [.tmp 2],
  .seq (.region [m 2 (l (.bool false))])
 (.seq (.region [m 3 (t 0),
 p 4 (.bin .geq (t 3) (i 0)),
 m 5 (t 4),
 g 6 (.move (t 0)) 5 true,
 g 7 (.bin .leq (t 6) (i 255)) 5 true,
 p 8 (.pick (t 5) (t 7) (l (.bool false))),
 m 2 (t 8)])
 (.ret))⟩
theorem cc19 : cFunc Tryz.prog methNames Tryz.f19 = some c19 := by kernel_rfl
/-- pantry/script.machine -/
def c20 : AFunc := ⟨37, [.tmp 4, .tmp 5],
  .seq (.region [m 4 (l (.pointer none)),
 m 5 (i 0)])
 (.seq (.region [m 12 (t 0),
 c 13 7 [(t 12)],
 m 11 (t 13),
 p 14 (.extract (t 11) 0),
 p 15 (.extract (t 11) 1),
 p 16 (.extract (t 11) 2),
 a 6 (.alloc [(.int .i64 0), (.int .i64 0), (.int .i64 0), (.int .i64 0), (.int .i64 0), (.int .i64 0)]),
 z (.store 6 (t 6) (t 14)),
 m 7 (t 15),
 m 8 (t 16)])
 (.seq (.region [p 17 (.load true 6 (t 6)),
 m 18 (t 7),
 c 19 29 [(t 17), (t 18)],
 m 9 (t 19)])
 (.seq (.region [m 20 (t 9),
 m 21 (t 8),
 m 22 (t 1),
 c 23 30 [(t 20), (t 21), (t 22)],
 m 10 (t 23)])
 (.seq (.seq (.region [m 24 (t 7),
 p 25 (.len false (t 24)),
 p 26 (.bin .gtr (t 25) (i 0))])
 (.cond (t 26) (.region [m 27 (t 10),
 m 28 (t 9),
 m 29 (t 7),
 p 30 (.len false (t 29)),
 c 31 31 [(t 30), (i 1)],
 m 32 (t 1),
 c 33 30 [(t 28), (t 31), (t 32)],
 p 34 (.bin .add (t 27) (t 33)),
 m 10 (t 34)])
 (.skip)))
 (.seq (.region [m 35 (t 9),
 m 36 (t 10),
 m 4 (t 35),
 m 5 (t 36)])
 (.ret))))))⟩
theorem cc20 : cFunc Tryz.prog methNames Tryz.f20 = some c20 := by kernel_rfl
/-- (*pantry/conc.Machine).Records -/
def c21 : AFunc := ⟨11, [.tmp 2],
  .seq (.region [m 2 (l (.slice none 0 0))])
 (.seq (.region [m 3 (t 0),
 n 4 (t 3),
 f 5 0 (t 4),
 r 6 (t 5),
 n 7 (t 6),
 f 8 7 (t 7),
 r 9 (t 8),
 c 10 32 [(t 9)],
 m 2 (t 10)])
 (.ret))⟩
theorem cc21 : cFunc Tryz.prog methNames Tryz.f21 = some c21 := by kernel_rfl
/-- slices.Contains[[]bool,bool] -/
def c22 : AFunc := ⟨9, [.tmp 4],
  .seq (.region [m 4 (l (.bool false))])
 (.seq (.region [m 5 (t 0),
 m 6 (t 1),
 c 7 33 [(t 5), (t 6)],
 p 8 (.bin .geq (t 7) (i 0)),
 m 4 (t 8)])
 (.ret))⟩
theorem cc22 : cFunc Tryz.prog methNames Tryz.f22 = some c22 := by kernel_rfl
/-- (*pantry/conc.Machine).Left -/
def c23 : AFunc := ⟨30, [.tmp 2],
  .seq (.region [m 2 (l (.slice none 0 0))])
 (.seq (.region [m 3 (l (.slice none 0 0))])
 (.seq (.seq (.region [m 6 (t 0),
 n 7 (t 6),
 f 8 1 (t 7),
 r 9 (t 8),
 p 10 (.len false (t 9)),
 m 11 (i 0)])
 (.block 0 (.loop (.seq (.region [p 12 (.bin .lss (t 11) (t 10))])
 (.seq (.cond (t 12) (.skip)
 (.exit 0))
 (.seq (.block 1 (.seq (.region [p 13 (.indexAddr 1 (t 9) (t 11)),
 r 14 (t 13),
 m 5 (t 14)])
 (.draw [d (m 15 (t 3)),
 d (m 16 (t 5)),
 d (n 17 (t 16)),
 d (f 18 3 (t 17)),
 d (r 19 (t 18)),
 d (m 20 (t 5)),
 d (n 21 (t 20)),
 d (f 22 2 (t 21)),
 d (r 23 (t 22)),
 d (p 24 (.len false (t 23))),
 d (p 25 (.bin .lss (t 19) (t 24))),
 d (a 26 (.buildSlice [(.bool false)] 1 1 [(0, (t 25))])),
 d (e 27 (.append 1 1 (t 15) (t 26))),
 d (m 3 (t 27))])))
 (.region [p 28 (.bin .add (t 11) (i 1)),
 m 11 (t 28)])))))))
 (.seq (.region [m 29 (t 3),
 m 2 (t 29)])
 (.ret))))⟩
theorem cc23 : cFunc Tryz.prog methNames Tryz.f23 = some c23 := by kernel_rfl
/-- pantry/hist.Commits -/
def c24 : AFunc := ⟨25, [.tmp 2],
  .seq (.region [m 2 (l (.slice none 0 0))])
 (.seq (.region [m 3 (l (.slice none 0 0))])
 (.seq (.seq (.region [m 6 (t 0),
 c 7 34 [(t 6)],
 p 8 (.not (t 7))])
 (.cond (t 8) (.seq (.region [m 2 (l (.slice none 0 0))])
 (.ret))
 (.skip)))
 (.seq (.seq (.region [m 9 (t 0),
 p 10 (.len false (t 9)),
 m 11 (i 0)])
 (.block 0 (.loop (.seq (.region [p 12 (.bin .lss (t 11) (t 10))])
 (.seq (.cond (t 12) (.skip)
 (.exit 0))
 (.seq (.block 1 (.seq (.region [p 13 (.indexAddr 8 (t 9) (t 11)),
 p 14 (.load true 8 (t 13)),
 a 5 (.alloc [(.int .i64 0), (.int .i64 0), (.int .i64 0), (.int .i64 0), (.int .i64 0), (.int .i64 0), (.bool false), (.int .i64 0)]),
 z (.store 8 (t 5) (t 14))])
 (.seq (.region [f 15 2 (t 5),
 r 16 (t 15),
 p 17 (.bin .eql (t 16) (i 2))])
 (.cond (t 17) (.region [m 18 (t 3),
 f 19 3 (t 5),
 p 20 (.load true 4 (t 19)),
 a 21 (.buildSlice [(.int .i64 0), (.int .i64 0), (.int .i64 0), (.bool false)] 4 1 [(0, (t 20))]),
 e 22 (.append 4 32 (t 18) (t 21)),
 m 3 (t 22)])
 (.skip)))))
 (.region [p 23 (.bin .add (t 11) (i 1)),
 m 11 (t 23)])))))))
 (.seq (.region [m 24 (t 3),
 m 2 (t 24)])
 (.ret)))))⟩
theorem cc24 : cFunc Tryz.prog methNames Tryz.f24 = some c24 := by kernel_rfl
/-- (*pantry/conc.Machine).Keys -/
def c25 : AFunc := ⟨26, [.tmp 2],
  .seq (.region [m 2 (l (.slice none 0 0))])
 (.seq (.region [m 3 (l (.slice none 0 0))])
 (.seq (.seq (.region [m 6 (t 0),
 n 7 (t 6),
 f 8 0 (t 7),
 r 9 (t 8),
 n 10 (t 9),
 f 11 1 (t 10),
 r 12 (t 11),
 c 13 35 [(t 12)],
 p 14 (.len false (t 13)),
 m 15 (i 0)])
 (.block 0 (.loop (.seq (.region [p 16 (.bin .lss (t 15) (t 14))])
 (.seq (.cond (t 16) (.skip)
 (.exit 0))
 (.seq (.block 1 (.seq (.region [p 17 (.indexAddr 4 (t 13) (t 15)),
 p 18 (.load true 4 (t 17)),
 a 5 (.alloc [(.int .i64 0), (.int .i64 0), (.int .i64 0), (.int .i64 0)]),
 z (.store 4 (t 5) (t 18))])
 (.region [m 19 (t 3),
 f 20 0 (t 5),
 r 21 (t 20),
 a 22 (.buildSlice [(.int .i64 0)] 1 1 [(0, (t 21))]),
 e 23 (.append 1 8 (t 19) (t 22)),
 m 3 (t 23)])))
 (.region [p 24 (.bin .add (t 15) (i 1)),
 m 15 (t 24)])))))))
 (.seq (.region [m 25 (t 3),
 m 2 (t 25)])
 (.ret))))⟩
theorem cc25 : cFunc Tryz.prog methNames Tryz.f25 = some c25 := by kernel_rfl
/-- (*pantry/conc.Machine).Weight -/
def c26 : AFunc := ⟨11, [.tmp 2],
  .seq (.region [m 2 (i 0)])
 (.seq (.region [m 3 (t 0),
 n 4 (t 3),
 f 5 0 (t 4),
 r 6 (t 5),
 n 7 (t 6),
 f 8 1 (t 7),
 r 9 (t 8),
 c 10 36 [(t 9)],
 m 2 (t 10)])
 (.ret))⟩
theorem cc26 : cFunc Tryz.prog methNames Tryz.f26 = some c26 := by kernel_rfl
/-- (*pantry/conc.Machine).Lost -/
def c27 : AFunc := ⟨11, [.tmp 2],
  .seq (.region [m 2 (i 0)])
 (.seq (.region [m 3 (t 0),
 n 4 (t 3),
 f 5 0 (t 4),
 r 6 (t 5),
 n 7 (t 6),
 f 8 3 (t 7),
 r 9 (t 8),
 c 10 37 [(t 9)],
 m 2 (t 10)])
 (.ret))⟩
theorem cc27 : cFunc Tryz.prog methNames Tryz.f27 = some c27 := by kernel_rfl
/-- pantry/witness.Check -/
def c28 : AFunc := ⟨32, [.tmp 2],
  .seq (.region [a 1 (.box (t 0)),
 m 2 (i 0)])
 (.seq (.seq (.region [r 7 (t 1),
 c 8 34 [(t 7)],
 p 9 (.not (t 8))])
 (.cond (t 9) (.seq (.region [m 2 (i 7)])
 (.ret))
 (.skip)))
 (.seq (.draw [d (r 10 (t 1)),
 d (c 11 38 [(t 10)]),
 (r 12 (t 1), [0]),
 d (c 13 39 [(t 12)]),
 d (m 3 (t 11)),
 d (m 4 (t 13))])
 (.seq (.region [p 14 (.makeFunc 40 [] [(t 1)]),
 m 5 (t 14)])
 (.seq (.seq (.region [m 15 (t 3),
 m 16 (t 5),
 c 17 42 [(t 15), (t 16)],
 m 18 (t 17),
 g 19 (.move (t 3)) 18 false,
 g 20 (.move (t 4)) 18 false,
 ⟨(some 21), .e (.call (.value (l (.func (.func 43) #[] #[]))) [(t 19), (t 20)]), some (18, false)⟩,
 g 22 (.not (t 21)) 18 false,
 p 23 (.pick (t 18) (l (.bool true)) (t 22))])
 (.cond (t 23) (.seq (.region [m 2 (i 1)])
 (.ret))
 (.skip)))
 (.seq (.seq (.region [r 24 (t 1),
 m 25 (t 4),
 c 26 44 [(t 24), (t 25)],
 m 6 (t 26)])
 (.seq (.region [m 27 (t 6),
 c 28 45 [(t 27)],
 m 29 (t 6),
 p 30 (.len false (t 29)),
 p 31 (.bin .lss (t 28) (t 30))])
 (.cond (t 31) (.seq (.region [m 2 (i 3)])
 (.ret))
 (.skip))))
 (.seq (.region [m 2 (i 0)])
 (.ret)))))))⟩
theorem cc28 : cFunc Tryz.prog methNames Tryz.f28 = some c28 := by kernel_rfl
/-- pantry/conc.New -/
def c29 : AFunc := ⟨83, [.tmp 4],
  .seq (.region [a 2 (.box (t 0)),
 m 4 (l (.pointer none))])
 (.seq (.draw [d (f 14 2 (t 2)),
 d (r 15 (t 14)),
 d (f 16 1 (t 2)),
 d (r 17 (t 16)),
 d (c 18 46 [(t 15), (t 17)]),
 d (f 19 0 (t 2)),
 (r 20 (t 19), [1]),
 d (f 21 1 (t 2)),
 (r 22 (t 21), [3]),
 d (c 23 47 [(t 20), (t 22)]),
 d (f 24 3 (t 2)),
 (r 25 (t 24), [1, 6]),
 d (f 26 4 (t 2)),
 (r 27 (t 26), [3, 8]),
 d (f 28 1 (t 2)),
 (r 29 (t 28), [5, 10]),
 d (c 30 48 [(t 25), (t 27), (t 29)]),
 d (f 31 5 (t 2)),
 (r 32 (t 31), [1, 8, 13]),
 d (c 33 49 [(t 32)]),
 d (f 10 0 (t 2)),
 (r 11 (t 10), [1, 4, 11, 16]),
 d (p 12 (.max [(i 0), (t 11)])),
 d (p 13 (.min [(t 12), (i 4611686018427387903)])),
 d (a 34 (.makeMap)),
 d (p 35 (.build [(.int .i64 0), (.pointer none), (.pointer none), (.pointer none), (.pointer none), (.pointer none), (.map none), (.slice none 0 0), (.slice none 0 0)] [(0, 1, (t 13)), (1, 1, (t 18)), (2, 1, (t 23)), (3, 1, (t 30)), (4, 1, (t 33)), (6, 1, (t 34))])),
 d (a 36 (.box (t 35))),
 d (m 5 (t 36))])
 (.seq (.region [m 37 (t 5),
 m 38 (t 5),
 n 39 (t 38),
 f 40 1 (t 39),
 r 41 (t 40),
 c 42 51 [(t 41)],
 p 43 (.bin .add (t 42) (i 1)),
 c 44 50 [(i 1), (t 43)],
 n 45 (t 37),
 f 46 5 (t 45),
 z (.store 1 (t 46) (t 44))])
 (.seq (.region [m 47 (t 5),
 p 48 (.build [(.pointer none), (.slice none 0 0)] [(0, 1, (t 47))]),
 a 49 (.box (t 48)),
 m 6 (t 49)])
 (.seq (.seq (.region [m 50 (t 1),
 m 51 (t 1),
 p 52 (.len false (t 51)),
 p 53 (.min [(t 52), (i 64)]),
 p 54 (.slice false 1 (t 50) none (some (t 53)) none),
 p 55 (.len false (t 54)),
 m 56 (i 0)])
 (.block 0 (.loop (.seq (.region [p 57 (.bin .lss (t 56) (t 55))])
 (.seq (.cond (t 57) (.skip)
 (.exit 0))
 (.seq (.block 1 (.seq (.region [m 58 (t 56),
 p 59 (.indexAddr 1 (t 54) (t 56)),
 r 60 (t 59),
 m 7 (t 58),
 m 8 (t 60)])
 (.seq (.region [m 61 (t 8),
 m 62 (t 8),
 p 63 (.len false (t 62)),
 p 64 (.min [(t 63), (i 1024)]),
 p 65 (.slice false 4 (t 61) none (some (t 64)) none),
 c 66 52 [(t 65)],
 m 9 (t 66)])
 (.region [m 67 (t 6),
 m 68 (t 6),
 n 69 (t 68),
 f 70 1 (t 69),
 r 71 (t 70),
 m 72 (t 5),
 m 73 (t 7),
 m 74 (t 9),
 p 75 (.build [(.pointer none), (.int .i64 0), (.slice none 0 0), (.int .i64 0), (.int .i64 0), (.int .i64 0), (.int .i64 0), (.int .i64 0), (.bool false), (.int .i64 0), (.int .i64 0), (.int .i64 0), (.slice none 0 0)] [(0, 1, (t 72)), (1, 1, (t 73)), (2, 1, (t 74))]),
 a 76 (.box (t 75)),
 a 77 (.buildSlice [(.pointer none)] 1 1 [(0, (t 76))]),
 e 78 (.append 1 8 (t 71) (t 77)),
 n 79 (t 67),
 f 80 1 (t 79),
 z (.store 1 (t 80) (t 78))]))))
 (.region [p 81 (.bin .add (t 56) (i 1)),
 m 56 (t 81)])))))))
 (.seq (.region [m 82 (t 6),
 m 4 (t 82)])
 (.ret))))))⟩
theorem cc29 : cFunc Tryz.prog methNames Tryz.f29 = some c29 := by kernel_rfl
/-- (*pantry/conc.Machine).Run -/
def c30 : AFunc := ⟨38, [.tmp 6],
  .seq (.region [m 6 (i 0)])
 (.seq (.seq (.region [m 10 (t 2),
 p 11 (.max [(i 0), (t 10)]),
 m 12 (i 0)])
 (.block 0 (.loop (.seq (.region [p 13 (.bin .lss (t 12) (t 11))])
 (.seq (.cond (t 13) (.skip)
 (.exit 0))
 (.seq (.block 1 (.seq (.region [m 14 (t 12),
 m 7 (t 14)])
 (.seq (.region [m 8 (i 0)])
 (.seq (.seq (.region [m 15 (t 1),
 p 16 (.len false (t 15)),
 p 17 (.bin .gtr (t 16) (i 0))])
 (.cond (t 17) (.region [m 18 (t 1),
 m 19 (t 7),
 m 20 (t 1),
 p 21 (.len false (t 20)),
 p 22 (.bin .rem (t 19) (t 21)),
 p 23 (.indexAddr 1 (t 18) (t 22)),
 r 24 (t 23),
 m 8 (t 24)])
 (.skip)))
 (.seq (.region [m 25 (t 8),
 m 26 (t 0),
 c 27 23 [(t 26)],
 c 28 53 [(t 25), (t 27)],
 m 9 (t 28)])
 (.seq (.seq (.region [m 29 (t 9),
 p 30 (.bin .lss (t 29) (i 0))])
 (.cond (t 30) (.seq (.region [m 31 (t 7),
 m 6 (t 31)])
 (.ret))
 (.skip)))
 (.region [m 32 (t 0),
 m 33 (t 9),
 c 34 54 [(t 32), (t 33)]])))))))
 (.region [p 35 (.bin .add (t 12) (i 1)),
 m 12 (t 35)])))))))
 (.seq (.region [m 36 (t 2),
 p 37 (.max [(i 0), (t 36)]),
 m 6 (t 37)])
 (.ret)))⟩
theorem cc30 : cFunc Tryz.prog methNames Tryz.f30 = some c30 := by kernel_rfl
/-- pantry/picks.Round -/
def c31 : AFunc := ⟨33, [.tmp 4],
  .seq (.region [m 4 (l (.slice none 0 0))])
 (.seq (.seq (.region [m 7 (t 0),
 p 8 (.bin .lss (t 7) (i 1)),
 m 9 (t 8),
 g 10 (.move (t 1)) 9 false,
 g 11 (.bin .lss (t 10) (i 1)) 9 false,
 p 12 (.pick (t 9) (l (.bool true)) (t 11)),
 m 13 (t 12),
 g 14 (.move (t 0)) 13 false,
 g 15 (.move (t 1)) 13 false,
 g 16 (.bin .quo (i 65536) (t 15)) 13 false,
 g 17 (.bin .gtr (t 14) (t 16)) 13 false,
 p 18 (.pick (t 13) (l (.bool true)) (t 17))])
 (.cond (t 18) (.seq (.region [m 4 (l (.slice none 0 0))])
 (.ret))
 (.skip)))
 (.seq (.region [m 5 (l (.slice none 0 0))])
 (.seq (.seq (.region [m 19 (t 1),
 m 20 (i 0)])
 (.block 0 (.loop (.seq (.region [p 21 (.bin .lss (t 20) (t 19))])
 (.seq (.cond (t 21) (.skip)
 (.exit 0))
 (.seq (.block 1 (.seq (.region [m 22 (t 0),
 m 23 (i 0)])
 (.block 2 (.loop (.seq (.region [p 24 (.bin .lss (t 23) (t 22))])
 (.seq (.cond (t 24) (.skip)
 (.exit 2))
 (.seq (.block 3 (.seq (.region [m 25 (t 23),
 m 6 (t 25)])
 (.region [m 26 (t 5),
 m 27 (t 6),
 a 28 (.buildSlice [(.int .i64 0)] 1 1 [(0, (t 27))]),
 e 29 (.append 1 8 (t 26) (t 28)),
 m 5 (t 29)])))
 (.region [p 30 (.bin .add (t 23) (i 1)),
 m 23 (t 30)]))))))))
 (.region [p 31 (.bin .add (t 20) (i 1)),
 m 20 (t 31)])))))))
 (.seq (.region [m 32 (t 5),
 m 4 (t 32)])
 (.ret)))))⟩
theorem cc31 : cFunc Tryz.prog methNames Tryz.f31 = some c31 := by kernel_rfl
/-- slices.Clone[[]pantry/api.Record,pantry/api.Record] -/
def c32 : AFunc := ⟨8, [.tmp 2],
  .seq (.region [m 2 (l (.slice none 0 0))])
 (.seq (.seq (.region [m 3 (t 0),
 p 4 (.eqNil false 0 (t 3) (l (.slice none 0 0)))])
 (.cond (t 4) (.seq (.region [m 2 (l (.slice none 0 0))])
 (.ret))
 (.skip)))
 (.seq (.region [a 5 (.buildSlice [(.int .i64 0), (.int .i64 0), (.int .i64 0), (.int .i64 0), (.int .i64 0), (.int .i64 0), (.bool false), (.int .i64 0)] 8 0 []),
 m 6 (t 0),
 e 7 (.append 8 64 (t 5) (t 6)),
 m 2 (t 7)])
 (.ret)))⟩
theorem cc32 : cFunc Tryz.prog methNames Tryz.f32 = some c32 := by kernel_rfl
/-- slices.Index[[]bool,bool] -/
def c33 : AFunc := ⟨19, [.tmp 4],
  .seq (.region [m 4 (i 0)])
 (.seq (.seq (.region [m 6 (t 0),
 p 7 (.len false (t 6)),
 m 8 (i 0)])
 (.block 0 (.loop (.seq (.region [p 9 (.bin .lss (t 8) (t 7))])
 (.seq (.cond (t 9) (.skip)
 (.exit 0))
 (.seq (.block 1 (.seq (.region [m 10 (t 8),
 m 5 (t 10)])
 (.seq (.region [m 11 (t 1),
 m 12 (t 0),
 m 13 (t 5),
 p 14 (.indexAddr 1 (t 12) (t 13)),
 r 15 (t 14),
 p 16 (.eqBool false (t 11) (t 15))])
 (.cond (t 16) (.seq (.region [m 17 (t 5),
 m 4 (t 17)])
 (.ret))
 (.skip)))))
 (.region [p 18 (.bin .add (t 8) (i 1)),
 m 8 (t 18)])))))))
 (.seq (.region [m 4 (i (-1))])
 (.ret)))⟩
theorem cc33 : cFunc Tryz.prog methNames Tryz.f33 = some c33 := by kernel_rfl
/-- pantry/hist.Right -/
def c34 : AFunc := ⟨11, [.tmp 2],
  .seq (.region [m 2 (l (.bool false))])
 (.seq (.region [m 6 (t 0),
 c 7 55 [(t 6)],
 m 5 (t 7),
 p 8 (.extract (t 5) 0),
 p 9 (.extract (t 5) 1),
 m 3 (t 8),
 m 4 (t 9)])
 (.seq (.region [m 10 (t 4),
 m 2 (t 10)])
 (.ret)))⟩
theorem cc34 : cFunc Tryz.prog methNames Tryz.f34 = some c34 := by kernel_rfl
/-- (*pantry/shards.Map).All -/
def c35 : AFunc := ⟨23, [.tmp 2],
  .seq (.region [m 2 (l (.slice none 0 0))])
 (.seq (.region [m 3 (l (.slice none 0 0))])
 (.seq (.seq (.region [m 6 (t 0),
 n 7 (t 6),
 f 8 1 (t 7),
 r 9 (t 8),
 p 10 (.len false (t 9)),
 m 11 (i 0)])
 (.block 0 (.loop (.seq (.region [p 12 (.bin .lss (t 11) (t 10))])
 (.seq (.cond (t 12) (.skip)
 (.exit 0))
 (.seq (.block 1 (.seq (.region [p 13 (.indexAddr 1 (t 9) (t 11)),
 r 14 (t 13),
 m 5 (t 14)])
 (.region [m 15 (t 3),
 m 16 (t 5),
 c 17 56 [(t 16)],
 e 18 (.append 4 32 (t 15) (t 17)),
 m 3 (t 18)])))
 (.region [p 19 (.bin .add (t 11) (i 1)),
 m 11 (t 19)])))))))
 (.seq (.region [m 20 (t 3),
 c 21 57 [(t 20), (l (.func (.func 58) #[] #[]))]])
 (.seq (.region [m 22 (t 3),
 m 2 (t 22)])
 (.ret)))))⟩
theorem cc35 : cFunc Tryz.prog methNames Tryz.f35 = some c35 := by kernel_rfl
/-- (*pantry/shards.Map).Weight -/
def c36 : AFunc := ⟨7, [.tmp 2],
  .seq (.region [m 2 (i 0)])
 (.seq (.region [m 3 (t 0),
 n 4 (t 3),
 f 5 5 (t 4),
 r 6 (t 5),
 m 2 (t 6)])
 (.ret))⟩
theorem cc36 : cFunc Tryz.prog methNames Tryz.f36 = some c36 := by kernel_rfl
/-- (*pantry/stripes.Stripes).Lost -/
def c37 : AFunc := ⟨5, [.tmp 2],
  .seq (.region [m 2 (i 0)])
 (.seq (.region [m 3 (t 0),
 c 4 60 [(t 3), (l (.func (.func 61) #[] #[]))],
 m 2 (t 4)])
 (.ret))⟩
theorem cc37 : cFunc Tryz.prog methNames Tryz.f37 = some c37 := by kernel_rfl
/-- pantry/hist.Calls -/
def c38 : AFunc := ⟨11, [.tmp 2],
  .seq (.region [m 2 (l (.slice none 0 0))])
 (.seq (.region [m 6 (t 0),
 c 7 55 [(t 6)],
 m 5 (t 7),
 p 8 (.extract (t 5) 0),
 p 9 (.extract (t 5) 1),
 m 3 (t 8),
 m 4 (t 9)])
 (.seq (.region [m 10 (t 3),
 m 2 (t 10)])
 (.ret)))⟩
theorem cc38 : cFunc Tryz.prog methNames Tryz.f38 = some c38 := by kernel_rfl
/-- pantry/witness.Order -/
def c39 : AFunc := ⟨52, [.tmp 2],
  .seq (.region [m 2 (l (.slice none 0 0))])
 (.seq (.seq (.region [m 9 (t 0),
 c 10 34 [(t 9)],
 p 11 (.not (t 10))])
 (.cond (t 11) (.seq (.region [m 2 (l (.slice none 0 0))])
 (.ret))
 (.skip)))
 (.seq (.region [a 12 (.makeMap),
 m 3 (t 12)])
 (.seq (.seq (.region [m 13 (t 0),
 c 14 38 [(t 13)],
 p 15 (.len false (t 14)),
 m 16 (i 0)])
 (.block 0 (.loop (.seq (.region [p 17 (.bin .lss (t 16) (t 15))])
 (.seq (.cond (t 17) (.skip)
 (.exit 0))
 (.seq (.block 1 (.seq (.region [m 18 (t 16),
 p 19 (.indexAddr 5 (t 14) (t 16)),
 p 20 (.load true 5 (t 19)),
 a 5 (.alloc [(.int .i64 0), (.int .i64 0), (.int .i64 0), (.int .i64 0), (.int .i64 0)]),
 m 4 (t 18),
 z (.store 5 (t 5) (t 20))])
 (.region [m 21 (t 3),
 f 22 3 (t 5),
 r 23 (t 22),
 m 24 (t 4),
 z (.mapUpdate (t 21) (t 23) (t 24))])))
 (.region [p 25 (.bin .add (t 16) (i 1)),
 m 16 (t 25)])))))))
 (.seq (.region [m 6 (l (.slice none 0 0))])
 (.seq (.seq (.region [m 26 (t 0),
 p 27 (.len false (t 26)),
 m 28 (i 0)])
 (.block 2 (.loop (.seq (.region [p 29 (.bin .lss (t 28) (t 27))])
 (.seq (.cond (t 29) (.skip)
 (.exit 2))
 (.seq (.block 3 (.seq (.region [m 30 (t 28),
 p 31 (.indexAddr 8 (t 26) (t 28)),
 p 32 (.load true 8 (t 31)),
 a 8 (.alloc [(.int .i64 0), (.int .i64 0), (.int .i64 0), (.int .i64 0), (.int .i64 0), (.int .i64 0), (.bool false), (.int .i64 0)]),
 m 7 (t 30),
 z (.store 8 (t 8) (t 32))])
 (.block 4 (.seq (.region [f 40 2 (t 8),
 r 41 (t 40),
 p 42 (.bin .neq (t 41) (i 2)),
 m 39 (t 42)])
 (.cond (t 39) (.skip)
 (.seq (.region [f 44 1 (t 8),
 r 45 (t 44),
 p 46 (.bin .lss (t 45) (i 0)),
 m 43 (t 46)])
 (.cond (t 43) (.region [m 47 (t 6),
 a 48 (.buildSlice [(.int .i64 0)] 1 1 [(0, (i (-1)))]),
 e 49 (.append 1 8 (t 47) (t 48)),
 m 6 (t 49)])
 (.region [m 33 (t 6),
 m 34 (t 3),
 m 35 (t 7),
 p 36 (.lookup (.int .i64 0) false (t 34) (t 35)),
 a 37 (.buildSlice [(.int .i64 0)] 1 1 [(0, (t 36))]),
 e 38 (.append 1 8 (t 33) (t 37)),
 m 6 (t 38)]))))))))
 (.region [p 50 (.bin .add (t 28) (i 1)),
 m 28 (t 50)])))))))
 (.seq (.region [m 51 (t 6),
 m 2 (t 51)])
 (.ret)))))))⟩
theorem cc39 : cFunc Tryz.prog methNames Tryz.f39 = some c39 := by kernel_rfl
/-- pantry/witness.Check$1 -/
def c40 : AFunc := ⟨20, [.tmp 3],
  .seq (.region [a 2 (.box (t 0)),
 m 3 (l (.bool false))])
 (.seq (.region [f 4 4 (t 2),
 r 5 (t 4),
 p 6 (.bin .geq (t 5) (i 0)),
 m 7 (t 6),
 g 8 (.fieldAddr 3 (t 2)) 7 true,
 g 9 (.load false 1 (t 8)) 7 true,
 g 10 (.bin .lss (t 9) (i 0)) 7 true,
 p 11 (.pick (t 7) (t 10) (l (.bool false))),
 m 12 (t 11),
 g 13 (.load false 1 (t 1)) 12 true,
 g 14 (.fieldAddr 4 (t 2)) 12 true,
 g 15 (.load false 1 (t 14)) 12 true,
 g 16 (.indexAddr 8 (t 13) (t 15)) 12 true,
 g 17 (.load true 8 (t 16)) 12 true,
 ⟨(some 18), .e (.call (.value (l (.func (.func 41) #[] #[]))) [(t 17)]), some (12, true)⟩,
 p 19 (.pick (t 12) (t 18) (l (.bool false))),
 m 3 (t 19)])
 (.ret))⟩
theorem cc40 : cFunc Tryz.prog methNames Tryz.f40 = some c40 := by kernel_rfl
/-- pantry/witness.acts -/
def c41 : AFunc := ⟨18, [.tmp 2],
  .seq (.region [a 1 (.box (t 0)),
 m 2 (l (.bool false))])
 (.seq (.region [f 3 7 (t 1),
 r 4 (t 3),
 p 5 (.bin .eql (t 4) (i 0)),
 m 6 (t 5),
 g 7 (.fieldAddr 3 (t 1)) 6 true,
 g 8 (.fieldAddr 0 (t 7)) 6 true,
 g 9 (.load false 1 (t 8)) 6 true,
 g 10 (.bin .geq (t 9) (i 1)) 6 true,
 p 11 (.pick (t 6) (t 10) (l (.bool false))),
 m 12 (t 11),
 g 13 (.fieldAddr 3 (t 1)) 12 true,
 g 14 (.fieldAddr 0 (t 13)) 12 true,
 g 15 (.load false 1 (t 14)) 12 true,
 g 16 (.bin .leq (t 15) (i 3)) 12 true,
 p 17 (.pick (t 12) (t 16) (l (.bool false))),
 m 2 (t 17)])
 (.ret))⟩
theorem cc41 : cFunc Tryz.prog methNames Tryz.f41 = some c41 := by kernel_rfl
/-- slices.ContainsFunc[[]pantry/api.Call,pantry/api.Call] -/
def c42 : AFunc := ⟨9, [.tmp 4],
  .seq (.region [m 4 (l (.bool false))])
 (.seq (.region [m 5 (t 0),
 m 6 (t 1),
 c 7 62 [(t 5), (t 6)],
 p 8 (.bin .geq (t 7) (i 0)),
 m 4 (t 8)])
 (.ret))⟩
theorem cc42 : cFunc Tryz.prog methNames Tryz.f42 = some c42 := by kernel_rfl
/-- pantry/witness.Respects -/
def c43 : AFunc := ⟨38, [.tmp 4],
  .seq (.region [a 2 (.box (t 0)),
 m 4 (l (.bool false))])
 (.seq (.region [m 5 (l (.slice none 0 0))])
 (.seq (.seq (.region [m 9 (t 1),
 p 10 (.len false (t 9)),
 m 11 (i 0)])
 (.block 0 (.loop (.seq (.region [p 12 (.bin .lss (t 11) (t 10))])
 (.seq (.cond (t 12) (.skip)
 (.exit 0))
 (.seq (.block 1 (.seq (.region [p 13 (.indexAddr 1 (t 9) (t 11)),
 r 14 (t 13),
 a 7 (.alloc [(.int .i64 0)]),
 z (.store 1 (t 7) (t 14))])
 (.seq (.region [p 15 (.makeFunc 63 [] [(t 7), (t 2)]),
 m 8 (t 15)])
 (.seq (.block 2 (.seq (.region [r 17 (t 7),
 p 18 (.bin .eql (t 17) (i (-1))),
 m 16 (t 18)])
 (.cond (t 16) (.exit 1)
 (.seq (.region [r 20 (t 7),
 p 21 (.bin .lss (t 20) (i 0)),
 m 22 (t 21),
 g 23 (.load false 1 (t 7)) 22 false,
 g 24 (.load false 1 (t 2)) 22 false,
 g 25 (.len false (t 24)) 22 false,
 g 26 (.bin .geq (t 23) (t 25)) 22 false,
 p 27 (.pick (t 22) (l (.bool true)) (t 26)),
 m 28 (t 27),
 g 29 (.move (t 5)) 28 false,
 g 30 (.move (t 8)) 28 false,
 ⟨(some 31), .e (.call (.value (l (.func (.func 65) #[] #[]))) [(t 29), (t 30)]), some (28, false)⟩,
 p 32 (.pick (t 28) (l (.bool true)) (t 31)),
 m 19 (t 32)])
 (.cond (t 19) (.seq (.region [m 4 (l (.bool false))])
 (.ret))
 (.skip))))))
 (.region [m 33 (t 5),
 r 34 (t 7),
 a 35 (.buildSlice [(.int .i64 0)] 1 1 [(0, (t 34))]),
 e 36 (.append 1 8 (t 33) (t 35)),
 m 5 (t 36)])))))
 (.region [p 37 (.bin .add (t 11) (i 1)),
 m 11 (t 37)])))))))
 (.seq (.region [m 4 (l (.bool true))])
 (.ret))))⟩
theorem cc43 : cFunc Tryz.prog methNames Tryz.f43 = some c43 := by kernel_rfl
/-- pantry/witness.Row -/
def c44 : AFunc := ⟨70, [.tmp 4],
  .seq (.region [m 4 (l (.slice none 0 0))])
 (.seq (.seq (.region [m 10 (t 0),
 c 11 34 [(t 10)],
 p 12 (.not (t 11))])
 (.cond (t 12) (.seq (.region [m 4 (l (.slice none 0 0))])
 (.ret))
 (.skip)))
 (.seq (.region [m 13 (t 0),
 c 14 38 [(t 13)],
 m 15 (t 0),
 c 16 66 [(t 15)],
 m 5 (t 14),
 m 6 (t 16)])
 (.seq (.region [m 7 (l (.slice none 0 0))])
 (.seq (.seq (.region [m 17 (t 1),
 p 18 (.len false (t 17)),
 m 19 (i 0)])
 (.block 0 (.loop (.seq (.region [p 20 (.bin .lss (t 19) (t 18))])
 (.seq (.cond (t 20) (.skip)
 (.exit 0))
 (.seq (.block 1 (.seq (.region [p 21 (.indexAddr 1 (t 17) (t 19)),
 r 22 (t 21),
 m 9 (t 22)])
 (.block 2 (.seq (.region [m 36 (t 9),
 p 37 (.bin .eql (t 36) (i (-1))),
 m 38 (t 37),
 g 39 (.move (t 6)) 38 true,
 g 40 (.len false (t 39)) 38 true,
 g 41 (.bin .gtr (t 40) (i 0)) 38 true,
 p 42 (.pick (t 38) (t 41) (l (.bool false))),
 m 35 (t 42)])
 (.cond (t 35) (.seq (.region [m 43 (t 7),
 m 44 (t 6),
 p 45 (.indexAddr 4 (t 44) (i 0)),
 p 46 (.load true 4 (t 45)),
 a 47 (.buildSlice [(.int .i64 0), (.int .i64 0), (.int .i64 0), (.bool false)] 4 1 [(0, (t 46))]),
 e 48 (.append 4 32 (t 43) (t 47)),
 m 7 (t 48)])
 (.region [m 49 (t 6),
 p 50 (.slice false 4 (t 49) (some (i 1)) none none),
 m 6 (t 50)]))
 (.seq (.region [m 52 (t 9),
 p 53 (.bin .lss (t 52) (i 0)),
 m 54 (t 53),
 g 55 (.move (t 9)) 54 false,
 g 56 (.move (t 5)) 54 false,
 g 57 (.len false (t 56)) 54 false,
 g 58 (.bin .geq (t 55) (t 57)) 54 false,
 p 59 (.pick (t 54) (l (.bool true)) (t 58)),
 m 60 (t 59),
 g 61 (.move (t 5)) 60 false,
 g 62 (.move (t 9)) 60 false,
 g 63 (.indexAddr 5 (t 61) (t 62)) 60 false,
 g 64 (.fieldAddr 3 (t 63)) 60 false,
 g 65 (.load false 1 (t 64)) 60 false,
 g 66 (.bin .lss (t 65) (i 0)) 60 false,
 p 67 (.pick (t 60) (l (.bool true)) (t 66)),
 m 51 (t 67)])
 (.cond (t 51) (.seq (.region [m 4 (l (.slice none 0 0))])
 (.ret))
 (.region [m 23 (t 7),
 m 24 (t 0),
 m 25 (t 5),
 m 26 (t 9),
 p 27 (.indexAddr 5 (t 25) (t 26)),
 f 28 3 (t 27),
 r 29 (t 28),
 p 30 (.indexAddr 8 (t 24) (t 29)),
 f 31 3 (t 30),
 p 32 (.load true 4 (t 31)),
 a 33 (.buildSlice [(.int .i64 0), (.int .i64 0), (.int .i64 0), (.bool false)] 4 1 [(0, (t 32))]),
 e 34 (.append 4 32 (t 23) (t 33)),
 m 7 (t 34)]))))))))
 (.region [p 68 (.bin .add (t 19) (i 1)),
 m 19 (t 68)])))))))
 (.seq (.region [m 69 (t 7),
 m 4 (t 69)])
 (.ret))))))⟩
theorem cc44 : cFunc Tryz.prog methNames Tryz.f44 = some c44 := by kernel_rfl
/-- pantry/spec.Legal -/
def c45 : AFunc := ⟨11, [.tmp 2],
  .seq (.region [m 2 (i 0)])
 (.seq (.region [m 6 (t 0),
 c 7 67 [(t 6)],
 m 5 (t 7),
 p 8 (.extract (t 5) 0),
 p 9 (.extract (t 5) 1),
 m 3 (t 8),
 m 4 (t 9)])
 (.seq (.region [m 10 (t 3),
 m 2 (t 10)])
 (.ret)))⟩
theorem cc45 : cFunc Tryz.prog methNames Tryz.f45 = some c45 := by kernel_rfl
/-- pantry/shards.New -/
def c46 : AFunc := ⟨28, [.tmp 4],
  .seq (.region [m 4 (l (.pointer none))])
 (.seq (.region [m 6 (t 1),
 a 7 (.makeMap),
 a 8 (.makeMap),
 p 9 (.build [(.int .i64 0), (.slice none 0 0), (.int .i64 0), (.map none), (.map none), (.int .i64 0)] [(0, 1, (t 6)), (3, 1, (t 7)), (4, 1, (t 8))]),
 a 10 (.box (t 9)),
 m 5 (t 10)])
 (.seq (.seq (.region [m 11 (t 0),
 c 12 68 [(t 11), (i 1), (i 64)],
 m 13 (i 0)])
 (.block 0 (.loop (.seq (.region [p 14 (.bin .lss (t 13) (t 12))])
 (.seq (.cond (t 14) (.skip)
 (.exit 0))
 (.seq (.block 1 (.draw [d (m 20 (t 1)),
 d (c 21 69 [(t 20)]),
 d (m 16 (t 5)),
 d (n 17 (t 16)),
 d (f 18 1 (t 17)),
 (r 19 (t 18), [3]),
 d (a 22 (.buildSlice [(.pointer none)] 1 1 [(0, (t 21))])),
 d (e 23 (.append 1 8 (t 19) (t 22))),
 d (m 15 (t 5)),
 d (n 24 (t 15)),
 d (f 25 1 (t 24)),
 d (z (.store 1 (t 25) (t 23)))]))
 (.region [p 26 (.bin .add (t 13) (i 1)),
 m 13 (t 26)])))))))
 (.seq (.region [m 27 (t 5),
 m 4 (t 27)])
 (.ret))))⟩
theorem cc46 : cFunc Tryz.prog methNames Tryz.f46 = some c46 := by kernel_rfl
/-- pantry/policy.New -/
def c47 : AFunc := ⟨27, [.tmp 4],
  .seq (.region [m 4 (l (.pointer none))])
 (.seq (.region [m 7 (t 0),
 p 8 (.max [(i 0), (t 7)]),
 p 9 (.min [(t 8), (i 4611686018427387903)]),
 m 5 (t 9)])
 (.seq (.region [m 10 (t 5),
 p 11 (.max [(i 1), (t 10)]),
 p 12 (.min [(t 11), (i 65536)]),
 m 6 (t 12)])
 (.seq (.region [m 13 (t 5),
 m 14 (t 6),
 p 15 (.bin .mul (i 10) (t 14)),
 m 16 (t 6),
 m 17 (t 1),
 c 18 70 [(t 16), (t 17)],
 c 19 71 [(i 3)],
 a 20 (.makeMap),
 m 21 (t 5),
 c 22 72 [(t 21)],
 m 23 (t 5),
 c 24 73 [(t 23)],
 p 25 (.build [(.int .i64 0), (.int .i64 0), (.pointer none), (.pointer none), (.map none), (.int .i64 0), (.int .i64 0), (.int .i64 0), (.int .i64 0), (.int .i64 0), (.int .i64 0), (.int .i64 0)] [(0, 1, (t 13)), (1, 1, (t 15)), (2, 1, (t 18)), (3, 1, (t 19)), (4, 1, (t 20)), (5, 3, (t 22)), (8, 4, (t 24))]),
 a 26 (.box (t 25)),
 m 4 (t 26)])
 (.ret))))⟩
theorem cc47 : cFunc Tryz.prog methNames Tryz.f47 = some c47 := by kernel_rfl
/-- pantry/stripes.New -/
def c48 : AFunc := ⟨29, [.tmp 6],
  .seq (.region [m 6 (l (.pointer none))])
 (.seq (.region [m 8 (t 2),
 p 9 (.build [(.slice none 0 0), (.int .i64 0)] [(1, 1, (t 8))]),
 a 10 (.box (t 9)),
 m 7 (t 10)])
 (.seq (.seq (.region [m 11 (t 0),
 c 12 68 [(t 11), (i 1), (i 64)],
 m 13 (i 0)])
 (.block 0 (.loop (.seq (.region [p 14 (.bin .lss (t 13) (t 12))])
 (.seq (.cond (t 14) (.skip)
 (.exit 0))
 (.seq (.block 1 (.draw [d (m 20 (t 1)),
 d (c 21 74 [(t 20)]),
 d (m 16 (t 7)),
 d (n 17 (t 16)),
 d (f 18 0 (t 17)),
 (r 19 (t 18), [3]),
 d (p 22 (.makeIface 154 (t 21))),
 d (a 23 (.buildSlice [.nilIface] 1 1 [(0, (t 22))])),
 d (e 24 (.append 1 16 (t 19) (t 23))),
 d (m 15 (t 7)),
 d (n 25 (t 15)),
 d (f 26 0 (t 25)),
 d (z (.store 1 (t 26) (t 24)))]))
 (.region [p 27 (.bin .add (t 13) (i 1)),
 m 13 (t 27)])))))))
 (.seq (.region [m 28 (t 7),
 m 6 (t 28)])
 (.ret))))⟩
theorem cc48 : cFunc Tryz.prog methNames Tryz.f48 = some c48 := by kernel_rfl
/-- pantry/writes.New -/
def c49 : AFunc := ⟨8, [.tmp 2],
  .seq (.region [m 2 (l (.pointer none))])
 (.seq (.region [m 3 (t 0),
 c 4 68 [(t 3), (i 1), (i 4096)],
 a 5 (.makeMap),
 p 6 (.build [(.int .i64 0), (.map none), (.int .i64 0), (.int .i64 0), (.int .i64 0)] [(0, 1, (t 4)), (1, 1, (t 5))]),
 a 7 (.box (t 6)),
 m 2 (t 7)])
 (.ret))⟩
theorem cc49 : cFunc Tryz.prog methNames Tryz.f49 = some c49 := by kernel_rfl
/-- pantry/cells.New -/
def c50 : AFunc := ⟨16, [.tmp 4],
  .seq (.region [m 4 (l (.pointer none))])
 (.seq (.region [m 5 (l (.func (.func 75) #[] #[]))])
 (.seq (.draw [d (m 6 (t 5)),
 d (m 7 (t 0)),
 d (e 8 (.call (.value (t 6)) [(t 7)])),
 d (m 10 (t 5)),
 d (m 11 (t 1)),
 d (e 12 (.call (.value (t 10)) [(t 11)])),
 d (a 9 (.makeSlice [(.int .i64 0)] 8 (t 8) (t 8))),
 d (a 13 (.makeSlice [(.int .i64 0), (.bool false)] 16 (t 12) (t 12))),
 d (p 14 (.build [(.slice none 0 0), (.slice none 0 0), (.slice none 0 0)] [(0, 1, (t 9)), (1, 1, (t 13))])),
 d (a 15 (.box (t 14))),
 d (m 4 (t 15))])
 (.ret)))⟩
theorem cc50 : cFunc Tryz.prog methNames Tryz.f50 = some c50 := by kernel_rfl
/-- (*pantry/shards.Map).Count -/
def c51 : AFunc := ⟨8, [.tmp 2],
  .seq (.region [m 2 (i 0)])
 (.seq (.region [m 3 (t 0),
 n 4 (t 3),
 f 5 1 (t 4),
 r 6 (t 5),
 p 7 (.len false (t 6)),
 m 2 (t 7)])
 (.ret))⟩
theorem cc51 : cFunc Tryz.prog methNames Tryz.f51 = some c51 := by kernel_rfl
/-- slices.Clone[[]pantry/api.Op,pantry/api.Op] -/
def c52 : AFunc := ⟨8, [.tmp 2],
  .seq (.region [m 2 (l (.slice none 0 0))])
 (.seq (.seq (.region [m 3 (t 0),
 p 4 (.eqNil false 0 (t 3) (l (.slice none 0 0)))])
 (.cond (t 4) (.seq (.region [m 2 (l (.slice none 0 0))])
 (.ret))
 (.skip)))
 (.seq (.region [a 5 (.buildSlice [(.int .i64 0), (.int .i64 0), (.int .i64 0), (.int .i64 0)] 4 0 []),
 m 6 (t 0),
 e 7 (.append 4 32 (t 5) (t 6)),
 m 2 (t 7)])
 (.ret)))⟩
theorem cc52 : cFunc Tryz.prog methNames Tryz.f52 = some c52 := by kernel_rfl
/-- pantry/picks.Next -/
def c53 : AFunc := ⟨35, [.tmp 4],
  .seq (.region [m 4 (i 0)])
 (.seq (.region [m 9 (t 1),
 p 10 (.len false (t 9)),
 m 5 (t 10)])
 (.seq (.seq (.region [m 11 (t 5),
 p 12 (.bin .eql (t 11) (i 0))])
 (.cond (t 12) (.seq (.region [m 4 (i (-1))])
 (.ret))
 (.skip)))
 (.seq (.region [m 13 (t 0),
 m 14 (t 5),
 p 15 (.bin .rem (t 13) (t 14)),
 m 16 (t 5),
 p 17 (.bin .add (t 15) (t 16)),
 m 18 (t 5),
 p 19 (.bin .rem (t 17) (t 18)),
 m 6 (t 19)])
 (.seq (.seq (.region [m 20 (t 5),
 m 21 (i 0)])
 (.block 0 (.loop (.seq (.region [p 22 (.bin .lss (t 21) (t 20))])
 (.seq (.cond (t 22) (.skip)
 (.exit 0))
 (.seq (.block 1 (.seq (.region [m 23 (t 21),
 m 7 (t 23)])
 (.seq (.region [m 24 (t 6),
 m 25 (t 7),
 p 26 (.bin .add (t 24) (t 25)),
 m 27 (t 5),
 p 28 (.bin .rem (t 26) (t 27)),
 m 8 (t 28)])
 (.seq (.region [m 29 (t 1),
 m 30 (t 8),
 p 31 (.indexAddr 1 (t 29) (t 30)),
 r 32 (t 31)])
 (.cond (t 32) (.seq (.region [m 33 (t 8),
 m 4 (t 33)])
 (.ret))
 (.skip))))))
 (.region [p 34 (.bin .add (t 21) (i 1)),
 m 21 (t 34)])))))))
 (.seq (.region [m 4 (i (-1))])
 (.ret))))))⟩
theorem cc53 : cFunc Tryz.prog methNames Tryz.f53 = some c53 := by kernel_rfl
/-- (*pantry/conc.Machine).Step -/
def c54 : AFunc := ⟨24, [.tmp 4],
  .seq (.region [m 4 (l (.bool false))])
 (.seq (.seq (.region [m 5 (t 1),
 p 6 (.bin .lss (t 5) (i 0)),
 m 7 (t 6),
 g 8 (.move (t 1)) 7 false,
 g 9 (.move (t 0)) 7 false,
 g 10 (.nilCheck (t 9)) 7 false,
 g 11 (.fieldAddr 1 (t 10)) 7 false,
 g 12 (.load false 1 (t 11)) 7 false,
 g 13 (.len false (t 12)) 7 false,
 g 14 (.bin .geq (t 8) (t 13)) 7 false,
 p 15 (.pick (t 7) (l (.bool true)) (t 14))])
 (.cond (t 15) (.seq (.region [m 4 (l (.bool false))])
 (.ret))
 (.skip)))
 (.seq (.region [m 16 (t 0),
 n 17 (t 16),
 f 18 1 (t 17),
 r 19 (t 18),
 m 20 (t 1),
 p 21 (.indexAddr 1 (t 19) (t 20)),
 r 22 (t 21),
 c 23 76 [(t 22)],
 m 4 (t 23)])
 (.ret)))⟩
theorem cc54 : cFunc Tryz.prog methNames Tryz.f54 = some c54 := by kernel_rfl
/-- pantry/hist.calls -/
def c55 : AFunc := ⟨27, [.tmp 2, .tmp 3],
  .seq (.region [m 2 (l (.slice none 0 0)),
 m 3 (l (.bool false))])
 (.seq (.region [a 7 (.makeMap),
 p 8 (.build [(.map none), (.slice none 0 0)] [(0, 1, (t 7))]),
 a 9 (.box (t 8)),
 m 4 (t 9)])
 (.seq (.seq (.region [m 10 (t 0),
 p 11 (.len false (t 10)),
 m 12 (i 0)])
 (.block 0 (.loop (.seq (.region [p 13 (.bin .lss (t 12) (t 11))])
 (.seq (.cond (t 13) (.skip)
 (.exit 0))
 (.seq (.block 1 (.seq (.region [m 14 (t 12),
 p 15 (.indexAddr 8 (t 10) (t 12)),
 p 16 (.load true 8 (t 15)),
 a 6 (.alloc [(.int .i64 0), (.int .i64 0), (.int .i64 0), (.int .i64 0), (.int .i64 0), (.int .i64 0), (.bool false), (.int .i64 0)]),
 m 5 (t 14),
 z (.store 8 (t 6) (t 16))])
 (.seq (.region [m 17 (t 4),
 p 18 (.load true 8 (t 6)),
 m 19 (t 5),
 c 20 77 [(t 17), (t 18), (t 19)],
 p 21 (.not (t 20))])
 (.cond (t 21) (.seq (.region [m 2 (l (.slice none 0 0)),
 m 3 (l (.bool false))])
 (.ret))
 (.skip)))))
 (.region [p 22 (.bin .add (t 12) (i 1)),
 m 12 (t 22)])))))))
 (.seq (.region [m 23 (t 4),
 n 24 (t 23),
 f 25 1 (t 24),
 r 26 (t 25),
 m 2 (t 26),
 m 3 (l (.bool true))])
 (.ret))))⟩
theorem cc55 : cFunc Tryz.prog methNames Tryz.f55 = some c55 := by kernel_rfl
/-- (*pantry/table.Table).All -/
def c56 : AFunc := ⟨51, [.tmp 2],
  .seq (.region [m 2 (l (.slice none 0 0))])
 (.seq (.region [m 3 (l (.slice none 0 0))])
 (.seq (.seq (.draw [d (m 8 (t 0)),
 d (n 9 (t 8)),
 d (f 10 1 (t 9)),
 d (r 11 (t 10)),
 d (m 12 (t 0)),
 d (n 13 (t 12)),
 d (f 14 2 (t 13)),
 d (r 15 (t 14)),
 d (m 16 (t 0)),
 d (n 17 (t 16)),
 d (f 18 3 (t 17)),
 d (r 19 (t 18)),
 d (p 20 (.slice false 1 (t 15) (some (t 19)) none none)),
 d (a 21 (.buildSlice [(.slice none 0 0)] 1 2 [(0, (t 11)), (1, (t 20))])),
 d (p 22 (.len false (t 21))),
 d (m 23 (i 0))])
 (.block 0 (.loop (.seq (.region [p 24 (.bin .lss (t 23) (t 22))])
 (.seq (.cond (t 24) (.skip)
 (.exit 0))
 (.seq (.block 1 (.seq (.region [p 25 (.indexAddr 1 (t 21) (t 23)),
 r 26 (t 25),
 m 5 (t 26)])
 (.seq (.region [m 27 (t 5),
 p 28 (.len false (t 27)),
 m 29 (i 0)])
 (.block 2 (.loop (.seq (.region [p 30 (.bin .lss (t 29) (t 28))])
 (.seq (.cond (t 30) (.skip)
 (.exit 2))
 (.seq (.block 3 (.seq (.region [p 31 (.indexAddr 1 (t 27) (t 29)),
 r 32 (t 31),
 m 7 (t 32)])
 (.block 4 (.loop (.seq (.seq (.region [m 33 (t 7),
 p 34 (.eqPtr true (t 33) (l (.pointer none)))])
 (.cond (t 34) (.skip)
 (.exit 4)))
 (.seq (.block 5 (.region [m 39 (t 3),
 m 40 (t 7),
 n 41 (t 40),
 f 42 0 (t 41),
 p 43 (.load true 4 (t 42)),
 a 44 (.buildSlice [(.int .i64 0), (.int .i64 0), (.int .i64 0), (.int .i64 0)] 4 1 [(0, (t 43))]),
 e 45 (.append 4 32 (t 39) (t 44)),
 m 3 (t 45)]))
 (.region [m 35 (t 7),
 n 36 (t 35),
 f 37 4 (t 36),
 r 38 (t 37),
 m 7 (t 38)])))))))
 (.region [p 46 (.bin .add (t 29) (i 1)),
 m 29 (t 46)])))))))))
 (.region [p 47 (.bin .add (t 23) (i 1)),
 m 23 (t 47)])))))))
 (.seq (.region [m 48 (t 3),
 c 49 57 [(t 48), (l (.func (.func 78) #[] #[]))]])
 (.seq (.region [m 50 (t 3),
 m 2 (t 50)])
 (.ret)))))⟩
theorem cc56 : cFunc Tryz.prog methNames Tryz.f56 = some c56 := by kernel_rfl
/-- slices.SortFunc[[]pantry/api.Entry,pantry/api.Entry] -/
def c57 : AFunc := ⟨14, [],
  .seq (.region [m 5 (t 0),
 p 6 (.len false (t 5)),
 m 4 (t 6)])
 (.region [m 7 (t 0),
 m 8 (t 4),
 m 9 (t 4),
 p 10 (.conv .u64 (t 9)),
 c 11 80 [(t 10)],
 m 12 (t 1),
 c 13 79 [(t 7), (i 0), (t 8), (t 11), (t 12)]])⟩
theorem cc57 : cFunc Tryz.prog methNames Tryz.f57 = some c57 := by kernel_rfl
/-- (*pantry/shards.Map).All$1 -/
def c58 : AFunc := ⟨10, [.tmp 4],
  .seq (.region [a 2 (.box (t 0)),
 a 3 (.box (t 1)),
 m 4 (i 0)])
 (.seq (.region [f 5 0 (t 2),
 r 6 (t 5),
 f 7 0 (t 3),
 r 8 (t 7),
 c 9 59 [(t 6), (t 8)],
 m 4 (t 9)])
 (.ret))⟩
theorem cc58 : cFunc Tryz.prog methNames Tryz.f58 = some c58 := by kernel_rfl
/-- cmp.Compare[int] -/
def c59 : AFunc := ⟨20, [.tmp 4],
  .seq (.region [m 4 (i 0)])
 (.seq (.region [m 7 (t 0),
 c 8 81 [(t 7)],
 m 5 (t 8)])
 (.seq (.region [m 9 (t 1),
 c 10 81 [(t 9)],
 m 6 (t 10)])
 (.seq (.seq (.region [m 11 (t 5)])
 (.cond (t 11) (.seq (.seq (.region [m 12 (t 6)])
 (.cond (t 12) (.seq (.region [m 4 (i 0)])
 (.ret))
 (.skip)))
 (.seq (.region [m 4 (i (-1))])
 (.ret)))
 (.skip)))
 (.seq (.seq (.region [m 13 (t 6)])
 (.cond (t 13) (.seq (.region [m 4 (i 1)])
 (.ret))
 (.skip)))
 (.seq (.seq (.region [m 14 (t 0),
 m 15 (t 1),
 p 16 (.bin .lss (t 14) (t 15))])
 (.cond (t 16) (.seq (.region [m 4 (i (-1))])
 (.ret))
 (.skip)))
 (.seq (.seq (.region [m 17 (t 0),
 m 18 (t 1),
 p 19 (.bin .gtr (t 17) (t 18))])
 (.cond (t 19) (.seq (.region [m 4 (i 1)])
 (.ret))
 (.skip)))
 (.seq (.region [m 4 (i 0)])
 (.ret))))))))⟩
theorem cc59 : cFunc Tryz.prog methNames Tryz.f59 = some c59 := by kernel_rfl
/-- (*pantry/stripes.Stripes).sum -/
def c60 : AFunc := ⟨24, [.tmp 4],
  .seq (.region [m 4 (i 0)])
 (.seq (.region [m 5 (i 0)])
 (.seq (.seq (.region [m 8 (t 0),
 n 9 (t 8),
 f 10 0 (t 9),
 r 11 (t 10),
 p 12 (.len false (t 11)),
 m 13 (i 0)])
 (.block 0 (.loop (.seq (.region [p 14 (.bin .lss (t 13) (t 12))])
 (.seq (.cond (t 14) (.skip)
 (.exit 0))
 (.seq (.block 1 (.seq (.region [p 15 (.indexAddr 1 (t 11) (t 13)),
 r 16 (t 15),
 m 7 (t 16)])
 (.region [m 17 (t 5),
 m 18 (t 1),
 m 19 (t 7),
 e 20 (.call (.value (t 18)) [(t 19)]),
 p 21 (.bin .add (t 17) (t 20)),
 m 5 (t 21)])))
 (.region [p 22 (.bin .add (t 13) (i 1)),
 m 13 (t 22)])))))))
 (.seq (.region [m 23 (t 5),
 m 4 (t 23)])
 (.ret))))⟩
theorem cc60 : cFunc Tryz.prog methNames Tryz.f60 = some c60 := by kernel_rfl
/-- (*pantry/stripes.Stripes).Lost$1 -/
def c61 : AFunc := ⟨5, [.tmp 2],
  .seq (.region [m 2 (i 0)])
 (.seq (.region [m 3 (t 0),
 e 4 (.call (.invoke (t 3) 4) []),
 m 2 (t 4)])
 (.ret))⟩
theorem cc61 : cFunc Tryz.prog methNames Tryz.f61 = some c61 := by kernel_rfl
/-- slices.IndexFunc[[]pantry/api.Call,pantry/api.Call] -/
def c62 : AFunc := ⟨19, [.tmp 4],
  .seq (.region [m 4 (i 0)])
 (.seq (.seq (.region [m 6 (t 0),
 p 7 (.len false (t 6)),
 m 8 (i 0)])
 (.block 0 (.loop (.seq (.region [p 9 (.bin .lss (t 8) (t 7))])
 (.seq (.cond (t 9) (.skip)
 (.exit 0))
 (.seq (.block 1 (.seq (.region [m 10 (t 8),
 m 5 (t 10)])
 (.seq (.region [m 11 (t 1),
 m 12 (t 0),
 m 13 (t 5),
 p 14 (.indexAddr 5 (t 12) (t 13)),
 p 15 (.load true 5 (t 14)),
 e 16 (.call (.value (t 11)) [(t 15)])])
 (.cond (t 16) (.seq (.region [m 17 (t 5),
 m 4 (t 17)])
 (.ret))
 (.skip)))))
 (.region [p 18 (.bin .add (t 8) (i 1)),
 m 8 (t 18)])))))))
 (.seq (.region [m 4 (i (-1))])
 (.ret)))⟩
theorem cc62 : cFunc Tryz.prog methNames Tryz.f62 = some c62 := by kernel_rfl
/-- pantry/witness.Respects$1 -/
def c63 : AFunc := ⟨19, [.tmp 4],
  .seq (.region [m 4 (l (.bool false))])
 (.seq (.draw [d (m 5 (t 0)),
 d (r 6 (t 1)),
 d (p 7 (.bin .eql (t 5) (t 6))),
 d (m 8 (t 7)),
 d (g 9 (.load false 1 (t 2)) 8 false),
 d (g 10 (.load false 1 (t 1)) 8 false),
 d (g 11 (.indexAddr 5 (t 9) (t 10)) 8 false),
 d (g 12 (.load true 5 (t 11)) 8 false),
 d (g 13 (.load false 1 (t 2)) 8 false),
 d (g 14 (.move (t 0)) 8 false),
 d (g 15 (.indexAddr 5 (t 13) (t 14)) 8 false),
 d (g 16 (.load true 5 (t 15)) 8 false),
 d (⟨(some 17), .e (.call (.value (l (.func (.func 64) #[] #[]))) [(t 12), (t 16)]), some (8, false)⟩),
 d (p 18 (.pick (t 8) (l (.bool true)) (t 17))),
 d (m 4 (t 18))])
 (.ret))⟩
theorem cc63 : cFunc Tryz.prog methNames Tryz.f63 = some c63 := by kernel_rfl
/-- pantry/hist.Before -/
def c64 : AFunc := ⟨15, [.tmp 4],
  .seq (.region [a 2 (.box (t 0)),
 a 3 (.box (t 1)),
 m 4 (l (.bool false))])
 (.seq (.region [f 5 4 (t 2),
 r 6 (t 5),
 p 7 (.bin .geq (t 6) (i 0)),
 m 8 (t 7),
 g 9 (.fieldAddr 4 (t 2)) 8 true,
 g 10 (.load false 1 (t 9)) 8 true,
 g 11 (.fieldAddr 2 (t 3)) 8 true,
 g 12 (.load false 1 (t 11)) 8 true,
 g 13 (.bin .lss (t 10) (t 12)) 8 true,
 p 14 (.pick (t 8) (t 13) (l (.bool false))),
 m 4 (t 14)])
 (.ret))⟩
theorem cc64 : cFunc Tryz.prog methNames Tryz.f64 = some c64 := by kernel_rfl
/-- slices.ContainsFunc[[]int,int] -/
def c65 : AFunc := ⟨9, [.tmp 4],
  .seq (.region [m 4 (l (.bool false))])
 (.seq (.region [m 5 (t 0),
 m 6 (t 1),
 c 7 82 [(t 5), (t 6)],
 p 8 (.bin .geq (t 7) (i 0)),
 m 4 (t 8)])
 (.ret))⟩
theorem cc65 : cFunc Tryz.prog methNames Tryz.f65 = some c65 := by kernel_rfl
/-- pantry/witness.evictions -/
def c66 : AFunc := ⟨22, [.tmp 2],
  .seq (.region [m 2 (l (.slice none 0 0))])
 (.seq (.region [m 3 (l (.slice none 0 0))])
 (.seq (.seq (.region [m 6 (t 0),
 p 7 (.len false (t 6)),
 m 8 (i 0)])
 (.block 0 (.loop (.seq (.region [p 9 (.bin .lss (t 8) (t 7))])
 (.seq (.cond (t 9) (.skip)
 (.exit 0))
 (.seq (.block 1 (.seq (.region [p 10 (.indexAddr 8 (t 6) (t 8)),
 p 11 (.load true 8 (t 10)),
 a 5 (.alloc [(.int .i64 0), (.int .i64 0), (.int .i64 0), (.int .i64 0), (.int .i64 0), (.int .i64 0), (.bool false), (.int .i64 0)]),
 z (.store 8 (t 5) (t 11))])
 (.seq (.region [f 12 1 (t 5),
 r 13 (t 12),
 p 14 (.bin .lss (t 13) (i 0))])
 (.cond (t 14) (.region [m 15 (t 3),
 f 16 3 (t 5),
 p 17 (.load true 4 (t 16)),
 a 18 (.buildSlice [(.int .i64 0), (.int .i64 0), (.int .i64 0), (.bool false)] 4 1 [(0, (t 17))]),
 e 19 (.append 4 32 (t 15) (t 18)),
 m 3 (t 19)])
 (.skip)))))
 (.region [p 20 (.bin .add (t 8) (i 1)),
 m 8 (t 20)])))))))
 (.seq (.region [m 21 (t 3),
 m 2 (t 21)])
 (.ret))))⟩
theorem cc66 : cFunc Tryz.prog methNames Tryz.f66 = some c66 := by kernel_rfl
/-- pantry/spec.run -/
def c67 : AFunc := ⟨44, [.tmp 2, .tmp 3],
  .seq (.region [m 2 (i 0),
 m 3 (l (.map none))])
 (.seq (.region [a 9 (.makeMap),
 m 4 (t 9)])
 (.seq (.seq (.region [m 10 (t 0),
 p 11 (.len false (t 10)),
 m 12 (i 0)])
 (.block 0 (.loop (.seq (.region [p 13 (.bin .lss (t 12) (t 11))])
 (.seq (.cond (t 13) (.skip)
 (.exit 0))
 (.seq (.block 1 (.seq (.region [m 14 (t 12),
 p 15 (.indexAddr 4 (t 10) (t 12)),
 p 16 (.load true 4 (t 15)),
 a 6 (.alloc [(.int .i64 0), (.int .i64 0), (.int .i64 0), (.bool false)]),
 m 5 (t 14),
 z (.store 4 (t 6) (t 16))])
 (.seq (.seq (.region [m 18 (t 4),
 f 19 0 (t 6),
 r 20 (t 19),
 f 21 1 (t 6),
 r 22 (t 21),
 f 23 2 (t 6),
 r 24 (t 23),
 c 25 83 [(t 18), (t 20), (t 22), (t 24)],
 m 17 (t 25),
 p 26 (.extract (t 17) 0),
 p 27 (.extract (t 17) 1),
 a 7 (.alloc [(.int .i64 0), (.int .i64 0), (.int .i64 0), (.bool false)]),
 z (.store 4 (t 7) (t 26)),
 m 8 (t 27)])
 (.seq (.region [m 28 (t 8),
 p 29 (.not (t 28)),
 m 30 (t 29),
 g 31 (.load true 4 (t 7)) 30 false,
 g 32 (.load true 4 (t 6)) 30 false,
 g 33 (.eqAgg true [false, false, false, true] (t 31) (t 32)) 30 false,
 p 34 (.pick (t 30) (l (.bool true)) (t 33))])
 (.cond (t 34) (.seq (.region [m 35 (t 5),
 m 36 (t 4),
 m 2 (t 35),
 m 3 (t 36)])
 (.ret))
 (.skip))))
 (.region [m 37 (t 4),
 p 38 (.load true 4 (t 6)),
 c 39 84 [(t 37), (t 38)]]))))
 (.region [p 40 (.bin .add (t 12) (i 1)),
 m 12 (t 40)])))))))
 (.seq (.region [m 41 (t 0),
 p 42 (.len false (t 41)),
 m 43 (t 4),
 m 2 (t 42),
 m 3 (t 43)])
 (.ret))))⟩
theorem cc67 : cFunc Tryz.prog methNames Tryz.f67 = some c67 := by kernel_rfl
/-- pantry/mix.Ceil -/
def c68 : AFunc := ⟨33, [.tmp 6],
  .seq (.region [m 6 (i 0)])
 (.seq (.seq (.region [m 8 (t 1),
 c 9 85 [(t 8)],
 p 10 (.not (t 9)),
 m 11 (t 10),
 g 12 (.move (t 2)) 11 false,
 ⟨(some 13), .e (.call (.value (l (.func (.func 85) #[] #[]))) [(t 12)]), some (11, false)⟩,
 g 14 (.not (t 13)) 11 false,
 p 15 (.pick (t 11) (l (.bool true)) (t 14)),
 m 16 (t 15),
 g 17 (.move (t 1)) 16 false,
 g 18 (.move (t 2)) 16 false,
 g 19 (.bin .gtr (t 17) (t 18)) 16 false,
 p 20 (.pick (t 16) (l (.bool true)) (t 19))])
 (.cond (t 20) (.seq (.region [m 6 (i 0)])
 (.ret))
 (.skip)))
 (.seq (.region [m 21 (t 1),
 m 7 (t 21)])
 (.seq (.block 0 (.loop (.seq (.seq (.region [m 22 (t 7),
 m 23 (t 0),
 p 24 (.bin .lss (t 22) (t 23)),
 m 25 (t 24),
 g 26 (.move (t 7)) 25 true,
 g 27 (.move (t 2)) 25 true,
 g 28 (.bin .lss (t 26) (t 27)) 25 true,
 p 29 (.pick (t 25) (t 28) (l (.bool false)))])
 (.cond (t 29) (.skip)
 (.exit 0)))
 (.block 1 (.region [m 30 (t 7),
 p 31 (.bin .mul (t 30) (i 2)),
 m 7 (t 31)])))))
 (.seq (.region [m 32 (t 7),
 m 6 (t 32)])
 (.ret)))))⟩
theorem cc68 : cFunc Tryz.prog methNames Tryz.f68 = some c68 := by kernel_rfl
/-- pantry/table.New -/
def c69 : AFunc := ⟨7, [.tmp 2],
  .seq (.region [m 2 (l (.pointer none))])
 (.seq (.region [m 3 (t 0),
 a 4 (.makeSlice [(.pointer none)] 8 (i 8) (i 8)),
 p 5 (.build [(.int .i64 0), (.slice none 0 0), (.slice none 0 0), (.int .i64 0), (.int .i64 0)] [(0, 1, (t 3)), (1, 1, (t 4))]),
 a 6 (.box (t 5)),
 m 2 (t 6)])
 (.ret))⟩
theorem cc69 : cFunc Tryz.prog methNames Tryz.f69 = some c69 := by kernel_rfl
/-- pantry/filter.New -/
def c70 : AFunc := ⟨20, [.tmp 4],
  .seq (.region [m 4 (l (.pointer none))])
 (.seq (.region [m 6 (t 0),
 m 7 (t 1),
 c 8 86 [(t 6), (t 7)],
 m 5 (t 8)])
 (.seq (.region [m 9 (t 5),
 p 10 (.build [(.pointer none)] [(0, 1, (t 9))]),
 a 11 (.box (t 10)),
 m 12 (t 5),
 c 13 88 [(t 12)],
 m 14 (t 1),
 c 15 87 [(t 13), (t 14)],
 p 16 (.build [(.pointer none)] [(0, 1, (t 15))]),
 a 17 (.box (t 16)),
 p 18 (.build [(.pointer none), (.pointer none), (.int .i64 0)] [(0, 1, (t 11)), (1, 1, (t 17))]),
 a 19 (.box (t 18)),
 m 4 (t 19)])
 (.ret)))⟩
theorem cc70 : cFunc Tryz.prog methNames Tryz.f70 = some c70 := by kernel_rfl
/-- pantry/deque.New -/
def c71 : AFunc := ⟨44, [.tmp 2],
  .seq (.region [m 2 (l (.pointer none))])
 (.seq (.region [a 6 (.makeMap),
 p 7 (.build [(.slice none 0 0), (.map none)] [(1, 1, (t 6))]),
 a 8 (.box (t 7)),
 m 3 (t 8)])
 (.seq (.seq (.region [m 9 (t 0),
 p 10 (.max [(i 0), (t 9)]),
 p 11 (.min [(t 10), (i 16)]),
 m 12 (i 0)])
 (.block 0 (.loop (.seq (.region [p 13 (.bin .lss (t 12) (t 11))])
 (.seq (.cond (t 13) (.skip)
 (.exit 0))
 (.seq (.block 1 (.seq (.region [m 14 (t 12),
 m 4 (t 14)])
 (.seq (.region [m 15 (t 4),
 p 16 (.build [(.int .i64 0), (.int .i64 0), (.pointer none), (.pointer none), (.pointer none), (.int .i64 0), (.int .i64 0), (.int .i64 0)] [(5, 1, (t 15))]),
 a 17 (.box (t 16)),
 m 5 (t 17)])
 (.seq (.draw [d (m 18 (t 5)),
 d (m 20 (t 5)),
 d (n 21 (t 20)),
 d (f 22 0 (t 21)),
 d (n 26 (t 18)),
 d (f 27 0 (t 26)),
 d (f 28 3 (t 27)),
 d (z (.store 1 (t 28) (t 22))),
 d (m 19 (t 5)),
 d (m 23 (t 5)),
 d (n 24 (t 23)),
 d (f 25 0 (t 24)),
 d (n 29 (t 19)),
 d (f 30 0 (t 29)),
 d (f 31 4 (t 30)),
 d (z (.store 1 (t 31) (t 25)))])
 (.region [m 32 (t 3),
 m 33 (t 3),
 n 34 (t 33),
 f 35 0 (t 34),
 r 36 (t 35),
 m 37 (t 5),
 a 38 (.buildSlice [(.pointer none)] 1 1 [(0, (t 37))]),
 e 39 (.append 1 8 (t 36) (t 38)),
 n 40 (t 32),
 f 41 0 (t 40),
 z (.store 1 (t 41) (t 39))])))))
 (.region [p 42 (.bin .add (t 12) (i 1)),
 m 12 (t 42)])))))))
 (.seq (.region [m 43 (t 3),
 m 2 (t 43)])
 (.ret))))⟩
theorem cc71 : cFunc Tryz.prog methNames Tryz.f71 = some c71 := by kernel_rfl
/-- pantry/quota.Of -/
def c72 : AFunc := ⟨20, [.cell true 3 2],
  .seq (.region [a 2 (.alloc [(.int .i64 0), (.int .i64 0), (.int .i64 0)])])
 (.seq (.region [m 6 (t 0),
 c 7 89 [(t 6), (i 0), (i 4611686018427387903)],
 m 3 (t 7)])
 (.seq (.region [m 9 (t 3),
 c 10 90 [(t 9)],
 m 8 (t 10),
 p 11 (.extract (t 8) 0),
 p 12 (.extract (t 8) 1),
 m 4 (t 11),
 m 5 (t 12)])
 (.seq (.region [m 13 (t 3),
 m 14 (t 3),
 p 15 (.bin .quo (t 14) (i 100)),
 m 16 (t 4),
 m 17 (t 5),
 c 18 89 [(t 15), (t 16), (t 17)],
 c 19 91 [(t 13), (t 18)],
 z (.store 3 (t 2) (t 19))])
 (.ret))))⟩
theorem cc72 : cFunc Tryz.prog methNames Tryz.f72 = some c72 := by kernel_rfl
/-- pantry/climb.New -/
def c73 : AFunc := ⟨6, [.cell true 4 2],
  .seq (.region [a 2 (.alloc [(.int .i64 0), (.int .i64 0), (.int .i64 0), (.int .i64 0)])])
 (.seq (.region [m 3 (t 0),
 c 4 92 [(t 3)],
 p 5 (.build [(.int .i64 0), (.int .i64 0), (.int .i64 0), (.int .i64 0)] [(3, 1, (t 4))]),
 z (.store 4 (t 2) (t 5))])
 (.ret))⟩
theorem cc73 : cFunc Tryz.prog methNames Tryz.f73 = some c73 := by kernel_rfl
/-- pantry/ring.New -/
def c74 : AFunc := ⟨8, [.tmp 2],
  .seq (.region [m 2 (l (.pointer none))])
 (.seq (.region [m 3 (t 0),
 c 4 68 [(t 3), (i 1), (i 4096)],
 a 5 (.makeSlice [(.int .i64 0)] 8 (t 4) (t 4)),
 p 6 (.build [(.slice none 0 0), (.int .i64 0), (.int .i64 0), (.int .i64 0)] [(0, 1, (t 5))]),
 a 7 (.box (t 6)),
 m 2 (t 7)])
 (.ret))⟩
theorem cc74 : cFunc Tryz.prog methNames Tryz.f74 = some c74 := by kernel_rfl
/-- pantry/cells.New$1 -/
def c75 : AFunc := ⟨6, [.tmp 2],
  .seq (.region [m 2 (i 0)])
 (.seq (.region [m 3 (t 0),
 p 4 (.max [(i 0), (t 3)]),
 p 5 (.min [(t 4), (i 4096)]),
 m 2 (t 5)])
 (.ret))⟩
theorem cc75 : cFunc Tryz.prog methNames Tryz.f75 = some c75 := by kernel_rfl
/-- (*pantry/conc.thread).step -/
def c76 : AFunc := ⟨109, [.tmp 2],
  .seq (.region [m 2 (l (.bool false))])
 (.seq (.seq (.region [m 3 (t 0),
 n 4 (t 3),
 f 5 4 (t 4),
 r 6 (t 5)])
 (.block 0 (.seq (.region [p 8 (.bin .eql (t 6) (i 0)),
 m 7 (t 8)])
 (.cond (t 7) (.seq (.region [m 9 (t 0),
 c 10 93 [(t 9)],
 m 2 (t 10)])
 (.ret))
 (.seq (.region [p 12 (.bin .eql (t 6) (i 1)),
 m 11 (t 12)])
 (.cond (t 11) (.seq (.seq (.region [m 13 (t 0),
 n 14 (t 13),
 f 15 0 (t 14),
 r 16 (t 15),
 n 17 (t 16),
 f 18 4 (t 17),
 r 19 (t 18),
 c 20 95 [(t 19)],
 p 21 (.makeIface 30 (i 2)),
 c 22 94 [(t 20), (t 21)]])
 (.cond (t 22) (.seq (.region [m 23 (t 0),
 c 24 96 [(t 23), (i 2)],
 m 2 (t 24)])
 (.ret))
 (.skip)))
 (.seq (.region [m 25 (t 0),
 c 26 96 [(t 25), (i 3)],
 m 2 (t 26)])
 (.ret)))
 (.seq (.region [p 28 (.bin .eql (t 6) (i 2)),
 m 27 (t 28)])
 (.cond (t 27) (.seq (.region [m 29 (t 0),
 c 30 97 [(t 29), (i 1)],
 m 2 (t 30)])
 (.ret))
 (.seq (.region [p 32 (.bin .eql (t 6) (i 3)),
 m 31 (t 32)])
 (.cond (t 31) (.seq (.draw [d (m 34 (t 0)),
 d (n 35 (t 34)),
 d (f 36 0 (t 35)),
 d (r 37 (t 36)),
 d (n 38 (t 37)),
 d (f 39 1 (t 38)),
 d (r 40 (t 39)),
 d (m 41 (t 0)),
 d (n 42 (t 41)),
 d (f 43 5 (t 42)),
 d (f 44 1 (t 43)),
 d (r 45 (t 44)),
 d (c 46 99 [(t 40), (t 45)]),
 d (m 33 (t 0)),
 d (c 47 98 [(t 33), (t 46), (i 4)]),
 d (m 2 (t 47))])
 (.ret))
 (.seq (.region [p 49 (.bin .eql (t 6) (i 4)),
 m 48 (t 49)])
 (.cond (t 48) (.seq (.region [m 50 (t 0),
 c 51 100 [(t 50)],
 m 2 (t 51)])
 (.ret))
 (.seq (.region [p 53 (.bin .eql (t 6) (i 5)),
 m 52 (t 53)])
 (.cond (t 52) (.seq (.region [m 54 (t 0),
 c 55 101 [(t 54)],
 m 2 (t 55)])
 (.ret))
 (.seq (.region [p 57 (.bin .eql (t 6) (i 6)),
 m 56 (t 57)])
 (.cond (t 56) (.seq (.seq (.draw [d (m 58 (t 0)),
 d (n 59 (t 58)),
 d (f 60 0 (t 59)),
 d (r 61 (t 60)),
 d (n 62 (t 61)),
 d (f 63 3 (t 62)),
 d (r 64 (t 63)),
 d (m 65 (t 0)),
 d (n 66 (t 65)),
 d (f 67 1 (t 66)),
 d (r 68 (t 67)),
 d (m 69 (t 0)),
 d (n 70 (t 69)),
 d (f 71 10 (t 70)),
 d (r 72 (t 71)),
 d (c 73 102 [(t 64), (t 68), (t 72)])])
 (.cond (t 73) (.seq (.region [m 74 (t 0),
 c 75 96 [(t 74), (i 16)],
 m 2 (t 75)])
 (.ret))
 (.skip)))
 (.seq (.region [m 76 (t 0),
 c 77 96 [(t 76), (i 8)],
 m 2 (t 77)])
 (.ret)))
 (.seq (.region [p 79 (.bin .eql (t 6) (i 7)),
 m 78 (t 79)])
 (.cond (t 78) (.seq (.region [m 80 (t 0),
 m 81 (t 0),
 c 82 105 [(t 81)],
 c 83 104 [(t 82)],
 c 84 103 [(t 80), (t 83)]])
 (.seq (.region [m 85 (t 0),
 c 86 96 [(t 85), (i 8)],
 m 2 (t 86)])
 (.ret)))
 (.seq (.region [p 88 (.bin .eql (t 6) (i 8)),
 m 87 (t 88)])
 (.cond (t 87) (.seq (.region [m 89 (t 0),
 c 90 97 [(t 89), (i 16)],
 m 2 (t 90)])
 (.ret))
 (.seq (.region [p 92 (.bin .eql (t 6) (i 9)),
 m 91 (t 92)])
 (.cond (t 91) (.seq (.seq (.region [m 93 (t 0),
 m 94 (t 0),
 n 95 (t 94),
 f 96 0 (t 95),
 r 97 (t 96),
 c 98 106 [(t 97)],
 c 99 98 [(t 93), (t 98), (i 10)],
 p 100 (.not (t 99))])
 (.cond (t 100) (.seq (.region [m 2 (l (.bool false))])
 (.ret))
 (.skip)))
 (.seq (.region [m 101 (t 0),
 c 102 107 [(t 101), (i 16)],
 m 2 (t 102)])
 (.ret)))
 (.seq (.region [p 104 (.bin .eql (t 6) (i 16)),
 m 103 (t 104)])
 (.cond (t 103) (.seq (.region [m 105 (t 0),
 c 106 108 [(t 105)],
 m 2 (t 106)])
 (.ret))
 (.skip)))))))))))))))))))))))))
 (.seq (.region [m 107 (t 0),
 c 108 109 [(t 107)],
 m 2 (t 108)])
 (.ret)))⟩
theorem cc76 : cFunc Tryz.prog methNames Tryz.f76 = some c76 := by kernel_rfl
/-- (*pantry/hist.reader).read -/
def c77 : AFunc := ⟨34, [.tmp 6],
  .seq (.region [a 4 (.box (t 1)),
 m 6 (l (.bool false))])
 (.seq (.block 0 (.seq (.region [f 8 0 (t 4),
 r 9 (t 8),
 p 10 (.bin .lss (t 9) (i 0)),
 m 11 (t 10),
 g 12 (.fieldAddr 0 (t 4)) 11 false,
 g 13 (.load false 1 (t 12)) 11 false,
 g 14 (.bin .geq (t 13) (i 64)) 11 false,
 p 15 (.pick (t 11) (l (.bool true)) (t 14)),
 m 7 (t 15)])
 (.cond (t 7) (.seq (.region [m 6 (l (.bool false))])
 (.ret))
 (.seq (.region [f 17 1 (t 4),
 r 18 (t 17),
 p 19 (.bin .lss (t 18) (i 0)),
 m 16 (t 19)])
 (.cond (t 16) (.seq (.region [p 20 (.load true 8 (t 4)),
 c 21 110 [(t 20)],
 m 6 (t 21)])
 (.ret))
 (.seq (.region [f 23 2 (t 4),
 r 24 (t 23),
 p 25 (.bin .eql (t 24) (i 1)),
 m 22 (t 25)])
 (.cond (t 22) (.seq (.region [m 26 (t 0),
 p 27 (.load true 8 (t 4)),
 m 28 (t 2),
 c 29 111 [(t 26), (t 27), (t 28)],
 m 6 (t 29)])
 (.ret))
 (.skip))))))))
 (.seq (.region [m 30 (t 0),
 p 31 (.load true 8 (t 4)),
 m 32 (t 2),
 c 33 112 [(t 30), (t 31), (t 32)],
 m 6 (t 33)])
 (.ret)))⟩
theorem cc77 : cFunc Tryz.prog methNames Tryz.f77 = some c77 := by kernel_rfl
/-- (*pantry/table.Table).All$1 -/
def c78 : AFunc := ⟨10, [.tmp 4],
  .seq (.region [a 2 (.box (t 0)),
 a 3 (.box (t 1)),
 m 4 (i 0)])
 (.seq (.region [f 5 0 (t 2),
 r 6 (t 5),
 f 7 0 (t 3),
 r 8 (t 7),
 c 9 59 [(t 6), (t 8)],
 m 4 (t 9)])
 (.ret))⟩
theorem cc78 : cFunc Tryz.prog methNames Tryz.f78 = some c78 := by kernel_rfl
/-- slices.pdqsortCmpFunc[pantry/api.Entry] -/
def c79 : AFunc := ⟨148, [],
  .seq (.region [m 10 (l (.bool true))])
 (.seq (.region [m 11 (l (.bool true))])
 (.block 0 (.loop (.block 1 (.seq (.region [m 21 (t 2),
 m 22 (t 1),
 p 23 (.bin .sub (t 21) (t 22)),
 m 12 (t 23)])
 (.seq (.seq (.region [m 24 (t 12),
 p 25 (.bin .leq (t 24) (i 12))])
 (.cond (t 25) (.seq (.region [m 26 (t 0),
 m 27 (t 1),
 m 28 (t 2),
 m 29 (t 4),
 c 30 113 [(t 26), (t 27), (t 28), (t 29)]])
 (.ret))
 (.skip)))
 (.seq (.seq (.region [m 31 (t 3),
 p 32 (.bin .eql (t 31) (i 0))])
 (.cond (t 32) (.seq (.region [m 33 (t 0),
 m 34 (t 1),
 m 35 (t 2),
 m 36 (t 4),
 c 37 114 [(t 33), (t 34), (t 35), (t 36)]])
 (.ret))
 (.skip)))
 (.seq (.seq (.region [m 38 (t 10),
 p 39 (.not (t 38))])
 (.cond (t 39) (.seq (.region [m 40 (t 0),
 m 41 (t 1),
 m 42 (t 2),
 m 43 (t 4),
 c 44 115 [(t 40), (t 41), (t 42), (t 43)]])
 (.region [m 45 (t 3),
 p 46 (.bin .sub (t 45) (i 1)),
 m 3 (t 46)]))
 (.skip)))
 (.seq (.region [m 48 (t 0),
 m 49 (t 1),
 m 50 (t 2),
 m 51 (t 4),
 c 52 116 [(t 48), (t 49), (t 50), (t 51)],
 m 47 (t 52),
 p 53 (.extract (t 47) 0),
 p 54 (.extract (t 47) 1),
 m 13 (t 53),
 m 14 (t 54)])
 (.seq (.seq (.region [m 55 (t 14),
 p 56 (.bin .eql (t 55) (i 2))])
 (.cond (t 56) (.seq (.region [m 57 (t 0),
 m 58 (t 1),
 m 59 (t 2),
 m 60 (t 4),
 c 61 117 [(t 57), (t 58), (t 59), (t 60)]])
 (.seq (.region [m 62 (t 2),
 p 63 (.bin .sub (t 62) (i 1)),
 m 64 (t 13),
 m 65 (t 1),
 p 66 (.bin .sub (t 64) (t 65)),
 p 67 (.bin .sub (t 63) (t 66)),
 m 13 (t 67)])
 (.region [m 14 (i 1)])))
 (.skip)))
 (.seq (.seq (.region [m 68 (t 10),
 m 69 (t 68),
 g 70 (.move (t 11)) 69 true,
 p 71 (.pick (t 69) (t 70) (l (.bool false))),
 m 72 (t 71),
 g 73 (.move (t 14)) 72 true,
 g 74 (.bin .eql (t 73) (i 1)) 72 true,
 p 75 (.pick (t 72) (t 74) (l (.bool false)))])
 (.cond (t 75) (.seq (.region [m 76 (t 0),
 m 77 (t 1),
 m 78 (t 2),
 m 79 (t 4),
 c 80 118 [(t 76), (t 77), (t 78), (t 79)]])
 (.cond (t 80) (.ret)
 (.skip)))
 (.skip)))
 (.seq (.seq (.draw [d (m 81 (t 1)),
 d (p 82 (.bin .gtr (t 81) (i 0))),
 d (m 83 (t 82)),
 d (g 84 (.move (t 4)) 83 true),
 d (g 85 (.move (t 0)) 83 true),
 d (g 86 (.move (t 1)) 83 true),
 d (g 87 (.bin .sub (t 86) (i 1)) 83 true),
 d (g 88 (.indexAddr 4 (t 85) (t 87)) 83 true),
 d (g 89 (.load true 4 (t 88)) 83 true),
 d (g 90 (.move (t 0)) 83 true),
 d (g 91 (.move (t 13)) 83 true),
 d (g 92 (.indexAddr 4 (t 90) (t 91)) 83 true),
 d (g 93 (.load true 4 (t 92)) 83 true),
 d (⟨(some 94), .e (.call (.value (t 84)) [(t 89), (t 93)]), some (83, true)⟩),
 d (g 95 (.bin .lss (t 94) (i 0)) 83 true),
 d (g 96 (.not (t 95)) 83 true),
 d (p 97 (.pick (t 83) (t 96) (l (.bool false))))])
 (.cond (t 97) (.seq (.region [m 98 (t 0),
 m 99 (t 1),
 m 100 (t 2),
 m 101 (t 13),
 m 102 (t 4),
 c 103 119 [(t 98), (t 99), (t 100), (t 101), (t 102)],
 m 15 (t 103)])
 (.seq (.region [m 104 (t 15),
 m 1 (t 104)])
 (.exit 1)))
 (.skip)))
 (.seq (.region [m 106 (t 0),
 m 107 (t 1),
 m 108 (t 2),
 m 109 (t 13),
 m 110 (t 4),
 c 111 120 [(t 106), (t 107), (t 108), (t 109), (t 110)],
 m 105 (t 111),
 p 112 (.extract (t 105) 0),
 p 113 (.extract (t 105) 1),
 m 16 (t 112),
 m 17 (t 113)])
 (.seq (.region [m 114 (t 17),
 m 11 (t 114)])
 (.seq (.region [m 115 (t 16),
 m 116 (t 1),
 p 117 (.bin .sub (t 115) (t 116)),
 m 118 (t 2),
 m 119 (t 16),
 p 120 (.bin .sub (t 118) (t 119)),
 m 18 (t 117),
 m 19 (t 120)])
 (.seq (.region [m 121 (t 12),
 p 122 (.bin .quo (t 121) (i 8)),
 m 20 (t 122)])
 (.seq (.region [m 123 (t 18),
 m 124 (t 19),
 p 125 (.bin .lss (t 123) (t 124))])
 (.cond (t 125) (.seq (.region [m 126 (t 18),
 m 127 (t 20),
 p 128 (.bin .geq (t 126) (t 127)),
 m 10 (t 128)])
 (.seq (.region [m 129 (t 0),
 m 130 (t 1),
 m 131 (t 16),
 m 132 (t 3),
 m 133 (t 4),
 c 134 79 [(t 129), (t 130), (t 131), (t 132), (t 133)]])
 (.region [m 135 (t 16),
 p 136 (.bin .add (t 135) (i 1)),
 m 1 (t 136)])))
 (.seq (.region [m 137 (t 19),
 m 138 (t 20),
 p 139 (.bin .geq (t 137) (t 138)),
 m 10 (t 139)])
 (.seq (.region [m 140 (t 0),
 m 141 (t 16),
 p 142 (.bin .add (t 141) (i 1)),
 m 143 (t 2),
 m 144 (t 3),
 m 145 (t 4),
 c 146 79 [(t 140), (t 142), (t 143), (t 144), (t 145)]])
 (.region [m 147 (t 16),
 m 2 (t 147)])))))))))))))))))))))⟩
theorem cc79 : cFunc Tryz.prog methNames Tryz.f79 = some c79 := by kernel_rfl
/-- math/bits.Len -/
def c80 : AFunc := ⟨8, [.tmp 2],
  .seq (.region [m 2 (i 0)])
 (.seq (.cond (l (.bool false)) (.seq (.region [m 3 (t 0),
 p 4 (.conv .u32 (t 3)),
 c 5 121 [(t 4)],
 m 2 (t 5)])
 (.ret))
 (.skip))
 (.seq (.region [m 6 (t 0),
 c 7 122 [(t 6)],
 m 2 (t 7)])
 (.ret)))⟩
theorem cc80 : cFunc Tryz.prog methNames Tryz.f80 = some c80 := by kernel_rfl
/-- cmp.isNaN[int] -/
def c81 : AFunc := ⟨6, [.tmp 2],
  .seq (.region [m 2 (l (.bool false))])
 (.seq (.region [m 3 (t 0),
 m 4 (t 0),
 p 5 (.bin .neq (t 3) (t 4)),
 m 2 (t 5)])
 (.ret))⟩
theorem cc81 : cFunc Tryz.prog methNames Tryz.f81 = some c81 := by kernel_rfl
/-- slices.IndexFunc[[]int,int] -/
def c82 : AFunc := ⟨19, [.tmp 4],
  .seq (.region [m 4 (i 0)])
 (.seq (.seq (.region [m 6 (t 0),
 p 7 (.len false (t 6)),
 m 8 (i 0)])
 (.block 0 (.loop (.seq (.region [p 9 (.bin .lss (t 8) (t 7))])
 (.seq (.cond (t 9) (.skip)
 (.exit 0))
 (.seq (.block 1 (.seq (.region [m 10 (t 8),
 m 5 (t 10)])
 (.seq (.region [m 11 (t 1),
 m 12 (t 0),
 m 13 (t 5),
 p 14 (.indexAddr 1 (t 12) (t 13)),
 r 15 (t 14),
 e 16 (.call (.value (t 11)) [(t 15)])])
 (.cond (t 16) (.seq (.region [m 17 (t 5),
 m 4 (t 17)])
 (.ret))
 (.skip)))))
 (.region [p 18 (.bin .add (t 8) (i 1)),
 m 8 (t 18)])))))))
 (.seq (.region [m 4 (i (-1))])
 (.ret)))⟩
theorem cc82 : cFunc Tryz.prog methNames Tryz.f82 = some c82 := by kernel_rfl
/-- (pantry/spec.state).may -/
def c83 : AFunc := ⟨40, [.cell true 4 8, .tmp 9],
  .seq (.region [a 8 (.alloc [(.int .i64 0), (.int .i64 0), (.int .i64 0), (.bool false)]),
 m 9 (l (.bool false))])
 (.seq (.region [m 14 (t 0),
 m 15 (t 2),
 p 16 (.lookup (.int .i64 0) true (t 14) (t 15)),
 m 13 (t 16),
 p 17 (.extract (t 13) 0),
 p 18 (.extract (t 13) 1),
 m 10 (t 17),
 m 11 (t 18)])
 (.seq (.region [m 19 (t 1),
 m 20 (t 2),
 m 21 (t 10),
 m 22 (t 11),
 p 23 (.build [(.int .i64 0), (.int .i64 0), (.int .i64 0), (.bool false)] [(0, 1, (t 19)), (1, 1, (t 20)), (2, 1, (t 21)), (3, 1, (t 22))]),
 a 12 (.alloc [(.int .i64 0), (.int .i64 0), (.int .i64 0), (.bool false)]),
 z (.store 4 (t 12) (t 23))])
 (.seq (.seq (.region [m 24 (t 1)])
 (.block 0 (.seq (.region [p 26 (.bin .eql (t 24) (i 2)),
 m 25 (t 26)])
 (.cond (t 25) (.seq (.region [m 27 (t 1),
 m 28 (t 2),
 m 29 (t 3),
 p 30 (.build [(.int .i64 0), (.int .i64 0), (.int .i64 0), (.bool false)] [(0, 1, (t 27)), (1, 1, (t 28)), (2, 1, (t 29))]),
 z (.store 4 (t 8) (t 30)),
 m 9 (l (.bool true))])
 (.ret))
 (.seq (.seq (.region [p 32 (.bin .eql (t 24) (i 1)),
 m 31 (t 32)])
 (.cond (t 31) (.skip)
 (.region [p 33 (.bin .eql (t 24) (i 3)),
 m 31 (t 33)])))
 (.cond (t 31) (.seq (.region [p 34 (.load true 4 (t 12)),
 z (.store 4 (t 8) (t 34)),
 m 9 (l (.bool true))])
 (.ret))
 (.seq (.region [p 36 (.bin .eql (t 24) (i 4)),
 m 35 (t 36)])
 (.cond (t 35) (.seq (.region [p 37 (.load true 4 (t 12)),
 m 38 (t 11),
 z (.store 4 (t 8) (t 37)),
 m 9 (t 38)])
 (.ret))
 (.skip)))))))))
 (.seq (.region [p 39 (.build [(.int .i64 0), (.int .i64 0), (.int .i64 0), (.bool false)] []),
 z (.store 4 (t 8) (t 39)),
 m 9 (l (.bool false))])
 (.ret)))))⟩
theorem cc83 : cFunc Tryz.prog methNames Tryz.f83 = some c83 := by kernel_rfl
/-- (pantry/spec.state).do -/
def c84 : AFunc := ⟨19, [],
  .seq (.region [a 3 (.box (t 1))])
 (.seq (.region [f 4 0 (t 3),
 r 5 (t 4)])
 (.block 0 (.seq (.region [p 7 (.bin .eql (t 5) (i 2)),
 m 6 (t 7)])
 (.cond (t 6) (.region [m 8 (t 0),
 f 9 1 (t 3),
 r 10 (t 9),
 f 11 2 (t 3),
 r 12 (t 11),
 z (.mapUpdate (t 8) (t 10) (t 12))])
 (.seq (.seq (.region [p 14 (.bin .eql (t 5) (i 3)),
 m 13 (t 14)])
 (.cond (t 13) (.skip)
 (.region [p 15 (.bin .eql (t 5) (i 4)),
 m 13 (t 15)])))
 (.cond (t 13) (.region [m 16 (t 0),
 f 17 1 (t 3),
 r 18 (t 17),
 z (.delete (t 16) (t 18))])
 (.skip)))))))⟩
theorem cc84 : cFunc Tryz.prog methNames Tryz.f84 = some c84 := by kernel_rfl
/-- pantry/mix.power -/
def c85 : AFunc := ⟨12, [.tmp 2],
  .seq (.region [m 2 (l (.bool false))])
 (.seq (.region [m 3 (t 0),
 p 4 (.bin .gtr (t 3) (i 0)),
 m 5 (t 4),
 g 6 (.move (t 0)) 5 true,
 g 7 (.move (t 0)) 5 true,
 g 8 (.bin .sub (t 7) (i 1)) 5 true,
 g 9 (.bin .and (t 6) (t 8)) 5 true,
 g 10 (.bin .eql (t 9) (i 0)) 5 true,
 p 11 (.pick (t 5) (t 10) (l (.bool false))),
 m 2 (t 11)])
 (.ret))⟩
theorem cc85 : cFunc Tryz.prog methNames Tryz.f85 = some c85 := by kernel_rfl
/-- pantry/sketch.New -/
def c86 : AFunc := ⟨28, [.tmp 4],
  .seq (.region [m 4 (l (.pointer none))])
 (.seq (.region [m 7 (t 0),
 c 8 68 [(t 7), (i 16), (i 65536)],
 m 9 (t 1),
 p 10 (.build [(.int .i64 0), (.int .i64 0), (.int .i64 0), (.slice none 0 0), (.slice none 0 0), (.slice none 0 0), (.slice none 0 0)] [(0, 1, (t 8)), (1, 1, (t 9))]),
 a 11 (.box (t 10)),
 m 5 (t 11)])
 (.seq (.seq (.region [m 12 (i 0)])
 (.block 0 (.loop (.seq (.region [p 13 (.bin .lss (t 12) (i 4))])
 (.seq (.cond (t 13) (.skip)
 (.exit 0))
 (.seq (.block 1 (.seq (.region [m 14 (t 12),
 m 6 (t 14)])
 (.draw [d (m 15 (t 5)),
 d (m 16 (t 6)),
 d (m 17 (t 5)),
 d (n 18 (t 17)),
 d (f 19 0 (t 18)),
 d (r 20 (t 19)),
 d (p 21 (.bin .quo (t 20) (i 16))),
 d (a 22 (.makeSlice [(.int .u64 0)] 8 (t 21) (t 21))),
 d (n 23 (t 15)),
 d (f 24 3 (t 23)),
 d (p 25 (.indexAddrA 4 1 (t 24) (t 16))),
 d (z (.store 1 (t 25) (t 22)))])))
 (.region [p 26 (.bin .add (t 12) (i 1)),
 m 12 (t 26)])))))))
 (.seq (.region [m 27 (t 5),
 m 4 (t 27)])
 (.ret))))⟩
theorem cc86 : cFunc Tryz.prog methNames Tryz.f86 = some c86 := by kernel_rfl
/-- pantry/door.New -/
def c87 : AFunc := ⟨15, [.tmp 4],
  .seq (.region [m 4 (l (.pointer none))])
 (.seq (.region [m 6 (t 0),
 c 7 68 [(t 6), (i 16), (i 65536)],
 p 8 (.bin .mul (i 8) (t 7)),
 m 5 (t 8)])
 (.seq (.region [m 9 (t 1),
 m 10 (t 5),
 p 11 (.bin .quo (t 10) (i 64)),
 a 12 (.makeSlice [(.int .u64 0)] 8 (t 11) (t 11)),
 p 13 (.build [(.int .i64 0), (.slice none 0 0)] [(0, 1, (t 9)), (1, 1, (t 12))]),
 a 14 (.box (t 13)),
 m 4 (t 14)])
 (.ret)))⟩
theorem cc87 : cFunc Tryz.prog methNames Tryz.f87 = some c87 := by kernel_rfl
/-- (*pantry/sketch.Sketch).Width -/
def c88 : AFunc := ⟨7, [.tmp 2],
  .seq (.region [m 2 (i 0)])
 (.seq (.region [m 3 (t 0),
 n 4 (t 3),
 f 5 0 (t 4),
 r 6 (t 5),
 m 2 (t 6)])
 (.ret))⟩
theorem cc88 : cFunc Tryz.prog methNames Tryz.f88 = some c88 := by kernel_rfl
/-- pantry/quota.clamp[int] -/
def c89 : AFunc := ⟨12, [.tmp 6],
  .seq (.region [m 6 (i 0)])
 (.seq (.region [m 7 (t 0),
 m 8 (t 1),
 p 9 (.max [(t 7), (t 8)]),
 m 10 (t 2),
 p 11 (.min [(t 9), (t 10)]),
 m 6 (t 11)])
 (.ret))⟩
theorem cc89 : cFunc Tryz.prog methNames Tryz.f89 = some c89 := by kernel_rfl
/-- pantry/quota.ends -/
def c90 : AFunc := ⟨10, [.tmp 2, .tmp 3],
  .seq (.region [m 2 (i 0),
 m 3 (i 0)])
 (.seq (.seq (.region [m 4 (t 0),
 p 5 (.bin .eql (t 4) (i 0))])
 (.cond (t 5) (.seq (.region [m 2 (i 0),
 m 3 (i 0)])
 (.ret))
 (.skip)))
 (.seq (.region [m 6 (t 0),
 m 7 (t 0),
 p 8 (.bin .quo (t 7) (i 5)),
 p 9 (.bin .sub (t 6) (t 8)),
 m 2 (i 1),
 m 3 (t 9)])
 (.ret)))⟩
theorem cc90 : cFunc Tryz.prog methNames Tryz.f90 = some c90 := by kernel_rfl
/-- pantry/quota.with -/
def c91 : AFunc := ⟨16, [.cell true 3 4],
  .seq (.region [a 4 (.alloc [(.int .i64 0), (.int .i64 0), (.int .i64 0)])])
 (.seq (.region [m 6 (t 0),
 m 7 (t 1),
 p 8 (.bin .sub (t 6) (t 7)),
 m 5 (t 8)])
 (.seq (.region [m 9 (t 0),
 m 10 (t 1),
 m 11 (t 5),
 m 12 (t 5),
 p 13 (.bin .quo (t 12) (i 5)),
 p 14 (.bin .sub (t 11) (t 13)),
 p 15 (.build [(.int .i64 0), (.int .i64 0), (.int .i64 0)] [(0, 1, (t 9)), (1, 1, (t 10)), (2, 1, (t 14))]),
 z (.store 3 (t 4) (t 15))])
 (.ret)))⟩
theorem cc91 : cFunc Tryz.prog methNames Tryz.f91 = some c91 := by kernel_rfl
/-- pantry/climb.first -/
def c92 : AFunc := ⟨8, [.tmp 2],
  .seq (.region [m 2 (i 0)])
 (.seq (.region [m 3 (t 0),
 p 4 (.max [(i 0), (t 3)]),
 p 5 (.min [(t 4), (i 4611686018427387903)]),
 p 6 (.bin .quo (t 5) (i 16)),
 p 7 (.max [(i 1), (t 6)]),
 m 2 (t 7)])
 (.ret))⟩
theorem cc92 : cFunc Tryz.prog methNames Tryz.f92 = some c92 := by kernel_rfl
/-- (*pantry/conc.thread).begin -/
def c93 : AFunc := ⟨106, [.tmp 2],
  .seq (.region [m 2 (l (.bool false))])
 (.seq (.seq (.draw [d (m 4 (t 0)),
 d (n 5 (t 4)),
 d (f 6 3 (t 5)),
 d (r 7 (t 6)),
 d (m 8 (t 0)),
 d (n 9 (t 8)),
 d (f 10 2 (t 9)),
 d (r 11 (t 10)),
 d (p 12 (.len false (t 11))),
 d (p 13 (.bin .eql (t 7) (t 12)))])
 (.cond (t 13) (.seq (.region [m 2 (l (.bool false))])
 (.ret))
 (.skip)))
 (.seq (.draw [d (m 14 (t 0)),
 d (n 15 (t 14)),
 d (f 16 2 (t 15)),
 d (r 17 (t 16)),
 d (m 18 (t 0)),
 d (n 19 (t 18)),
 d (f 20 3 (t 19)),
 d (r 21 (t 20)),
 d (p 22 (.indexAddr 4 (t 17) (t 21))),
 d (p 23 (.load true 4 (t 22))),
 d (a 3 (.alloc [(.int .i64 0), (.int .i64 0), (.int .i64 0), (.int .i64 0)])),
 d (z (.store 4 (t 3) (t 23)))])
 (.seq (.region [m 24 (t 0),
 m 25 (t 0),
 f 26 0 (t 3),
 r 27 (t 26),
 f 28 1 (t 3),
 r 29 (t 28),
 p 30 (.build [(.int .i64 0), (.int .i64 0), (.int .i64 0), (.bool false)] [(0, 1, (t 27)), (1, 1, (t 29))]),
 n 31 (t 24),
 f 32 5 (t 31),
 z (.store 4 (t 32) (t 30)),
 n 33 (t 25),
 f 34 9 (t 33),
 z (.store 1 (t 34) (i 0))])
 (.seq (.seq (.region [f 35 0 (t 3),
 r 36 (t 35),
 p 37 (.bin .eql (t 36) (i 2))])
 (.cond (t 37) (.seq (.region [m 38 (t 0),
 f 39 2 (t 3),
 r 40 (t 39),
 n 41 (t 38),
 f 42 5 (t 41),
 f 43 2 (t 42),
 z (.store 1 (t 43) (t 40))])
 (.draw [d (f 45 1 (t 3)),
 d (r 46 (t 45)),
 d (f 47 3 (t 3)),
 d (r 48 (t 47)),
 d (m 49 (t 0)),
 d (n 50 (t 49)),
 d (f 51 0 (t 50)),
 d (r 52 (t 51)),
 d (n 53 (t 52)),
 d (f 54 0 (t 53)),
 d (r 55 (t 54)),
 d (c 56 124 [(t 46), (t 48), (t 55)]),
 d (c 57 123 [(t 56)]),
 d (m 44 (t 0)),
 d (n 58 (t 44)),
 d (f 59 9 (t 58)),
 d (z (.store 1 (t 59) (t 57)))]))
 (.skip)))
 (.seq (.draw [d (m 60 (t 0)),
 d (m 61 (t 0)),
 d (n 62 (t 61)),
 d (f 63 3 (t 62)),
 d (r 64 (t 63)),
 d (m 65 (t 0)),
 d (n 66 (t 65)),
 d (f 67 5 (t 66)),
 d (p 68 (.load true 4 (t 67))),
 d (c 69 125 [(t 60), (t 64), (i 1), (t 68), (i 0)])])
 (.seq (.block 0 (.seq (.region [m 71 (t 0),
 n 72 (t 71),
 f 73 9 (t 72),
 r 74 (t 73),
 p 75 (.bin .neq (t 74) (i 0)),
 m 70 (t 75)])
 (.cond (t 70) (.seq (.region [m 76 (t 0),
 c 77 96 [(t 76), (i 16)],
 m 2 (t 77)])
 (.ret))
 (.seq (.region [f 79 0 (t 3),
 r 80 (t 79),
 p 81 (.bin .eql (t 80) (i 1)),
 m 78 (t 81)])
 (.cond (t 78) (.seq (.region [m 82 (t 0),
 c 83 96 [(t 82), (i 3)],
 m 2 (t 83)])
 (.ret))
 (.seq (.region [f 85 0 (t 3),
 r 86 (t 85),
 p 87 (.bin .eql (t 86) (i 2)),
 m 88 (t 87),
 g 89 (.fieldAddr 0 (t 3)) 88 false,
 g 90 (.load false 1 (t 89)) 88 false,
 g 91 (.bin .eql (t 90) (i 3)) 88 false,
 p 92 (.pick (t 88) (l (.bool true)) (t 91)),
 m 84 (t 92)])
 (.cond (t 84) (.seq (.region [m 93 (t 0),
 c 94 96 [(t 93), (i 1)],
 m 2 (t 94)])
 (.ret))
 (.seq (.region [f 96 0 (t 3),
 r 97 (t 96),
 p 98 (.bin .eql (t 97) (i 4)),
 m 95 (t 98)])
 (.cond (t 95) (.seq (.region [m 99 (t 0),
 c 100 96 [(t 99), (i 9)],
 m 2 (t 100)])
 (.ret))
 (.skip))))))))))
 (.seq (.region [m 101 (t 0),
 n 102 (t 101),
 f 103 9 (t 102),
 z (.store 1 (t 103) (i 1))])
 (.seq (.region [m 104 (t 0),
 c 105 96 [(t 104), (i 16)],
 m 2 (t 105)])
 (.ret)))))))))⟩
theorem cc93 : cFunc Tryz.prog methNames Tryz.f93 = some c93 := by kernel_rfl
/-- (*pantry/writes.Buffer).Reserve -/
def c95 : AFunc := ⟨29, [.tmp 2],
  .seq (.region [m 2 (l .nilIface)])
 (.seq (.seq (.draw [d (m 3 (t 0)),
 d (c 4 128 [(t 3)]),
 d (m 5 (t 0)),
 d (n 6 (t 5)),
 d (f 7 3 (t 6)),
 (r 8 (t 7), [3]),
 d (p 9 (.bin .add (t 4) (t 8))),
 d (m 10 (t 0)),
 d (n 11 (t 10)),
 d (f 12 0 (t 11)),
 (r 13 (t 12), [8]),
 d (p 14 (.bin .eql (t 9) (t 13)))])
 (.cond (t 14) (.seq (.draw [d (m 15 (t 0)),
 d (c 16 128 [(t 15)]),
 d (m 17 (t 0)),
 d (n 18 (t 17)),
 d (f 19 3 (t 18)),
 (r 20 (t 19), [3]),
 d (c 21 129 [(i 2), (t 16), (t 20)]),
 d (m 2 (t 21))])
 (.ret))
 (.skip)))
 (.seq (.region [m 22 (t 0),
 n 23 (t 22),
 f 24 3 (t 23),
 r 25 (t 24),
 p 26 (.bin .add (t 25) (i 1)),
 n 27 (t 22),
 f 28 3 (t 27),
 z (.store 1 (t 28) (t 26))])
 (.seq (.region [m 2 (l .nilIface)])
 (.ret))))⟩
theorem cc95 : cFunc Tryz.prog methNames Tryz.f95 = some c95 := by kernel_rfl
/-- (*pantry/conc.thread).goTo -/
def c96 : AFunc := ⟨9, [.tmp 4],
  .seq (.region [m 4 (l (.bool false))])
 (.seq (.region [m 5 (t 0),
 m 6 (t 1),
 n 7 (t 5),
 f 8 4 (t 7),
 z (.store 1 (t 8) (t 6))])
 (.seq (.region [m 4 (l (.bool true))])
 (.ret)))⟩
theorem cc96 : cFunc Tryz.prog methNames Tryz.f96 = some c96 := by kernel_rfl
/-- (*pantry/conc.thread).try -/
def c97 : AFunc := ⟨34, [.tmp 4],
  .seq (.region [m 4 (l (.bool false))])
 (.seq (.seq (.draw [d (m 19 (t 0)),
 d (n 20 (t 19)),
 d (f 21 0 (t 20)),
 d (r 22 (t 21)),
 d (c 23 106 [(t 22)]),
 d (m 8 (t 0)),
 d (n 9 (t 8)),
 d (f 10 0 (t 9)),
 (r 11 (t 10), [3]),
 d (n 12 (t 11)),
 d (f 13 5 (t 12)),
 (r 14 (t 13), [6]),
 d (m 15 (t 0)),
 d (n 16 (t 15)),
 d (f 17 1 (t 16)),
 (r 18 (t 17), [10]),
 d (c 24 130 [(t 14), (t 18), (t 23)]),
 d (m 7 (t 24)),
 d (p 25 (.extract (t 7) 0)),
 d (p 26 (.extract (t 7) 1)),
 d (m 5 (t 25)),
 d (m 6 (t 26))])
 (.seq (.region [m 27 (t 5)])
 (.cond (t 27) (.seq (.region [m 28 (t 0),
 m 29 (t 1),
 c 30 107 [(t 28), (t 29)],
 m 4 (t 30)])
 (.ret))
 (.skip))))
 (.seq (.region [m 31 (t 0),
 m 32 (t 1),
 c 33 96 [(t 31), (t 32)],
 m 4 (t 33)])
 (.ret)))⟩
theorem cc97 : cFunc Tryz.prog methNames Tryz.f97 = some c97 := by kernel_rfl
/-- (*pantry/conc.thread).lock -/
def c98 : AFunc := ⟨26, [.tmp 6],
  .seq (.region [m 6 (l (.bool false))])
 (.seq (.seq (.draw [d (m 7 (t 0)),
 d (n 8 (t 7)),
 d (f 9 0 (t 8)),
 d (r 10 (t 9)),
 d (n 11 (t 10)),
 d (f 12 5 (t 11)),
 d (r 13 (t 12)),
 d (m 14 (t 0)),
 d (n 15 (t 14)),
 d (f 16 1 (t 15)),
 d (r 17 (t 16)),
 d (m 18 (t 1)),
 d (c 19 131 [(t 13), (t 17), (t 18)]),
 d (p 20 (.makeIface 30 (t 19))),
 d (p 21 (.makeIface 30 (i 6))),
 d (c 22 94 [(t 20), (t 21)])])
 (.cond (t 22) (.seq (.region [m 6 (l (.bool false))])
 (.ret))
 (.skip)))
 (.seq (.region [m 23 (t 0),
 m 24 (t 2),
 c 25 96 [(t 23), (t 24)],
 m 6 (t 25)])
 (.ret)))⟩
theorem cc98 : cFunc Tryz.prog methNames Tryz.f98 = some c98 := by kernel_rfl
/-- (*pantry/shards.Map).Shard -/
def c99 : AFunc := ⟨17, [.tmp 4],
  .seq (.region [m 4 (i 0)])
 (.seq (.draw [d (m 5 (t 0)),
 d (n 6 (t 5)),
 d (f 7 0 (t 6)),
 d (r 8 (t 7)),
 d (m 9 (t 1)),
 d (c 10 133 [(t 8), (t 9)]),
 d (m 11 (t 0)),
 d (n 12 (t 11)),
 d (f 13 1 (t 12)),
 (r 14 (t 13), [3]),
 d (p 15 (.len false (t 14))),
 d (c 16 132 [(t 10), (i 2), (t 15)]),
 d (m 4 (t 16))])
 (.ret))⟩
theorem cc99 : cFunc Tryz.prog methNames Tryz.f99 = some c99 := by kernel_rfl
/-- (*pantry/conc.thread).act -/
def c100 : AFunc := ⟨41, [.tmp 2],
  .seq (.region [m 2 (l (.bool false))])
 (.seq (.seq (.draw [d (m 4 (t 0)),
 d (n 5 (t 4)),
 d (f 6 2 (t 5)),
 d (r 7 (t 6)),
 d (m 8 (t 0)),
 d (n 9 (t 8)),
 d (f 10 3 (t 9)),
 d (r 11 (t 10)),
 d (p 12 (.indexAddr 4 (t 7) (t 11))),
 d (p 13 (.load true 4 (t 12))),
 d (a 3 (.alloc [(.int .i64 0), (.int .i64 0), (.int .i64 0), (.int .i64 0)])),
 d (z (.store 4 (t 3) (t 13)))])
 (.seq (.region [f 14 0 (t 3),
 r 15 (t 14)])
 (.block 0 (.seq (.region [p 20 (.bin .eql (t 15) (i 1)),
 m 19 (t 20)])
 (.cond (t 19) (.region [m 21 (t 0),
 p 22 (.load true 4 (t 3)),
 c 23 134 [(t 21), (t 22)]])
 (.seq (.region [p 25 (.bin .eql (t 15) (i 2)),
 m 24 (t 25)])
 (.cond (t 24) (.region [m 26 (t 0),
 p 27 (.load true 4 (t 3)),
 c 28 135 [(t 26), (t 27)]])
 (.region [m 16 (t 0),
 p 17 (.load true 4 (t 3)),
 c 18 136 [(t 16), (t 17)]]))))))))
 (.seq (.draw [d (m 29 (t 0)),
 d (m 30 (t 0)),
 d (n 31 (t 30)),
 d (f 32 3 (t 31)),
 d (r 33 (t 32)),
 d (m 34 (t 0)),
 d (n 35 (t 34)),
 d (f 36 5 (t 35)),
 d (p 37 (.load true 4 (t 36))),
 d (c 38 125 [(t 29), (t 33), (i 2), (t 37), (i 0)])])
 (.seq (.region [m 39 (t 0),
 c 40 96 [(t 39), (i 5)],
 m 2 (t 40)])
 (.ret))))⟩
theorem cc100 : cFunc Tryz.prog methNames Tryz.f100 = some c100 := by kernel_rfl
/-- (*pantry/conc.thread).unlock -/
def c101 : AFunc := ⟨57, [.tmp 2],
  .seq (.region [m 2 (l (.bool false))])
 (.seq (.draw [d (m 14 (t 0)),
 d (n 15 (t 14)),
 d (f 16 0 (t 15)),
 d (r 17 (t 16)),
 d (n 18 (t 17)),
 d (f 19 1 (t 18)),
 d (r 20 (t 19)),
 d (m 21 (t 0)),
 d (n 22 (t 21)),
 d (f 23 5 (t 22)),
 d (f 24 1 (t 23)),
 d (r 25 (t 24)),
 d (c 26 99 [(t 20), (t 25)]),
 d (m 3 (t 0)),
 d (n 4 (t 3)),
 d (f 5 0 (t 4)),
 (r 6 (t 5), [3]),
 d (n 7 (t 6)),
 d (f 8 5 (t 7)),
 (r 9 (t 8), [6]),
 d (m 10 (t 0)),
 d (n 11 (t 10)),
 d (f 12 1 (t 11)),
 (r 13 (t 12), [10]),
 d (c 27 137 [(t 9), (t 13), (t 26)])])
 (.seq (.block 0 (.seq (.region [m 29 (t 0),
 n 30 (t 29),
 f 31 5 (t 30),
 f 32 0 (t 31),
 r 33 (t 32),
 p 34 (.bin .eql (t 33) (i 2)),
 m 28 (t 34)])
 (.cond (t 28) (.seq (.region [m 35 (t 0),
 c 36 96 [(t 35), (i 7)],
 m 2 (t 36)])
 (.ret))
 (.seq (.region [m 38 (t 0),
 n 39 (t 38),
 f 40 5 (t 39),
 f 41 3 (t 40),
 r 42 (t 41),
 p 43 (.not (t 42)),
 m 37 (t 43)])
 (.cond (t 37) (.seq (.region [m 44 (t 0),
 c 45 96 [(t 44), (i 16)],
 m 2 (t 45)])
 (.ret))
 (.seq (.region [m 47 (t 0),
 n 48 (t 47),
 f 49 5 (t 48),
 f 50 0 (t 49),
 r 51 (t 50),
 p 52 (.bin .eql (t 51) (i 1)),
 m 46 (t 52)])
 (.cond (t 46) (.seq (.region [m 53 (t 0),
 c 54 96 [(t 53), (i 6)],
 m 2 (t 54)])
 (.ret))
 (.skip))))))))
 (.seq (.region [m 55 (t 0),
 c 56 96 [(t 55), (i 7)],
 m 2 (t 56)])
 (.ret))))⟩
theorem cc101 : cFunc Tryz.prog methNames Tryz.f101 = some c101 := by kernel_rfl
/-- (*pantry/stripes.Stripes).Offer -/
def c102 : AFunc := ⟨18, [.tmp 6],
  .seq (.region [m 6 (l (.bool false))])
 (.seq (.draw [d (m 11 (t 0)),
 d (m 12 (t 1)),
 d (c 13 138 [(t 11), (t 12)]),
 d (m 7 (t 0)),
 d (n 8 (t 7)),
 d (f 9 0 (t 8)),
 (r 10 (t 9), [3]),
 d (p 14 (.indexAddr 1 (t 10) (t 13))),
 d (r 15 (t 14)),
 d (m 16 (t 2)),
 d (e 17 (.call (.invoke (t 15) 0) [(t 16)])),
 d (m 6 (t 17))])
 (.ret))⟩
theorem cc102 : cFunc Tryz.prog methNames Tryz.f102 = some c102 := by kernel_rfl
/-- (*pantry/conc.thread).set -/
def c103 : AFunc := ⟨17, [],
  .draw [d (m 4 (t 0)),
 d (n 5 (t 4)),
 d (f 6 0 (t 5)),
 d (r 7 (t 6)),
 d (n 8 (t 7)),
 d (f 9 5 (t 8)),
 d (r 10 (t 9)),
 d (m 11 (t 0)),
 d (n 12 (t 11)),
 d (f 13 1 (t 12)),
 d (r 14 (t 13)),
 d (m 15 (t 1)),
 d (c 16 139 [(t 10), (t 14), (i 0), (t 15)])]⟩
theorem cc103 : cFunc Tryz.prog methNames Tryz.f103 = some c103 := by kernel_rfl
/-- pantry/status.Wrote -/
def c104 : AFunc := ⟨8, [.tmp 2],
  .seq (.region [m 2 (i 0)])
 (.seq (.seq (.region [m 3 (t 0)])
 (.block 0 (.seq (.block 2 (.block 1 (.seq (.seq (.seq (.region [p 5 (.bin .eql (t 3) (i 2)),
 m 4 (t 5)])
 (.cond (t 4) (.exit 1)
 (.skip)))
 (.seq (.region [p 7 (.bin .eql (t 3) (i 3)),
 m 6 (t 7)])
 (.cond (t 6) (.exit 2)
 (.skip))))
 (.exit 0))))
 (.seq (.seq (.region [m 2 (i 3)])
 (.ret))
 (.exit 0)))))
 (.seq (.region [m 2 (i 1)])
 (.ret)))⟩
theorem cc104 : cFunc Tryz.prog methNames Tryz.f104 = some c104 := by kernel_rfl
/-- (*pantry/conc.thread).status -/
def c105 : AFunc := ⟨21, [.tmp 2],
  .seq (.region [m 2 (i 0)])
 (.seq (.draw [d (m 6 (t 0)),
 d (n 7 (t 6)),
 d (f 8 0 (t 7)),
 d (r 9 (t 8)),
 d (n 10 (t 9)),
 d (f 11 5 (t 10)),
 d (r 12 (t 11)),
 d (m 13 (t 0)),
 d (n 14 (t 13)),
 d (f 15 1 (t 14)),
 d (r 16 (t 15)),
 d (c 17 140 [(t 12), (t 16), (i 0)]),
 d (m 5 (t 17)),
 d (p 18 (.extract (t 5) 0)),
 d (p 19 (.extract (t 5) 1)),
 d (m 3 (t 18)),
 d (m 4 (t 19))])
 (.seq (.region [m 20 (t 3),
 m 2 (t 20)])
 (.ret)))⟩
theorem cc105 : cFunc Tryz.prog methNames Tryz.f105 = some c105 := by kernel_rfl
/-- (*pantry/conc.parts).drains -/
def c106 : AFunc := ⟨8, [.tmp 2],
  .seq (.region [m 2 (i 0)])
 (.seq (.region [m 3 (t 0),
 n 4 (t 3),
 f 5 1 (t 4),
 r 6 (t 5),
 c 7 51 [(t 6)],
 m 2 (t 7)])
 (.ret))⟩
theorem cc106 : cFunc Tryz.prog methNames Tryz.f106 = some c106 := by kernel_rfl
/-- (*pantry/conc.thread).drain -/
def c107 : AFunc := ⟨16, [.tmp 4],
  .seq (.region [m 4 (l (.bool false))])
 (.seq (.region [m 5 (t 0),
 m 6 (t 0),
 c 7 105 [(t 6)],
 c 8 141 [(t 7)],
 c 9 103 [(t 5), (t 8)]])
 (.seq (.region [m 10 (t 0),
 m 11 (t 1),
 n 12 (t 10),
 f 13 11 (t 12),
 z (.store 1 (t 13) (t 11))])
 (.seq (.region [m 14 (t 0),
 c 15 96 [(t 14), (i 10)],
 m 4 (t 15)])
 (.ret))))⟩
theorem cc107 : cFunc Tryz.prog methNames Tryz.f107 = some c107 := by kernel_rfl
/-- (*pantry/conc.thread).answer -/
def c108 : AFunc := ⟨26, [.tmp 2],
  .seq (.region [m 2 (l (.bool false))])
 (.seq (.draw [d (m 3 (t 0)),
 d (m 4 (t 0)),
 d (n 5 (t 4)),
 d (f 6 3 (t 5)),
 d (r 7 (t 6)),
 d (m 8 (t 0)),
 d (n 9 (t 8)),
 d (f 10 5 (t 9)),
 d (p 11 (.load true 4 (t 10))),
 d (m 12 (t 0)),
 d (n 13 (t 12)),
 d (f 14 9 (t 13)),
 d (r 15 (t 14)),
 d (c 16 125 [(t 3), (t 7), (i 3), (t 11), (t 15)])])
 (.seq (.region [m 17 (t 0),
 n 18 (t 17),
 f 19 3 (t 18),
 r 20 (t 19),
 p 21 (.bin .add (t 20) (i 1)),
 n 22 (t 17),
 f 23 3 (t 22),
 z (.store 1 (t 23) (t 21))])
 (.seq (.region [m 24 (t 0),
 c 25 96 [(t 24), (i 0)],
 m 2 (t 25)])
 (.ret))))⟩
theorem cc108 : cFunc Tryz.prog methNames Tryz.f108 = some c108 := by kernel_rfl
end Go.Proofs.YtgnmjfnkibbnkaaGreatDoor

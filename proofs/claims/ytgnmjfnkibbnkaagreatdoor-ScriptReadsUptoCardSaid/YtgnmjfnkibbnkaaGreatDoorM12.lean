
import Derived.Test.YtgnmjfnkibbnkaaGreatDoorM11
set_option linter.unusedSimpArgs false
set_option linter.unusedVariables false
namespace Go.Proofs.YtgnmjfnkibbnkaaGreatDoor
open Go Go.Proofs.PantryEng Go.Proofs.PantryEng.Lt1
set_option maxRecDepth 100000
set_option maxHeartbeats 0
/-- (*pantry/conc.thread).draining -/
def c109 : AFunc := ⟨72, [.tmp 2],
  .seq (.region [m 2 (l (.bool false))])
 (.seq (.seq (.region [m 5 (t 0),
 n 6 (t 5),
 f 7 4 (t 6),
 r 8 (t 7)])
 (.block 0 (.seq (.region [p 10 (.bin .eql (t 8) (i 10)),
 m 9 (t 10)])
 (.cond (t 9) (.seq (.region [m 12 (t 0),
 n 13 (t 12),
 f 14 0 (t 13),
 r 15 (t 14),
 n 16 (t 15),
 f 17 3 (t 16),
 r 18 (t 17),
 c 19 142 [(t 18)],
 m 11 (t 19),
 p 20 (.extract (t 11) 0),
 p 21 (.extract (t 11) 1),
 m 3 (t 20),
 m 4 (t 21)])
 (.seq (.seq (.region [m 22 (t 4),
 p 23 (.not (t 22))])
 (.cond (t 23) (.seq (.region [m 24 (t 0),
 c 25 96 [(t 24), (i 11)],
 m 2 (t 25)])
 (.ret))
 (.skip)))
 (.seq (.region [m 26 (t 0),
 m 27 (t 3),
 p 28 (.build [(.int .i64 0), (.int .i64 0), (.int .i64 0), (.int .i64 0)] [(0, 1, (i 2)), (1, 1, (t 27))]),
 c 29 143 [(t 26), (t 28)]])
 (.seq (.region [m 2 (l (.bool true))])
 (.ret)))))
 (.seq (.region [p 31 (.bin .eql (t 8) (i 11)),
 m 30 (t 31)])
 (.cond (t 30) (.seq (.region [m 32 (t 0),
 c 33 144 [(t 32)],
 m 2 (t 33)])
 (.ret))
 (.seq (.region [p 35 (.bin .eql (t 8) (i 12)),
 m 34 (t 35)])
 (.cond (t 34) (.seq (.region [m 36 (t 0),
 m 37 (t 0),
 c 38 145 [(t 37)],
 c 39 98 [(t 36), (t 38), (i 13)],
 m 2 (t 39)])
 (.ret))
 (.seq (.region [p 41 (.bin .eql (t 8) (i 13)),
 m 40 (t 41)])
 (.cond (t 40) (.seq (.region [m 42 (t 0),
 c 43 146 [(t 42)],
 m 2 (t 43)])
 (.ret))
 (.seq (.region [p 45 (.bin .eql (t 8) (i 14)),
 m 44 (t 45)])
 (.cond (t 44) (.seq (.draw [d (m 57 (t 0)),
 d (c 58 145 [(t 57)]),
 d (m 46 (t 0)),
 d (n 47 (t 46)),
 d (f 48 0 (t 47)),
 (r 49 (t 48), [3]),
 d (n 50 (t 49)),
 d (f 51 5 (t 50)),
 (r 52 (t 51), [6]),
 d (m 53 (t 0)),
 d (n 54 (t 53)),
 d (f 55 1 (t 54)),
 (r 56 (t 55), [10]),
 d (c 59 137 [(t 52), (t 56), (t 58)])])
 (.seq (.region [m 60 (t 0),
 m 61 (t 0),
 n 62 (t 61),
 f 63 12 (t 62),
 r 64 (t 63),
 p 65 (.slice false 1 (t 64) (some (i 1)) none none),
 n 66 (t 60),
 f 67 12 (t 66),
 z (.store 1 (t 67) (t 65))])
 (.seq (.region [m 68 (t 0),
 c 69 147 [(t 68)],
 m 2 (t 69)])
 (.ret))))
 (.skip)))))))))))))
 (.seq (.region [m 70 (t 0),
 c 71 148 [(t 70)],
 m 2 (t 71)])
 (.ret)))⟩
theorem cc109 : cFunc Tryz.prog methNames Tryz.f109 = some c109 := by kernel_rfl
/-- pantry/hist.evicts -/
def c110 : AFunc := ⟨22, [.tmp 2],
  .seq (.region [a 1 (.box (t 0)),
 m 2 (l (.bool false))])
 (.seq (.region [f 3 1 (t 1),
 r 4 (t 3),
 p 5 (.bin .eql (t 4) (i (-1))),
 m 6 (t 5),
 g 7 (.fieldAddr 2 (t 1)) 6 true,
 g 8 (.load false 1 (t 7)) 6 true,
 g 9 (.bin .eql (t 8) (i 2)) 6 true,
 p 10 (.pick (t 6) (t 9) (l (.bool false))),
 m 11 (t 10),
 g 12 (.fieldAddr 3 (t 1)) 11 true,
 g 13 (.fieldAddr 0 (t 12)) 11 true,
 g 14 (.load false 1 (t 13)) 11 true,
 g 15 (.bin .eql (t 14) (i 4)) 11 true,
 p 16 (.pick (t 11) (t 15) (l (.bool false))),
 m 17 (t 16),
 g 18 (.fieldAddr 7 (t 1)) 17 true,
 g 19 (.load false 1 (t 18)) 17 true,
 g 20 (.bin .eql (t 19) (i 0)) 17 true,
 p 21 (.pick (t 17) (t 20) (l (.bool false))),
 m 2 (t 21)])
 (.ret))⟩
theorem cc110 : cFunc Tryz.prog methNames Tryz.f110 = some c110 := by kernel_rfl
/-- (*pantry/hist.reader).invoke -/
def c111 : AFunc := ⟨79, [.tmp 6],
  .seq (.region [a 4 (.box (t 1)),
 m 6 (l (.bool false))])
 (.seq (.draw [d (m 11 (t 0)),
 d (n 12 (t 11)),
 d (f 13 0 (t 12)),
 d (r 14 (t 13)),
 d (f 15 0 (t 4)),
 d (r 16 (t 15)),
 d (p 17 (.lookup (.agg #[(.int .i64 0), (.int .i64 0), (.int .i64 0), (.int .i64 0), (.int .i64 0), (.int .i64 0), (.bool false), (.int .i64 0), (.int .i64 0)]) true (t 14) (t 16))),
 d (m 10 (t 17)),
 d (p 18 (.extract (t 10) 0)),
 d (a 7 (.alloc [(.int .i64 0), (.int .i64 0), (.int .i64 0), (.int .i64 0), (.int .i64 0), (.int .i64 0), (.bool false), (.int .i64 0), (.int .i64 0)])),
 d (z (.store 9 (t 7) (t 18))),
 d (p 19 (.extract (t 10) 1)),
 d (m 8 (t 19))])
 (.seq (.region [m 20 (t 8),
 p 21 (.not (t 20)),
 m 22 (t 21),
 g 23 (.fieldAddr 1 (t 4)) 22 true,
 g 24 (.load false 1 (t 23)) 22 true,
 g 25 (.bin .eql (t 24) (i 0)) 22 true,
 p 26 (.pick (t 22) (t 25) (l (.bool false))),
 m 9 (t 26)])
 (.seq (.seq (.region [m 27 (t 9),
 p 28 (.not (t 27)),
 m 29 (t 28),
 g 30 (.move (t 8)) 29 true,
 g 31 (.not (t 30)) 29 true,
 g 32 (.move (t 31)) 29 true,
 g 33 (.fieldAddr 0 (t 7)) 32 false,
 g 34 (.fieldAddr 2 (t 33)) 32 false,
 g 35 (.load false 1 (t 34)) 32 false,
 g 36 (.bin .neq (t 35) (i 3)) 32 false,
 g 37 (.pick (t 32) (l (.bool true)) (t 36)) 29 true,
 g 38 (.move (t 37)) 29 true,
 g 39 (.fieldAddr 1 (t 4)) 38 false,
 g 40 (.load false 1 (t 39)) 38 false,
 g 41 (.fieldAddr 0 (t 7)) 38 false,
 g 42 (.fieldAddr 1 (t 41)) 38 false,
 g 43 (.load false 1 (t 42)) 38 false,
 g 44 (.bin .add (t 43) (i 1)) 38 false,
 g 45 (.bin .neq (t 40) (t 44)) 38 false,
 g 46 (.pick (t 38) (l (.bool true)) (t 45)) 29 true,
 p 47 (.pick (t 29) (t 46) (l (.bool false)))])
 (.cond (t 47) (.seq (.region [m 6 (l (.bool false))])
 (.ret))
 (.skip)))
 (.seq (.draw [d (m 48 (t 0)),
 d (n 49 (t 48)),
 d (f 50 0 (t 49)),
 d (r 51 (t 50)),
 d (f 52 0 (t 4)),
 d (r 53 (t 52)),
 d (p 54 (.load true 8 (t 4))),
 d (m 55 (t 0)),
 d (n 56 (t 55)),
 d (f 57 1 (t 56)),
 d (r 58 (t 57)),
 d (p 59 (.len false (t 58))),
 d (p 60 (.build [(.int .i64 0), (.int .i64 0), (.int .i64 0), (.int .i64 0), (.int .i64 0), (.int .i64 0), (.bool false), (.int .i64 0), (.int .i64 0)] [(0, 8, (t 54)), (8, 1, (t 59))])),
 d (z (.mapUpdate (t 51) (t 53) (t 60)))])
 (.seq (.draw [d (m 62 (t 0)),
 d (n 63 (t 62)),
 d (f 64 1 (t 63)),
 d (r 65 (t 64)),
 d (f 66 0 (t 4)),
 d (r 67 (t 66)),
 d (f 68 1 (t 4)),
 d (r 69 (t 68)),
 d (m 70 (t 2)),
 d (p 71 (.build [(.int .i64 0), (.int .i64 0), (.int .i64 0), (.int .i64 0), (.int .i64 0)] [(0, 1, (t 67)), (1, 1, (t 69)), (2, 1, (t 70)), (3, 1, (i (-1))), (4, 1, (i (-1)))])),
 d (a 72 (.buildSlice [(.int .i64 0), (.int .i64 0), (.int .i64 0), (.int .i64 0), (.int .i64 0)] 5 1 [(0, (t 71))])),
 d (e 73 (.append 5 40 (t 65) (t 72))),
 d (m 61 (t 0)),
 d (n 74 (t 61)),
 d (f 75 1 (t 74)),
 d (z (.store 1 (t 75) (t 73)))])
 (.seq (.region [f 76 7 (t 4),
 r 77 (t 76),
 p 78 (.bin .eql (t 77) (i 0)),
 m 6 (t 78)])
 (.ret)))))))⟩
theorem cc111 : cFunc Tryz.prog methNames Tryz.f111 = some c111 := by kernel_rfl
/-- (*pantry/hist.reader).follow -/
def c112 : AFunc := ⟨109, [.tmp 6],
  .seq (.region [a 4 (.box (t 1)),
 m 6 (l (.bool false))])
 (.seq (.draw [d (m 12 (t 0)),
 d (n 13 (t 12)),
 d (f 14 0 (t 13)),
 d (r 15 (t 14)),
 d (f 16 0 (t 4)),
 d (r 17 (t 16)),
 d (p 18 (.lookup (.agg #[(.int .i64 0), (.int .i64 0), (.int .i64 0), (.int .i64 0), (.int .i64 0), (.int .i64 0), (.bool false), (.int .i64 0), (.int .i64 0)]) true (t 15) (t 17))),
 d (m 11 (t 18)),
 d (p 19 (.extract (t 11) 0)),
 d (a 7 (.alloc [(.int .i64 0), (.int .i64 0), (.int .i64 0), (.int .i64 0), (.int .i64 0), (.int .i64 0), (.bool false), (.int .i64 0), (.int .i64 0)])),
 d (z (.store 9 (t 7) (t 19))),
 d (p 20 (.extract (t 11) 1)),
 d (m 8 (t 20))])
 (.seq (.region [f 21 0 (t 7),
 p 22 (.load true 8 (t 21)),
 a 9 (.alloc [(.int .i64 0), (.int .i64 0), (.int .i64 0), (.int .i64 0), (.int .i64 0), (.int .i64 0), (.bool false), (.int .i64 0)]),
 z (.store 8 (t 9) (t 22))])
 (.seq (.seq (.region [m 23 (t 8),
 p 24 (.not (t 23)),
 m 25 (t 24),
 g 26 (.fieldAddr 2 (t 9)) 25 false,
 g 27 (.load false 1 (t 26)) 25 false,
 g 28 (.bin .eql (t 27) (i 3)) 25 false,
 p 29 (.pick (t 25) (l (.bool true)) (t 28)),
 m 30 (t 29),
 g 31 (.fieldAddr 1 (t 4)) 30 false,
 g 32 (.load false 1 (t 31)) 30 false,
 g 33 (.fieldAddr 1 (t 9)) 30 false,
 g 34 (.load false 1 (t 33)) 30 false,
 g 35 (.bin .neq (t 32) (t 34)) 30 false,
 p 36 (.pick (t 30) (l (.bool true)) (t 35)),
 m 37 (t 36),
 g 38 (.fieldAddr 3 (t 4)) 37 false,
 g 39 (.fieldAddr 0 (t 38)) 37 false,
 g 40 (.load false 1 (t 39)) 37 false,
 g 41 (.fieldAddr 3 (t 9)) 37 false,
 g 42 (.fieldAddr 0 (t 41)) 37 false,
 g 43 (.load false 1 (t 42)) 37 false,
 g 44 (.bin .neq (t 40) (t 43)) 37 false,
 p 45 (.pick (t 37) (l (.bool true)) (t 44)),
 m 46 (t 45),
 g 47 (.fieldAddr 3 (t 4)) 46 false,
 g 48 (.fieldAddr 1 (t 47)) 46 false,
 g 49 (.load false 1 (t 48)) 46 false,
 g 50 (.fieldAddr 3 (t 9)) 46 false,
 g 51 (.fieldAddr 1 (t 50)) 46 false,
 g 52 (.load false 1 (t 51)) 46 false,
 g 53 (.bin .neq (t 49) (t 52)) 46 false,
 p 54 (.pick (t 46) (l (.bool true)) (t 53))])
 (.cond (t 54) (.seq (.region [m 6 (l (.bool false))])
 (.ret))
 (.skip)))
 (.seq (.draw [d (m 55 (t 0)),
 d (n 56 (t 55)),
 d (f 57 1 (t 56)),
 d (r 58 (t 57)),
 d (f 59 8 (t 7)),
 d (r 60 (t 59)),
 d (p 61 (.indexAddr 5 (t 58) (t 60))),
 d (m 10 (t 61))])
 (.seq (.draw [d (m 62 (t 0)),
 d (n 63 (t 62)),
 d (f 64 0 (t 63)),
 d (r 65 (t 64)),
 d (f 66 0 (t 4)),
 d (r 67 (t 66)),
 d (p 68 (.load true 8 (t 4))),
 d (f 69 8 (t 7)),
 d (r 70 (t 69)),
 d (p 71 (.build [(.int .i64 0), (.int .i64 0), (.int .i64 0), (.int .i64 0), (.int .i64 0), (.int .i64 0), (.bool false), (.int .i64 0), (.int .i64 0)] [(0, 8, (t 68)), (8, 1, (t 70))])),
 d (z (.mapUpdate (t 65) (t 67) (t 71)))])
 (.seq (.seq (.region [f 72 2 (t 4),
 r 73 (t 72)])
 (.block 0 (.seq (.region [p 75 (.bin .eql (t 73) (i 2)),
 m 74 (t 75)])
 (.cond (t 74) (.seq (.region [m 76 (t 10),
 m 77 (t 2),
 n 78 (t 76),
 f 79 3 (t 78),
 z (.store 1 (t 79) (t 77))])
 (.seq (.region [f 80 2 (t 9),
 r 81 (t 80),
 p 82 (.bin .eql (t 81) (i 1)),
 m 83 (t 82),
 g 84 (.fieldAddr 7 (t 4)) 83 true,
 g 85 (.load false 1 (t 84)) 83 true,
 g 86 (.bin .eql (t 85) (i 0)) 83 true,
 p 87 (.pick (t 83) (t 86) (l (.bool false))),
 m 6 (t 87)])
 (.ret)))
 (.seq (.region [p 89 (.bin .eql (t 73) (i 3)),
 m 88 (t 89)])
 (.cond (t 88) (.seq (.region [m 90 (t 10),
 m 91 (t 2),
 n 92 (t 90),
 f 93 4 (t 92),
 z (.store 1 (t 93) (t 91))])
 (.seq (.region [f 94 2 (t 9),
 r 95 (t 94),
 p 96 (.bin .eql (t 95) (i 1)),
 m 97 (t 96),
 g 98 (.fieldAddr 3 (t 4)) 97 false,
 g 99 (.load true 4 (t 98)) 97 false,
 g 100 (.fieldAddr 3 (t 9)) 97 false,
 g 101 (.load true 4 (t 100)) 97 false,
 g 102 (.eqAgg false [false, false, false, true] (t 99) (t 101)) 97 false,
 g 103 (.move (t 102)) 97 false,
 g 104 (.fieldAddr 7 (t 4)) 103 true,
 g 105 (.load false 1 (t 104)) 103 true,
 g 106 (.bin .eql (t 105) (i 0)) 103 true,
 g 107 (.pick (t 103) (t 106) (l (.bool false))) 97 false,
 p 108 (.pick (t 97) (l (.bool true)) (t 107)),
 m 6 (t 108)])
 (.ret)))
 (.skip)))))))
 (.seq (.region [m 6 (l (.bool false))])
 (.ret))))))))⟩
theorem cc112 : cFunc Tryz.prog methNames Tryz.f112 = some c112 := by kernel_rfl
/-- slices.insertionSortCmpFunc[pantry/api.Entry] -/
def c113 : AFunc := ⟨53, [],
  .seq (.region [m 10 (t 1),
 p 11 (.bin .add (t 10) (i 1)),
 m 8 (t 11)])
 (.block 0 (.loop (.seq (.seq (.region [m 12 (t 8),
 m 13 (t 2),
 p 14 (.bin .lss (t 12) (t 13))])
 (.cond (t 14) (.skip)
 (.exit 0)))
 (.seq (.block 1 (.seq (.region [m 17 (t 8),
 m 9 (t 17)])
 (.block 2 (.loop (.seq (.seq (.draw [d (m 18 (t 9)),
 d (m 19 (t 1)),
 d (p 20 (.bin .gtr (t 18) (t 19))),
 d (m 21 (t 20)),
 d (g 22 (.move (t 3)) 21 true),
 d (g 23 (.move (t 0)) 21 true),
 d (g 24 (.move (t 9)) 21 true),
 d (g 25 (.indexAddr 4 (t 23) (t 24)) 21 true),
 d (g 26 (.load true 4 (t 25)) 21 true),
 d (g 27 (.move (t 0)) 21 true),
 d (g 28 (.move (t 9)) 21 true),
 d (g 29 (.bin .sub (t 28) (i 1)) 21 true),
 d (g 30 (.indexAddr 4 (t 27) (t 29)) 21 true),
 d (g 31 (.load true 4 (t 30)) 21 true),
 d (⟨(some 32), .e (.call (.value (t 22)) [(t 26), (t 31)]), some (21, true)⟩),
 d (g 33 (.bin .lss (t 32) (i 0)) 21 true),
 d (p 34 (.pick (t 21) (t 33) (l (.bool false))))])
 (.cond (t 34) (.skip)
 (.exit 2)))
 (.seq (.block 3 (.draw [d (m 37 (t 0)),
 d (m 38 (t 9)),
 d (m 42 (t 0)),
 d (m 43 (t 9)),
 d (p 44 (.bin .sub (t 43) (i 1))),
 d (p 45 (.indexAddr 4 (t 42) (t 44))),
 d (p 46 (.load true 4 (t 45))),
 d (m 47 (t 0)),
 d (m 48 (t 9)),
 d (p 49 (.indexAddr 4 (t 47) (t 48))),
 d (p 50 (.load true 4 (t 49))),
 d (p 51 (.indexAddr 4 (t 37) (t 38))),
 d (z (.store 4 (t 51) (t 46))),
 d (m 39 (t 0)),
 d (m 40 (t 9)),
 d (p 41 (.bin .sub (t 40) (i 1))),
 d (p 52 (.indexAddr 4 (t 39) (t 41))),
 d (z (.store 4 (t 52) (t 50)))]))
 (.region [m 35 (t 9),
 p 36 (.bin .sub (t 35) (i 1)),
 m 9 (t 36)])))))))
 (.region [m 15 (t 8),
 p 16 (.bin .add (t 15) (i 1)),
 m 8 (t 16)])))))⟩
theorem cc113 : cFunc Tryz.prog methNames Tryz.f113 = some c113 := by kernel_rfl
/-- slices.heapSortCmpFunc[pantry/api.Entry] -/
def c114 : AFunc := ⟨60, [],
  .seq (.region [m 13 (t 1),
 m 8 (t 13)])
 (.seq (.region [m 9 (i 0)])
 (.seq (.region [m 14 (t 2),
 m 15 (t 1),
 p 16 (.bin .sub (t 14) (t 15)),
 m 10 (t 16)])
 (.seq (.seq (.region [m 17 (t 10),
 p 18 (.bin .sub (t 17) (i 1)),
 p 19 (.bin .quo (t 18) (i 2)),
 m 11 (t 19)])
 (.block 0 (.loop (.seq (.seq (.region [m 20 (t 11),
 p 21 (.bin .geq (t 20) (i 0))])
 (.cond (t 21) (.skip)
 (.exit 0)))
 (.seq (.block 1 (.region [m 24 (t 0),
 m 25 (t 11),
 m 26 (t 10),
 m 27 (t 8),
 m 28 (t 3),
 c 29 149 [(t 24), (t 25), (t 26), (t 27), (t 28)]]))
 (.region [m 22 (t 11),
 p 23 (.bin .sub (t 22) (i 1)),
 m 11 (t 23)]))))))
 (.seq (.region [m 30 (t 10),
 p 31 (.bin .sub (t 30) (i 1)),
 m 12 (t 31)])
 (.block 2 (.loop (.seq (.seq (.region [m 32 (t 12),
 p 33 (.bin .geq (t 32) (i 0))])
 (.cond (t 33) (.skip)
 (.exit 2)))
 (.seq (.block 3 (.seq (.draw [d (m 36 (t 0)),
 d (m 37 (t 8)),
 d (m 42 (t 0)),
 d (m 43 (t 8)),
 d (m 44 (t 12)),
 d (p 45 (.bin .add (t 43) (t 44))),
 d (p 46 (.indexAddr 4 (t 42) (t 45))),
 d (p 47 (.load true 4 (t 46))),
 d (m 48 (t 0)),
 d (m 49 (t 8)),
 d (p 50 (.indexAddr 4 (t 48) (t 49))),
 d (p 51 (.load true 4 (t 50))),
 d (p 52 (.indexAddr 4 (t 36) (t 37))),
 d (z (.store 4 (t 52) (t 47))),
 d (m 38 (t 0)),
 d (m 39 (t 8)),
 d (m 40 (t 12)),
 d (p 41 (.bin .add (t 39) (t 40))),
 d (p 53 (.indexAddr 4 (t 38) (t 41))),
 d (z (.store 4 (t 53) (t 51)))])
 (.region [m 54 (t 0),
 m 55 (t 9),
 m 56 (t 12),
 m 57 (t 8),
 m 58 (t 3),
 c 59 149 [(t 54), (t 55), (t 56), (t 57), (t 58)]])))
 (.region [m 34 (t 12),
 p 35 (.bin .sub (t 34) (i 1)),
 m 12 (t 35)])))))))))⟩
theorem cc114 : cFunc Tryz.prog methNames Tryz.f114 = some c114 := by kernel_rfl
/-- slices.breakPatternsCmpFunc[pantry/api.Entry] -/
def c115 : AFunc := ⟨67, [],
  .seq (.region [m 13 (t 2),
 m 14 (t 1),
 p 15 (.bin .sub (t 13) (t 14)),
 m 8 (t 15)])
 (.seq (.region [m 16 (t 8),
 p 17 (.bin .geq (t 16) (i 8))])
 (.cond (t 17) (.seq (.region [m 18 (t 8),
 p 19 (.conv .u64 (t 18)),
 a 9 (.alloc [(.int .u64 0)]),
 z (.store 1 (t 9) (t 19))])
 (.seq (.region [m 20 (t 8),
 c 21 150 [(t 20)],
 m 10 (t 21)])
 (.seq (.region [m 22 (t 1),
 m 23 (t 8),
 p 24 (.bin .quo (t 23) (i 4)),
 p 25 (.bin .mul (t 24) (i 2)),
 p 26 (.bin .add (t 22) (t 25)),
 p 27 (.bin .sub (t 26) (i 1)),
 m 11 (t 27)])
 (.block 0 (.loop (.seq (.seq (.region [m 28 (t 11),
 m 29 (t 1),
 m 30 (t 8),
 p 31 (.bin .quo (t 30) (i 4)),
 p 32 (.bin .mul (t 31) (i 2)),
 p 33 (.bin .add (t 29) (t 32)),
 p 34 (.bin .add (t 33) (i 1)),
 p 35 (.bin .leq (t 28) (t 34))])
 (.cond (t 35) (.skip)
 (.exit 0)))
 (.seq (.block 1 (.seq (.region [c 38 151 [(t 9)],
 m 39 (t 10),
 p 40 (.bin .sub (t 39) (l (.int .u64 1))),
 p 41 (.bin .and (t 38) (t 40)),
 p 42 (.conv .i64 (t 41)),
 m 12 (t 42)])
 (.seq (.seq (.region [m 43 (t 12),
 m 44 (t 8),
 p 45 (.bin .geq (t 43) (t 44))])
 (.cond (t 45) (.region [m 46 (t 12),
 m 47 (t 8),
 p 48 (.bin .sub (t 46) (t 47)),
 m 12 (t 48)])
 (.skip)))
 (.draw [d (m 49 (t 0)),
 d (m 50 (t 11)),
 d (m 55 (t 0)),
 d (m 56 (t 1)),
 d (m 57 (t 12)),
 d (p 58 (.bin .add (t 56) (t 57))),
 d (p 59 (.indexAddr 4 (t 55) (t 58))),
 d (p 60 (.load true 4 (t 59))),
 d (m 61 (t 0)),
 d (m 62 (t 11)),
 d (p 63 (.indexAddr 4 (t 61) (t 62))),
 d (p 64 (.load true 4 (t 63))),
 d (p 65 (.indexAddr 4 (t 49) (t 50))),
 d (z (.store 4 (t 65) (t 60))),
 d (m 51 (t 0)),
 d (m 52 (t 1)),
 d (m 53 (t 12)),
 d (p 54 (.bin .add (t 52) (t 53))),
 d (p 66 (.indexAddr 4 (t 51) (t 54))),
 d (z (.store 4 (t 66) (t 64)))]))))
 (.region [m 36 (t 11),
 p 37 (.bin .add (t 36) (i 1)),
 m 11 (t 37)]))))))))
 (.skip)))⟩
theorem cc115 : cFunc Tryz.prog methNames Tryz.f115 = some c115 := by kernel_rfl
/-- slices.choosePivotCmpFunc[pantry/api.Entry] -/
def c116 : AFunc := ⟨63, [.tmp 8, .tmp 9],
  .seq (.region [m 8 (i 0),
 m 9 (i 0)])
 (.seq (.region [m 15 (t 2),
 m 16 (t 1),
 p 17 (.bin .sub (t 15) (t 16)),
 m 10 (t 17)])
 (.seq (.region [a 11 (.alloc [(.int .i64 0)])])
 (.seq (.region [m 18 (t 1),
 m 19 (t 10),
 p 20 (.bin .quo (t 19) (i 4)),
 p 21 (.bin .mul (t 20) (i 1)),
 p 22 (.bin .add (t 18) (t 21)),
 m 12 (t 22)])
 (.seq (.region [m 23 (t 1),
 m 24 (t 10),
 p 25 (.bin .quo (t 24) (i 4)),
 p 26 (.bin .mul (t 25) (i 2)),
 p 27 (.bin .add (t 23) (t 26)),
 m 13 (t 27)])
 (.seq (.region [m 28 (t 1),
 m 29 (t 10),
 p 30 (.bin .quo (t 29) (i 4)),
 p 31 (.bin .mul (t 30) (i 3)),
 p 32 (.bin .add (t 28) (t 31)),
 m 14 (t 32)])
 (.seq (.seq (.region [m 33 (t 10),
 p 34 (.bin .geq (t 33) (i 8))])
 (.cond (t 34) (.seq (.seq (.region [m 35 (t 10),
 p 36 (.bin .geq (t 35) (i 50))])
 (.cond (t 36) (.seq (.region [m 37 (t 0),
 m 38 (t 12),
 m 39 (t 3),
 c 40 152 [(t 37), (t 38), (t 11), (t 39)],
 m 12 (t 40)])
 (.seq (.region [m 41 (t 0),
 m 42 (t 13),
 m 43 (t 3),
 c 44 152 [(t 41), (t 42), (t 11), (t 43)],
 m 13 (t 44)])
 (.region [m 45 (t 0),
 m 46 (t 14),
 m 47 (t 3),
 c 48 152 [(t 45), (t 46), (t 11), (t 47)],
 m 14 (t 48)])))
 (.skip)))
 (.region [m 49 (t 0),
 m 50 (t 12),
 m 51 (t 13),
 m 52 (t 14),
 m 53 (t 3),
 c 54 153 [(t 49), (t 50), (t 51), (t 52), (t 11), (t 53)],
 m 13 (t 54)]))
 (.skip)))
 (.seq (.region [r 55 (t 11)])
 (.block 0 (.seq (.region [p 58 (.bin .eql (t 55) (i 0)),
 m 57 (t 58)])
 (.cond (t 57) (.seq (.region [m 59 (t 13),
 m 8 (t 59),
 m 9 (i 1)])
 (.ret))
 (.seq (.region [p 61 (.bin .eql (t 55) (i 12)),
 m 60 (t 61)])
 (.cond (t 60) (.seq (.region [m 62 (t 13),
 m 8 (t 62),
 m 9 (i 2)])
 (.ret))
 (.seq (.region [m 56 (t 13),
 m 8 (t 56),
 m 9 (i 0)])
 (.ret))))))))))))))⟩
theorem cc116 : cFunc Tryz.prog methNames Tryz.f116 = some c116 := by kernel_rfl
/-- slices.reverseRangeCmpFunc[pantry/api.Entry] -/
def c117 : AFunc := ⟨34, [],
  .seq (.region [m 10 (t 1),
 m 8 (t 10)])
 (.seq (.region [m 11 (t 2),
 p 12 (.bin .sub (t 11) (i 1)),
 m 9 (t 12)])
 (.block 0 (.loop (.seq (.seq (.region [m 13 (t 8),
 m 14 (t 9),
 p 15 (.bin .lss (t 13) (t 14))])
 (.cond (t 15) (.skip)
 (.exit 0)))
 (.block 1 (.seq (.draw [d (m 16 (t 0)),
 d (m 17 (t 8)),
 d (m 20 (t 0)),
 d (m 21 (t 9)),
 d (p 22 (.indexAddr 4 (t 20) (t 21))),
 d (p 23 (.load true 4 (t 22))),
 d (m 24 (t 0)),
 d (m 25 (t 8)),
 d (p 26 (.indexAddr 4 (t 24) (t 25))),
 d (p 27 (.load true 4 (t 26))),
 d (p 28 (.indexAddr 4 (t 16) (t 17))),
 d (z (.store 4 (t 28) (t 23))),
 d (m 18 (t 0)),
 d (m 19 (t 9)),
 d (p 29 (.indexAddr 4 (t 18) (t 19))),
 d (z (.store 4 (t 29) (t 27)))])
 (.seq (.region [m 30 (t 8),
 p 31 (.bin .add (t 30) (i 1)),
 m 8 (t 31)])
 (.region [m 32 (t 9),
 p 33 (.bin .sub (t 32) (i 1)),
 m 9 (t 33)]))))))))⟩
theorem cc117 : cFunc Tryz.prog methNames Tryz.f117 = some c117 := by kernel_rfl
/-- slices.partialInsertionSortCmpFunc[pantry/api.Entry] -/
def c118 : AFunc := ⟨141, [.tmp 8],
  .seq (.region [m 8 (l (.bool false))])
 (.seq (.region [m 13 (t 1),
 p 14 (.bin .add (t 13) (i 1)),
 m 9 (t 14)])
 (.seq (.seq (.region [m 10 (i 0)])
 (.block 0 (.loop (.seq (.seq (.region [m 15 (t 10),
 p 16 (.bin .lss (t 15) (i 5))])
 (.cond (t 16) (.skip)
 (.exit 0)))
 (.seq (.block 1 (.seq (.block 2 (.loop (.seq (.seq (.draw [d (m 19 (t 9)),
 d (m 20 (t 2)),
 d (p 21 (.bin .lss (t 19) (t 20))),
 d (m 22 (t 21)),
 d (g 23 (.move (t 3)) 22 true),
 d (g 24 (.move (t 0)) 22 true),
 d (g 25 (.move (t 9)) 22 true),
 d (g 26 (.indexAddr 4 (t 24) (t 25)) 22 true),
 d (g 27 (.load true 4 (t 26)) 22 true),
 d (g 28 (.move (t 0)) 22 true),
 d (g 29 (.move (t 9)) 22 true),
 d (g 30 (.bin .sub (t 29) (i 1)) 22 true),
 d (g 31 (.indexAddr 4 (t 28) (t 30)) 22 true),
 d (g 32 (.load true 4 (t 31)) 22 true),
 d (⟨(some 33), .e (.call (.value (t 23)) [(t 27), (t 32)]), some (22, true)⟩),
 d (g 34 (.bin .lss (t 33) (i 0)) 22 true),
 d (g 35 (.not (t 34)) 22 true),
 d (p 36 (.pick (t 22) (t 35) (l (.bool false))))])
 (.cond (t 36) (.skip)
 (.exit 2)))
 (.block 3 (.region [m 37 (t 9),
 p 38 (.bin .add (t 37) (i 1)),
 m 9 (t 38)])))))
 (.seq (.seq (.region [m 39 (t 9),
 m 40 (t 2),
 p 41 (.bin .eql (t 39) (t 40))])
 (.cond (t 41) (.seq (.region [m 8 (l (.bool true))])
 (.ret))
 (.skip)))
 (.seq (.seq (.region [m 42 (t 2),
 m 43 (t 1),
 p 44 (.bin .sub (t 42) (t 43)),
 p 45 (.bin .lss (t 44) (i 50))])
 (.cond (t 45) (.seq (.region [m 8 (l (.bool false))])
 (.ret))
 (.skip)))
 (.seq (.draw [d (m 46 (t 0)),
 d (m 47 (t 9)),
 d (m 51 (t 0)),
 d (m 52 (t 9)),
 d (p 53 (.bin .sub (t 52) (i 1))),
 d (p 54 (.indexAddr 4 (t 51) (t 53))),
 d (p 55 (.load true 4 (t 54))),
 d (m 56 (t 0)),
 d (m 57 (t 9)),
 d (p 58 (.indexAddr 4 (t 56) (t 57))),
 d (p 59 (.load true 4 (t 58))),
 d (p 60 (.indexAddr 4 (t 46) (t 47))),
 d (z (.store 4 (t 60) (t 55))),
 d (m 48 (t 0)),
 d (m 49 (t 9)),
 d (p 50 (.bin .sub (t 49) (i 1))),
 d (p 61 (.indexAddr 4 (t 48) (t 50))),
 d (z (.store 4 (t 61) (t 59)))])
 (.seq (.seq (.region [m 62 (t 9),
 m 63 (t 1),
 p 64 (.bin .sub (t 62) (t 63)),
 p 65 (.bin .geq (t 64) (i 2))])
 (.cond (t 65) (.seq (.region [m 66 (t 9),
 p 67 (.bin .sub (t 66) (i 1)),
 m 11 (t 67)])
 (.block 4 (.loop (.seq (.seq (.region [m 68 (t 11),
 p 69 (.bin .geq (t 68) (i 1))])
 (.cond (t 69) (.skip)
 (.exit 4)))
 (.seq (.block 5 (.seq (.seq (.draw [d (m 72 (t 3)),
 d (m 73 (t 0)),
 d (m 74 (t 11)),
 d (p 75 (.indexAddr 4 (t 73) (t 74))),
 d (p 76 (.load true 4 (t 75))),
 d (m 77 (t 0)),
 d (m 78 (t 11)),
 d (p 79 (.bin .sub (t 78) (i 1))),
 d (p 80 (.indexAddr 4 (t 77) (t 79))),
 d (p 81 (.load true 4 (t 80))),
 d (e 82 (.call (.value (t 72)) [(t 76), (t 81)])),
 d (p 83 (.bin .lss (t 82) (i 0))),
 d (p 84 (.not (t 83)))])
 (.cond (t 84) (.exit 4)
 (.skip)))
 (.draw [d (m 85 (t 0)),
 d (m 86 (t 11)),
 d (m 90 (t 0)),
 d (m 91 (t 11)),
 d (p 92 (.bin .sub (t 91) (i 1))),
 d (p 93 (.indexAddr 4 (t 90) (t 92))),
 d (p 94 (.load true 4 (t 93))),
 d (m 95 (t 0)),
 d (m 96 (t 11)),
 d (p 97 (.indexAddr 4 (t 95) (t 96))),
 d (p 98 (.load true 4 (t 97))),
 d (p 99 (.indexAddr 4 (t 85) (t 86))),
 d (z (.store 4 (t 99) (t 94))),
 d (m 87 (t 0)),
 d (m 88 (t 11)),
 d (p 89 (.bin .sub (t 88) (i 1))),
 d (p 100 (.indexAddr 4 (t 87) (t 89))),
 d (z (.store 4 (t 100) (t 98)))])))
 (.region [m 70 (t 11),
 p 71 (.bin .sub (t 70) (i 1)),
 m 11 (t 71)]))))))
 (.skip)))
 (.seq (.region [m 101 (t 2),
 m 102 (t 9),
 p 103 (.bin .sub (t 101) (t 102)),
 p 104 (.bin .geq (t 103) (i 2))])
 (.cond (t 104) (.seq (.region [m 105 (t 9),
 p 106 (.bin .add (t 105) (i 1)),
 m 12 (t 106)])
 (.block 6 (.loop (.seq (.seq (.region [m 107 (t 12),
 m 108 (t 2),
 p 109 (.bin .lss (t 107) (t 108))])
 (.cond (t 109) (.skip)
 (.exit 6)))
 (.seq (.block 7 (.seq (.seq (.draw [d (m 112 (t 3)),
 d (m 113 (t 0)),
 d (m 114 (t 12)),
 d (p 115 (.indexAddr 4 (t 113) (t 114))),
 d (p 116 (.load true 4 (t 115))),
 d (m 117 (t 0)),
 d (m 118 (t 12)),
 d (p 119 (.bin .sub (t 118) (i 1))),
 d (p 120 (.indexAddr 4 (t 117) (t 119))),
 d (p 121 (.load true 4 (t 120))),
 d (e 122 (.call (.value (t 112)) [(t 116), (t 121)])),
 d (p 123 (.bin .lss (t 122) (i 0))),
 d (p 124 (.not (t 123)))])
 (.cond (t 124) (.exit 6)
 (.skip)))
 (.draw [d (m 125 (t 0)),
 d (m 126 (t 12)),
 d (m 130 (t 0)),
 d (m 131 (t 12)),
 d (p 132 (.bin .sub (t 131) (i 1))),
 d (p 133 (.indexAddr 4 (t 130) (t 132))),
 d (p 134 (.load true 4 (t 133))),
 d (m 135 (t 0)),
 d (m 136 (t 12)),
 d (p 137 (.indexAddr 4 (t 135) (t 136))),
 d (p 138 (.load true 4 (t 137))),
 d (p 139 (.indexAddr 4 (t 125) (t 126))),
 d (z (.store 4 (t 139) (t 134))),
 d (m 127 (t 0)),
 d (m 128 (t 12)),
 d (p 129 (.bin .sub (t 128) (i 1))),
 d (p 140 (.indexAddr 4 (t 127) (t 129))),
 d (z (.store 4 (t 140) (t 138)))])))
 (.region [m 110 (t 12),
 p 111 (.bin .add (t 110) (i 1)),
 m 12 (t 111)]))))))
 (.skip)))))))))
 (.region [m 17 (t 10),
 p 18 (.bin .add (t 17) (i 1)),
 m 10 (t 18)]))))))
 (.seq (.region [m 8 (l (.bool false))])
 (.ret))))⟩
theorem cc118 : cFunc Tryz.prog methNames Tryz.f118 = some c118 := by kernel_rfl
/-- slices.partitionEqualCmpFunc[pantry/api.Entry] -/
def c119 : AFunc := ⟨90, [.tmp 10],
  .seq (.region [m 10 (i 0)])
 (.seq (.draw [d (m 13 (t 0)),
 d (m 14 (t 1)),
 d (m 17 (t 0)),
 d (m 18 (t 3)),
 d (p 19 (.indexAddr 4 (t 17) (t 18))),
 d (p 20 (.load true 4 (t 19))),
 d (m 21 (t 0)),
 d (m 22 (t 1)),
 d (p 23 (.indexAddr 4 (t 21) (t 22))),
 d (p 24 (.load true 4 (t 23))),
 d (p 25 (.indexAddr 4 (t 13) (t 14))),
 d (z (.store 4 (t 25) (t 20))),
 d (m 15 (t 0)),
 d (m 16 (t 3)),
 d (p 26 (.indexAddr 4 (t 15) (t 16))),
 d (z (.store 4 (t 26) (t 24)))])
 (.seq (.region [m 27 (t 1),
 p 28 (.bin .add (t 27) (i 1)),
 m 29 (t 2),
 p 30 (.bin .sub (t 29) (i 1)),
 m 11 (t 28),
 m 12 (t 30)])
 (.seq (.block 0 (.loop (.block 1 (.seq (.block 2 (.loop (.seq (.seq (.draw [d (m 31 (t 11)),
 d (m 32 (t 12)),
 d (p 33 (.bin .leq (t 31) (t 32))),
 d (m 34 (t 33)),
 d (g 35 (.move (t 4)) 34 true),
 d (g 36 (.move (t 0)) 34 true),
 d (g 37 (.move (t 1)) 34 true),
 d (g 38 (.indexAddr 4 (t 36) (t 37)) 34 true),
 d (g 39 (.load true 4 (t 38)) 34 true),
 d (g 40 (.move (t 0)) 34 true),
 d (g 41 (.move (t 11)) 34 true),
 d (g 42 (.indexAddr 4 (t 40) (t 41)) 34 true),
 d (g 43 (.load true 4 (t 42)) 34 true),
 d (⟨(some 44), .e (.call (.value (t 35)) [(t 39), (t 43)]), some (34, true)⟩),
 d (g 45 (.bin .lss (t 44) (i 0)) 34 true),
 d (g 46 (.not (t 45)) 34 true),
 d (p 47 (.pick (t 34) (t 46) (l (.bool false))))])
 (.cond (t 47) (.skip)
 (.exit 2)))
 (.block 3 (.region [m 48 (t 11),
 p 49 (.bin .add (t 48) (i 1)),
 m 11 (t 49)])))))
 (.seq (.block 4 (.loop (.seq (.seq (.draw [d (m 50 (t 11)),
 d (m 51 (t 12)),
 d (p 52 (.bin .leq (t 50) (t 51))),
 d (m 53 (t 52)),
 d (g 54 (.move (t 4)) 53 true),
 d (g 55 (.move (t 0)) 53 true),
 d (g 56 (.move (t 1)) 53 true),
 d (g 57 (.indexAddr 4 (t 55) (t 56)) 53 true),
 d (g 58 (.load true 4 (t 57)) 53 true),
 d (g 59 (.move (t 0)) 53 true),
 d (g 60 (.move (t 12)) 53 true),
 d (g 61 (.indexAddr 4 (t 59) (t 60)) 53 true),
 d (g 62 (.load true 4 (t 61)) 53 true),
 d (⟨(some 63), .e (.call (.value (t 54)) [(t 58), (t 62)]), some (53, true)⟩),
 d (g 64 (.bin .lss (t 63) (i 0)) 53 true),
 d (p 65 (.pick (t 53) (t 64) (l (.bool false))))])
 (.cond (t 65) (.skip)
 (.exit 4)))
 (.block 5 (.region [m 66 (t 12),
 p 67 (.bin .sub (t 66) (i 1)),
 m 12 (t 67)])))))
 (.seq (.seq (.region [m 68 (t 11),
 m 69 (t 12),
 p 70 (.bin .gtr (t 68) (t 69))])
 (.cond (t 70) (.exit 0)
 (.skip)))
 (.seq (.draw [d (m 71 (t 0)),
 d (m 72 (t 11)),
 d (m 75 (t 0)),
 d (m 76 (t 12)),
 d (p 77 (.indexAddr 4 (t 75) (t 76))),
 d (p 78 (.load true 4 (t 77))),
 d (m 79 (t 0)),
 d (m 80 (t 11)),
 d (p 81 (.indexAddr 4 (t 79) (t 80))),
 d (p 82 (.load true 4 (t 81))),
 d (p 83 (.indexAddr 4 (t 71) (t 72))),
 d (z (.store 4 (t 83) (t 78))),
 d (m 73 (t 0)),
 d (m 74 (t 12)),
 d (p 84 (.indexAddr 4 (t 73) (t 74))),
 d (z (.store 4 (t 84) (t 82)))])
 (.seq (.region [m 85 (t 11),
 p 86 (.bin .add (t 85) (i 1)),
 m 11 (t 86)])
 (.region [m 87 (t 12),
 p 88 (.bin .sub (t 87) (i 1)),
 m 12 (t 88)])))))))))
 (.seq (.region [m 89 (t 11),
 m 10 (t 89)])
 (.ret)))))⟩
theorem cc119 : cFunc Tryz.prog methNames Tryz.f119 = some c119 := by kernel_rfl
/-- slices.partitionCmpFunc[pantry/api.Entry] -/
def c120 : AFunc := ⟨178, [.tmp 10, .tmp 11],
  .seq (.region [m 10 (i 0),
 m 11 (l (.bool false))])
 (.seq (.draw [d (m 14 (t 0)),
 d (m 15 (t 1)),
 d (m 18 (t 0)),
 d (m 19 (t 3)),
 d (p 20 (.indexAddr 4 (t 18) (t 19))),
 d (p 21 (.load true 4 (t 20))),
 d (m 22 (t 0)),
 d (m 23 (t 1)),
 d (p 24 (.indexAddr 4 (t 22) (t 23))),
 d (p 25 (.load true 4 (t 24))),
 d (p 26 (.indexAddr 4 (t 14) (t 15))),
 d (z (.store 4 (t 26) (t 21))),
 d (m 16 (t 0)),
 d (m 17 (t 3)),
 d (p 27 (.indexAddr 4 (t 16) (t 17))),
 d (z (.store 4 (t 27) (t 25)))])
 (.seq (.region [m 28 (t 1),
 p 29 (.bin .add (t 28) (i 1)),
 m 30 (t 2),
 p 31 (.bin .sub (t 30) (i 1)),
 m 12 (t 29),
 m 13 (t 31)])
 (.seq (.block 0 (.loop (.seq (.seq (.draw [d (m 32 (t 12)),
 d (m 33 (t 13)),
 d (p 34 (.bin .leq (t 32) (t 33))),
 d (m 35 (t 34)),
 d (g 36 (.move (t 4)) 35 true),
 d (g 37 (.move (t 0)) 35 true),
 d (g 38 (.move (t 12)) 35 true),
 d (g 39 (.indexAddr 4 (t 37) (t 38)) 35 true),
 d (g 40 (.load true 4 (t 39)) 35 true),
 d (g 41 (.move (t 0)) 35 true),
 d (g 42 (.move (t 1)) 35 true),
 d (g 43 (.indexAddr 4 (t 41) (t 42)) 35 true),
 d (g 44 (.load true 4 (t 43)) 35 true),
 d (⟨(some 45), .e (.call (.value (t 36)) [(t 40), (t 44)]), some (35, true)⟩),
 d (g 46 (.bin .lss (t 45) (i 0)) 35 true),
 d (p 47 (.pick (t 35) (t 46) (l (.bool false))))])
 (.cond (t 47) (.skip)
 (.exit 0)))
 (.block 1 (.region [m 48 (t 12),
 p 49 (.bin .add (t 48) (i 1)),
 m 12 (t 49)])))))
 (.seq (.block 2 (.loop (.seq (.seq (.draw [d (m 50 (t 12)),
 d (m 51 (t 13)),
 d (p 52 (.bin .leq (t 50) (t 51))),
 d (m 53 (t 52)),
 d (g 54 (.move (t 4)) 53 true),
 d (g 55 (.move (t 0)) 53 true),
 d (g 56 (.move (t 13)) 53 true),
 d (g 57 (.indexAddr 4 (t 55) (t 56)) 53 true),
 d (g 58 (.load true 4 (t 57)) 53 true),
 d (g 59 (.move (t 0)) 53 true),
 d (g 60 (.move (t 1)) 53 true),
 d (g 61 (.indexAddr 4 (t 59) (t 60)) 53 true),
 d (g 62 (.load true 4 (t 61)) 53 true),
 d (⟨(some 63), .e (.call (.value (t 54)) [(t 58), (t 62)]), some (53, true)⟩),
 d (g 64 (.bin .lss (t 63) (i 0)) 53 true),
 d (g 65 (.not (t 64)) 53 true),
 d (p 66 (.pick (t 53) (t 65) (l (.bool false))))])
 (.cond (t 66) (.skip)
 (.exit 2)))
 (.block 3 (.region [m 67 (t 13),
 p 68 (.bin .sub (t 67) (i 1)),
 m 13 (t 68)])))))
 (.seq (.seq (.region [m 69 (t 12),
 m 70 (t 13),
 p 71 (.bin .gtr (t 69) (t 70))])
 (.cond (t 71) (.seq (.draw [d (m 72 (t 0)),
 d (m 73 (t 13)),
 d (m 76 (t 0)),
 d (m 77 (t 1)),
 d (p 78 (.indexAddr 4 (t 76) (t 77))),
 d (p 79 (.load true 4 (t 78))),
 d (m 80 (t 0)),
 d (m 81 (t 13)),
 d (p 82 (.indexAddr 4 (t 80) (t 81))),
 d (p 83 (.load true 4 (t 82))),
 d (p 84 (.indexAddr 4 (t 72) (t 73))),
 d (z (.store 4 (t 84) (t 79))),
 d (m 74 (t 0)),
 d (m 75 (t 1)),
 d (p 85 (.indexAddr 4 (t 74) (t 75))),
 d (z (.store 4 (t 85) (t 83)))])
 (.seq (.region [m 86 (t 13),
 m 10 (t 86),
 m 11 (l (.bool true))])
 (.ret)))
 (.skip)))
 (.seq (.draw [d (m 87 (t 0)),
 d (m 88 (t 12)),
 d (m 91 (t 0)),
 d (m 92 (t 13)),
 d (p 93 (.indexAddr 4 (t 91) (t 92))),
 d (p 94 (.load true 4 (t 93))),
 d (m 95 (t 0)),
 d (m 96 (t 12)),
 d (p 97 (.indexAddr 4 (t 95) (t 96))),
 d (p 98 (.load true 4 (t 97))),
 d (p 99 (.indexAddr 4 (t 87) (t 88))),
 d (z (.store 4 (t 99) (t 94))),
 d (m 89 (t 0)),
 d (m 90 (t 13)),
 d (p 100 (.indexAddr 4 (t 89) (t 90))),
 d (z (.store 4 (t 100) (t 98)))])
 (.seq (.region [m 101 (t 12),
 p 102 (.bin .add (t 101) (i 1)),
 m 12 (t 102)])
 (.seq (.region [m 103 (t 13),
 p 104 (.bin .sub (t 103) (i 1)),
 m 13 (t 104)])
 (.seq (.block 4 (.loop (.block 5 (.seq (.block 6 (.loop (.seq (.seq (.draw [d (m 105 (t 12)),
 d (m 106 (t 13)),
 d (p 107 (.bin .leq (t 105) (t 106))),
 d (m 108 (t 107)),
 d (g 109 (.move (t 4)) 108 true),
 d (g 110 (.move (t 0)) 108 true),
 d (g 111 (.move (t 12)) 108 true),
 d (g 112 (.indexAddr 4 (t 110) (t 111)) 108 true),
 d (g 113 (.load true 4 (t 112)) 108 true),
 d (g 114 (.move (t 0)) 108 true),
 d (g 115 (.move (t 1)) 108 true),
 d (g 116 (.indexAddr 4 (t 114) (t 115)) 108 true),
 d (g 117 (.load true 4 (t 116)) 108 true),
 d (⟨(some 118), .e (.call (.value (t 109)) [(t 113), (t 117)]), some (108, true)⟩),
 d (g 119 (.bin .lss (t 118) (i 0)) 108 true),
 d (p 120 (.pick (t 108) (t 119) (l (.bool false))))])
 (.cond (t 120) (.skip)
 (.exit 6)))
 (.block 7 (.region [m 121 (t 12),
 p 122 (.bin .add (t 121) (i 1)),
 m 12 (t 122)])))))
 (.seq (.block 8 (.loop (.seq (.seq (.draw [d (m 123 (t 12)),
 d (m 124 (t 13)),
 d (p 125 (.bin .leq (t 123) (t 124))),
 d (m 126 (t 125)),
 d (g 127 (.move (t 4)) 126 true),
 d (g 128 (.move (t 0)) 126 true),
 d (g 129 (.move (t 13)) 126 true),
 d (g 130 (.indexAddr 4 (t 128) (t 129)) 126 true),
 d (g 131 (.load true 4 (t 130)) 126 true),
 d (g 132 (.move (t 0)) 126 true),
 d (g 133 (.move (t 1)) 126 true),
 d (g 134 (.indexAddr 4 (t 132) (t 133)) 126 true),
 d (g 135 (.load true 4 (t 134)) 126 true),
 d (⟨(some 136), .e (.call (.value (t 127)) [(t 131), (t 135)]), some (126, true)⟩),
 d (g 137 (.bin .lss (t 136) (i 0)) 126 true),
 d (g 138 (.not (t 137)) 126 true),
 d (p 139 (.pick (t 126) (t 138) (l (.bool false))))])
 (.cond (t 139) (.skip)
 (.exit 8)))
 (.block 9 (.region [m 140 (t 13),
 p 141 (.bin .sub (t 140) (i 1)),
 m 13 (t 141)])))))
 (.seq (.seq (.region [m 142 (t 12),
 m 143 (t 13),
 p 144 (.bin .gtr (t 142) (t 143))])
 (.cond (t 144) (.exit 4)
 (.skip)))
 (.seq (.draw [d (m 145 (t 0)),
 d (m 146 (t 12)),
 d (m 149 (t 0)),
 d (m 150 (t 13)),
 d (p 151 (.indexAddr 4 (t 149) (t 150))),
 d (p 152 (.load true 4 (t 151))),
 d (m 153 (t 0)),
 d (m 154 (t 12)),
 d (p 155 (.indexAddr 4 (t 153) (t 154))),
 d (p 156 (.load true 4 (t 155))),
 d (p 157 (.indexAddr 4 (t 145) (t 146))),
 d (z (.store 4 (t 157) (t 152))),
 d (m 147 (t 0)),
 d (m 148 (t 13)),
 d (p 158 (.indexAddr 4 (t 147) (t 148))),
 d (z (.store 4 (t 158) (t 156)))])
 (.seq (.region [m 159 (t 12),
 p 160 (.bin .add (t 159) (i 1)),
 m 12 (t 160)])
 (.region [m 161 (t 13),
 p 162 (.bin .sub (t 161) (i 1)),
 m 13 (t 162)])))))))))
 (.seq (.draw [d (m 163 (t 0)),
 d (m 164 (t 13)),
 d (m 167 (t 0)),
 d (m 168 (t 1)),
 d (p 169 (.indexAddr 4 (t 167) (t 168))),
 d (p 170 (.load true 4 (t 169))),
 d (m 171 (t 0)),
 d (m 172 (t 13)),
 d (p 173 (.indexAddr 4 (t 171) (t 172))),
 d (p 174 (.load true 4 (t 173))),
 d (p 175 (.indexAddr 4 (t 163) (t 164))),
 d (z (.store 4 (t 175) (t 170))),
 d (m 165 (t 0)),
 d (m 166 (t 1)),
 d (p 176 (.indexAddr 4 (t 165) (t 166))),
 d (z (.store 4 (t 176) (t 174)))])
 (.seq (.region [m 177 (t 13),
 m 10 (t 177),
 m 11 (l (.bool false))])
 (.ret))))))))))))⟩
theorem cc120 : cFunc Tryz.prog methNames Tryz.f120 = some c120 := by kernel_rfl
/-- math/bits.Len32 -/
def c121 : AFunc := ⟨19, [.tmp 2],
  .seq (.region [m 2 (i 0)])
 (.seq (.seq (.region [m 3 (t 0),
 p 4 (.bin .geq (t 3) (l (.int .u32 65536)))])
 (.cond (t 4) (.seq (.region [m 5 (t 0),
 p 6 (.bin .shr (t 5) (l (.int .u64 16))),
 m 0 (t 6)])
 (.region [m 2 (i 16)]))
 (.skip)))
 (.seq (.seq (.region [m 7 (t 0),
 p 8 (.bin .geq (t 7) (l (.int .u32 256)))])
 (.cond (t 8) (.seq (.region [m 9 (t 0),
 p 10 (.bin .shr (t 9) (l (.int .u64 8))),
 m 0 (t 10)])
 (.region [m 11 (t 2),
 p 12 (.bin .add (t 11) (i 8)),
 m 2 (t 12)]))
 (.skip)))
 (.seq (.region [m 13 (t 2),
 m 14 (t 0),
 p 15 (.conv .u8 (t 14)),
 p 16 (.indexS (l (.string ⟨#[0, 1, 2, 2, 3, 3, 3, 3, 4, 4, 4, 4, 4, 4, 4, 4, 5, 5, 5, 5, 5, 5, 5, 5, 5, 5, 5, 5, 5, 5, 5, 5, 6, 6, 6, 6, 6, 6, 6, 6, 6, 6, 6, 6, 6, 6, 6, 6, 6, 6, 6, 6, 6, 6, 6, 6, 6, 6, 6, 6, 6, 6, 6, 6, 7, 7, 7, 7, 7, 7, 7, 7, 7, 7, 7, 7, 7, 7, 7, 7, 7, 7, 7, 7, 7, 7, 7, 7, 7, 7, 7, 7, 7, 7, 7, 7, 7, 7, 7, 7, 7, 7, 7, 7, 7, 7, 7, 7, 7, 7, 7, 7, 7, 7, 7, 7, 7, 7, 7, 7, 7, 7, 7, 7, 7, 7, 7, 7, 8, 8, 8, 8, 8, 8, 8, 8, 8, 8, 8, 8, 8, 8, 8, 8, 8, 8, 8, 8, 8, 8, 8, 8, 8, 8, 8, 8, 8, 8, 8, 8, 8, 8, 8, 8, 8, 8, 8, 8, 8, 8, 8, 8, 8, 8, 8, 8, 8, 8, 8, 8, 8, 8, 8, 8, 8, 8, 8, 8, 8, 8, 8, 8, 8, 8, 8, 8, 8, 8, 8, 8, 8, 8, 8, 8, 8, 8, 8, 8, 8, 8, 8, 8, 8, 8, 8, 8, 8, 8, 8, 8, 8, 8, 8, 8, 8, 8, 8, 8, 8, 8, 8, 8, 8, 8, 8, 8, 8, 8, 8, 8, 8, 8, 8, 8, 8, 8, 8, 8, 8, 8, 8, 8, 8, 8, 8, 8]⟩)) (t 15)),
 p 17 (.conv .i64 (t 16)),
 p 18 (.bin .add (t 13) (t 17)),
 m 2 (t 18)])
 (.ret))))⟩
theorem cc121 : cFunc Tryz.prog methNames Tryz.f121 = some c121 := by kernel_rfl
/-- math/bits.Len64 -/
def c122 : AFunc := ⟨25, [.tmp 2],
  .seq (.region [m 2 (i 0)])
 (.seq (.seq (.region [m 3 (t 0),
 p 4 (.bin .geq (t 3) (l (.int .u64 4294967296)))])
 (.cond (t 4) (.seq (.region [m 5 (t 0),
 p 6 (.bin .shr (t 5) (l (.int .u64 32))),
 m 0 (t 6)])
 (.region [m 2 (i 32)]))
 (.skip)))
 (.seq (.seq (.region [m 7 (t 0),
 p 8 (.bin .geq (t 7) (l (.int .u64 65536)))])
 (.cond (t 8) (.seq (.region [m 9 (t 0),
 p 10 (.bin .shr (t 9) (l (.int .u64 16))),
 m 0 (t 10)])
 (.region [m 11 (t 2),
 p 12 (.bin .add (t 11) (i 16)),
 m 2 (t 12)]))
 (.skip)))
 (.seq (.seq (.region [m 13 (t 0),
 p 14 (.bin .geq (t 13) (l (.int .u64 256)))])
 (.cond (t 14) (.seq (.region [m 15 (t 0),
 p 16 (.bin .shr (t 15) (l (.int .u64 8))),
 m 0 (t 16)])
 (.region [m 17 (t 2),
 p 18 (.bin .add (t 17) (i 8)),
 m 2 (t 18)]))
 (.skip)))
 (.seq (.region [m 19 (t 2),
 m 20 (t 0),
 p 21 (.conv .u8 (t 20)),
 p 22 (.indexS (l (.string ⟨#[0, 1, 2, 2, 3, 3, 3, 3, 4, 4, 4, 4, 4, 4, 4, 4, 5, 5, 5, 5, 5, 5, 5, 5, 5, 5, 5, 5, 5, 5, 5, 5, 6, 6, 6, 6, 6, 6, 6, 6, 6, 6, 6, 6, 6, 6, 6, 6, 6, 6, 6, 6, 6, 6, 6, 6, 6, 6, 6, 6, 6, 6, 6, 6, 7, 7, 7, 7, 7, 7, 7, 7, 7, 7, 7, 7, 7, 7, 7, 7, 7, 7, 7, 7, 7, 7, 7, 7, 7, 7, 7, 7, 7, 7, 7, 7, 7, 7, 7, 7, 7, 7, 7, 7, 7, 7, 7, 7, 7, 7, 7, 7, 7, 7, 7, 7, 7, 7, 7, 7, 7, 7, 7, 7, 7, 7, 7, 7, 8, 8, 8, 8, 8, 8, 8, 8, 8, 8, 8, 8, 8, 8, 8, 8, 8, 8, 8, 8, 8, 8, 8, 8, 8, 8, 8, 8, 8, 8, 8, 8, 8, 8, 8, 8, 8, 8, 8, 8, 8, 8, 8, 8, 8, 8, 8, 8, 8, 8, 8, 8, 8, 8, 8, 8, 8, 8, 8, 8, 8, 8, 8, 8, 8, 8, 8, 8, 8, 8, 8, 8, 8, 8, 8, 8, 8, 8, 8, 8, 8, 8, 8, 8, 8, 8, 8, 8, 8, 8, 8, 8, 8, 8, 8, 8, 8, 8, 8, 8, 8, 8, 8, 8, 8, 8, 8, 8, 8, 8, 8, 8, 8, 8, 8, 8, 8, 8, 8, 8, 8, 8, 8, 8, 8, 8, 8, 8]⟩)) (t 21)),
 p 23 (.conv .i64 (t 22)),
 p 24 (.bin .add (t 19) (t 23)),
 m 2 (t 24)])
 (.ret)))))⟩
theorem cc122 : cFunc Tryz.prog methNames Tryz.f122 = some c122 := by kernel_rfl
/-- pantry/api.Number -/
def c123 : AFunc := ⟨8, [.tmp 2],
  .seq (.region [m 2 (i 0)])
 (.seq (.region [a 3 (.alloc [(.int .i64 0)])])
 (.seq (.seq (.region [m 4 (t 0),
 p 5 (.makeIface 268 (t 3)),
 c 6 154 [(t 4), (t 5)]])
 (.cond (t 6) (.seq (.region [r 7 (t 3),
 m 2 (t 7)])
 (.ret))
 (.skip)))
 (.seq (.region [m 2 (i 0)])
 (.ret))))⟩
theorem cc123 : cFunc Tryz.prog methNames Tryz.f123 = some c123 := by kernel_rfl
/-- pantry/weigh.Admit -/
def c124 : AFunc := ⟨26, [.tmp 6],
  .seq (.region [m 6 (l .nilIface)])
 (.seq (.block 0 (.seq (.seq (.region [m 8 (t 1),
 p 9 (.bin .lss (t 8) (i 0)),
 m 7 (t 9)])
 (.cond (t 7) (.skip)
 (.seq (.region [m 10 (t 2),
 p 11 (.bin .lss (t 10) (i 0)),
 m 7 (t 11)])
 (.cond (t 7) (.skip)
 (.region [m 12 (t 2),
 p 13 (.bin .gtr (t 12) (i 4611686018427387903)),
 m 7 (t 13)])))))
 (.cond (t 7) (.seq (.region [m 14 (t 0),
 m 15 (t 1),
 c 16 129 [(i 1), (t 14), (t 15)],
 m 6 (t 16)])
 (.ret))
 (.seq (.seq (.region [m 18 (t 1),
 m 19 (t 2),
 p 20 (.bin .gtr (t 18) (t 19)),
 m 17 (t 20)])
 (.cond (t 17) (.skip)
 (.region [m 21 (t 1),
 p 22 (.bin .gtr (t 21) (i 2147483648)),
 m 17 (t 22)])))
 (.cond (t 17) (.seq (.region [m 23 (t 0),
 m 24 (t 1),
 c 25 129 [(i 4), (t 23), (t 24)],
 m 6 (t 25)])
 (.ret))
 (.skip))))))
 (.seq (.region [m 6 (l .nilIface)])
 (.ret)))⟩
theorem cc124 : cFunc Tryz.prog methNames Tryz.f124 = some c124 := by kernel_rfl
/-- (*pantry/conc.thread).record -/
def c125 : AFunc := ⟨34, [],
  .seq (.region [a 8 (.box (t 3))])
 (.draw [d (m 14 (t 0)),
 d (n 15 (t 14)),
 d (f 16 0 (t 15)),
 d (r 17 (t 16)),
 d (n 18 (t 17)),
 d (f 19 7 (t 18)),
 d (r 20 (t 19)),
 d (m 21 (t 0)),
 d (n 22 (t 21)),
 d (f 23 1 (t 22)),
 d (r 24 (t 23)),
 d (m 25 (t 1)),
 d (m 26 (t 2)),
 d (p 27 (.load true 4 (t 8))),
 d (m 28 (t 4)),
 d (p 29 (.build [(.int .i64 0), (.int .i64 0), (.int .i64 0), (.int .i64 0), (.int .i64 0), (.int .i64 0), (.bool false), (.int .i64 0)] [(0, 1, (t 24)), (1, 1, (t 25)), (2, 1, (t 26)), (3, 4, (t 27)), (7, 1, (t 28))])),
 d (a 30 (.buildSlice [(.int .i64 0), (.int .i64 0), (.int .i64 0), (.int .i64 0), (.int .i64 0), (.int .i64 0), (.bool false), (.int .i64 0)] 8 1 [(0, (t 29))])),
 d (e 31 (.append 8 64 (t 20) (t 30))),
 d (m 10 (t 0)),
 d (n 11 (t 10)),
 d (f 12 0 (t 11)),
 (r 13 (t 12), [3]),
 d (n 32 (t 13)),
 d (f 33 7 (t 32)),
 d (z (.store 1 (t 33) (t 31)))])⟩
theorem cc125 : cFunc Tryz.prog methNames Tryz.f125 = some c125 := by kernel_rfl
/-- (*pantry/writes.Buffer).Len -/
def c128 : AFunc := ⟨8, [.tmp 2],
  .seq (.region [m 2 (i 0)])
 (.seq (.region [m 3 (t 0),
 n 4 (t 3),
 f 5 1 (t 4),
 r 6 (t 5),
 p 7 (.lenM (t 6)),
 m 2 (t 7)])
 (.ret))⟩
theorem cc128 : cFunc Tryz.prog methNames Tryz.f128 = some c128 := by kernel_rfl
/-- pantry/api.Wrap -/
def c129 : AFunc := ⟨15, [.tmp 6],
  .seq (.region [m 6 (l .nilIface)])
 (.seq (.seq (.region [m 7 (t 0),
 p 8 (.bin .eql (t 7) (i 0))])
 (.cond (t 8) (.seq (.region [m 6 (l .nilIface)])
 (.ret))
 (.skip)))
 (.seq (.region [m 9 (t 0),
 m 10 (t 1),
 m 11 (t 2),
 p 12 (.build [(.int .i64 0), (.int .i64 0), (.int .i64 0)] [(0, 1, (t 9)), (1, 1, (t 10)), (2, 1, (t 11))]),
 a 13 (.box (t 12)),
 p 14 (.makeIface 279 (t 13)),
 m 6 (t 14)])
 (.ret)))⟩
theorem cc129 : cFunc Tryz.prog methNames Tryz.f129 = some c129 := by kernel_rfl
/-- (*pantry/cells.Cells).TryLock -/
def c130 : AFunc := ⟨14, [.tmp 6, .tmp 7],
  .seq (.region [m 6 (l (.bool false)),
 m 7 (i 0)])
 (.seq (.region [m 8 (t 0),
 m 9 (t 1),
 m 10 (t 2),
 c 11 155 [(t 8), (t 9), (t 10), (i 5)],
 p 12 (.extract (t 11) 0),
 p 13 (.extract (t 11) 1),
 m 6 (t 12),
 m 7 (t 13)])
 (.ret))⟩
theorem cc130 : cFunc Tryz.prog methNames Tryz.f130 = some c130 := by kernel_rfl
/-- (*pantry/cells.Cells).Lock -/
def c131 : AFunc := ⟨17, [.tmp 6],
  .seq (.region [m 6 (i 0)])
 (.seq (.region [m 10 (t 0),
 m 11 (t 1),
 m 12 (t 2),
 c 13 155 [(t 10), (t 11), (t 12), (i 4)],
 m 9 (t 13),
 p 14 (.extract (t 9) 0),
 p 15 (.extract (t 9) 1),
 m 7 (t 14),
 m 8 (t 15)])
 (.seq (.region [m 16 (t 8),
 m 6 (t 16)])
 (.ret)))⟩
theorem cc131 : cFunc Tryz.prog methNames Tryz.f131 = some c131 := by kernel_rfl
/-- pantry/mix.Index -/
def c132 : AFunc := ⟨17, [.tmp 6],
  .seq (.region [m 6 (i 0)])
 (.seq (.seq (.region [m 7 (t 2),
 p 8 (.bin .lss (t 7) (i 1))])
 (.cond (t 8) (.seq (.region [m 6 (i 0)])
 (.ret))
 (.skip)))
 (.seq (.region [m 9 (t 0),
 m 10 (t 1),
 p 11 (.bin .mul (i 16) (t 10)),
 c 12 156 [(t 9), (t 11)],
 m 13 (t 2),
 p 14 (.conv .u64 (t 13)),
 p 15 (.bin .rem (t 12) (t 14)),
 p 16 (.conv .i64 (t 15)),
 m 6 (t 16)])
 (.ret)))⟩
theorem cc132 : cFunc Tryz.prog methNames Tryz.f132 = some c132 := by kernel_rfl
/-- pantry/mix.Mix -/
def c133 : AFunc := ⟨26, [.tmp 4],
  .seq (.region [m 4 (l (.int .u64 0))])
 (.seq (.region [m 6 (t 1),
 p 7 (.conv .u64 (t 6)),
 m 8 (t 0),
 p 9 (.conv .u64 (t 8)),
 p 10 (.bin .mul (t 9) (l (.int .u64 11400714819323198485))),
 p 11 (.bin .xor (t 7) (t 10)),
 m 5 (t 11)])
 (.seq (.region [m 12 (t 5),
 m 13 (t 5),
 p 14 (.bin .shr (t 13) (l (.int .u64 30))),
 p 15 (.bin .xor (t 12) (t 14)),
 p 16 (.bin .mul (t 15) (l (.int .u64 13787848793156543929))),
 m 5 (t 16)])
 (.seq (.region [m 17 (t 5),
 m 18 (t 5),
 p 19 (.bin .shr (t 18) (l (.int .u64 27))),
 p 20 (.bin .xor (t 17) (t 19)),
 p 21 (.bin .mul (t 20) (l (.int .u64 10723151780598845931))),
 m 5 (t 21)])
 (.seq (.region [m 22 (t 5),
 m 23 (t 5),
 p 24 (.bin .shr (t 23) (l (.int .u64 31))),
 p 25 (.bin .xor (t 22) (t 24)),
 m 4 (t 25)])
 (.ret)))))⟩
theorem cc133 : cFunc Tryz.prog methNames Tryz.f133 = some c133 := by kernel_rfl
/-- (*pantry/conc.thread).get -/
def c134 : AFunc := ⟨35, [],
  .seq (.region [a 3 (.box (t 1))])
 (.seq (.draw [d (m 7 (t 0)),
 d (n 8 (t 7)),
 d (f 9 0 (t 8)),
 d (r 10 (t 9)),
 d (n 11 (t 10)),
 d (f 12 1 (t 11)),
 d (r 13 (t 12)),
 d (f 14 1 (t 3)),
 d (r 15 (t 14)),
 d (c 16 157 [(t 13), (t 15)]),
 d (m 6 (t 16)),
 d (p 17 (.extract (t 6) 0)),
 d (a 4 (.alloc [(.int .i64 0), (.int .i64 0), (.int .i64 0), (.int .i64 0)])),
 d (z (.store 4 (t 4) (t 17))),
 d (p 18 (.extract (t 6) 1)),
 d (m 5 (t 18))])
 (.draw [d (m 19 (t 0)),
 d (f 22 1 (t 4)),
 d (r 23 (t 22)),
 d (n 27 (t 19)),
 d (f 28 5 (t 27)),
 d (f 29 2 (t 28)),
 d (z (.store 1 (t 29) (t 23))),
 d (m 20 (t 0)),
 d (m 24 (t 5)),
 d (n 30 (t 20)),
 d (f 31 5 (t 30)),
 d (f 32 3 (t 31)),
 d (z (.store 1 (t 32) (t 24))),
 d (m 21 (t 0)),
 d (f 25 3 (t 4)),
 (r 26 (t 25), [2, 8]),
 d (n 33 (t 21)),
 d (f 34 10 (t 33)),
 d (z (.store 1 (t 34) (t 26)))]))⟩
theorem cc134 : cFunc Tryz.prog methNames Tryz.f134 = some c134 := by kernel_rfl
/-- (*pantry/conc.thread).put -/
def c135 : AFunc := ⟨54, [],
  .seq (.region [a 3 (.box (t 1))])
 (.seq (.draw [d (m 8 (t 0)),
 d (n 9 (t 8)),
 d (f 10 0 (t 9)),
 d (r 11 (t 10)),
 d (n 12 (t 11)),
 d (f 13 1 (t 12)),
 d (r 14 (t 13)),
 d (f 15 1 (t 3)),
 d (r 16 (t 15)),
 d (f 17 2 (t 3)),
 d (r 18 (t 17)),
 d (f 19 3 (t 3)),
 d (r 20 (t 19)),
 d (c 21 158 [(t 14), (t 16), (t 18), (t 20)]),
 d (m 7 (t 21)),
 d (p 22 (.extract (t 7) 0)),
 d (a 4 (.alloc [(.int .i64 0), (.int .i64 0), (.int .i64 0), (.int .i64 0)])),
 d (z (.store 4 (t 4) (t 22))),
 d (p 23 (.extract (t 7) 1)),
 d (m 5 (t 23))])
 (.seq (.region [f 24 3 (t 4),
 r 25 (t 24),
 f 26 1 (t 3),
 r 27 (t 26),
 f 28 3 (t 3),
 r 29 (t 28),
 p 30 (.build [(.int .i64 0), (.int .i64 0), (.int .i64 0), (.int .i64 0)] [(0, 1, (i 3)), (1, 1, (t 25)), (2, 1, (t 27)), (3, 1, (t 29))]),
 a 6 (.alloc [(.int .i64 0), (.int .i64 0), (.int .i64 0), (.int .i64 0)]),
 z (.store 4 (t 6) (t 30))])
 (.seq (.seq (.region [m 31 (t 5),
 p 32 (.not (t 31))])
 (.cond (t 32) (.seq (.region [f 33 0 (t 6),
 z (.store 1 (t 33) (i 1))])
 (.draw [d (m 34 (t 0)),
 d (n 35 (t 34)),
 d (f 36 0 (t 35)),
 d (r 37 (t 36)),
 d (n 38 (t 37)),
 d (f 39 6 (t 38)),
 d (r 40 (t 39)),
 d (f 41 3 (t 4)),
 d (r 42 (t 41)),
 d (f 43 1 (t 3)),
 d (r 44 (t 43)),
 d (z (.mapUpdate (t 40) (t 42) (t 44)))]))
 (.skip)))
 (.draw [d (m 45 (t 0)),
 d (n 46 (t 45)),
 d (f 47 0 (t 46)),
 d (r 48 (t 47)),
 d (n 49 (t 48)),
 d (f 50 4 (t 49)),
 d (r 51 (t 50)),
 d (p 52 (.load true 4 (t 6))),
 d (c 53 159 [(t 51), (t 52)])]))))⟩
theorem cc135 : cFunc Tryz.prog methNames Tryz.f135 = some c135 := by kernel_rfl
/-- (*pantry/conc.thread).remove -/
def c136 : AFunc := ⟨55, [],
  .seq (.region [a 3 (.box (t 1))])
 (.seq (.draw [d (m 7 (t 0)),
 d (n 8 (t 7)),
 d (f 9 0 (t 8)),
 d (r 10 (t 9)),
 d (n 11 (t 10)),
 d (f 12 1 (t 11)),
 d (r 13 (t 12)),
 d (f 14 1 (t 3)),
 d (r 15 (t 14)),
 d (c 16 160 [(t 13), (t 15)]),
 d (m 6 (t 16)),
 d (p 17 (.extract (t 6) 0)),
 d (a 4 (.alloc [(.int .i64 0), (.int .i64 0), (.int .i64 0), (.int .i64 0)])),
 d (z (.store 4 (t 4) (t 17))),
 d (p 18 (.extract (t 6) 1)),
 d (m 5 (t 18))])
 (.seq (.region [m 19 (t 0),
 m 20 (t 0),
 f 21 1 (t 4),
 r 22 (t 21),
 m 23 (t 5),
 n 24 (t 19),
 f 25 5 (t 24),
 f 26 2 (t 25),
 z (.store 1 (t 26) (t 22)),
 n 27 (t 20),
 f 28 5 (t 27),
 f 29 3 (t 28),
 z (.store 1 (t 29) (t 23))])
 (.seq (.seq (.region [m 30 (t 5),
 p 31 (.not (t 30))])
 (.cond (t 31) (.seq (.region [m 32 (t 0),
 n 33 (t 32),
 f 34 0 (t 33),
 r 35 (t 34),
 n 36 (t 35),
 f 37 4 (t 36),
 r 38 (t 37),
 c 39 161 [(t 38)]])
 (.ret))
 (.skip)))
 (.draw [d (m 40 (t 0)),
 d (n 41 (t 40)),
 d (f 42 0 (t 41)),
 d (r 43 (t 42)),
 d (n 44 (t 43)),
 d (f 45 4 (t 44)),
 d (r 46 (t 45)),
 d (f 47 3 (t 4)),
 d (r 48 (t 47)),
 d (f 49 1 (t 3)),
 d (r 50 (t 49)),
 d (f 51 2 (t 4)),
 d (r 52 (t 51)),
 d (p 53 (.build [(.int .i64 0), (.int .i64 0), (.int .i64 0), (.int .i64 0)] [(0, 1, (i 4)), (1, 1, (t 48)), (2, 1, (t 50)), (3, 1, (t 52))])),
 d (c 54 159 [(t 46), (t 53)])]))))⟩
theorem cc136 : cFunc Tryz.prog methNames Tryz.f136 = some c136 := by kernel_rfl
/-- (*pantry/cells.Cells).Unlock -/
def c137 : AFunc := ⟨29, [.tmp 6],
  .seq (.region [m 6 (i 0)])
 (.seq (.region [m 8 (t 0),
 m 9 (t 2),
 c 10 162 [(t 8), (t 9)],
 m 7 (t 10)])
 (.seq (.block 0 (.seq (.region [m 12 (t 7),
 p 13 (.eqPtr false (t 12) (l (.pointer none))),
 m 11 (t 13)])
 (.cond (t 11) (.seq (.region [m 6 (i 1)])
 (.ret))
 (.seq (.region [m 15 (t 7),
 n 16 (t 15),
 p 17 (.load true 2 (t 16)),
 m 18 (t 1),
 p 19 (.build [(.int .i64 0), (.bool false)] [(0, 1, (t 18)), (1, 1, (l (.bool true)))]),
 p 20 (.eqAgg true [false, true] (t 17) (t 19)),
 m 14 (t 20)])
 (.cond (t 14) (.seq (.region [m 6 (i 3)])
 (.ret))
 (.skip))))))
 (.seq (.region [m 21 (t 7),
 p 22 (.build [(.int .i64 0), (.bool false)] []),
 n 23 (t 21),
 z (.store 2 (t 23) (t 22))])
 (.seq (.region [m 24 (t 0),
 m 25 (t 1),
 m 26 (t 2),
 p 27 (.build [(.int .i64 0), (.int .i64 0), (.int .i64 0), (.int .i64 0), (.int .i64 0)] [(0, 1, (t 25)), (1, 1, (i 6)), (2, 1, (t 26)), (3, 1, (i 1))]),
 c 28 163 [(t 24), (t 27)]])
 (.seq (.region [m 6 (i 0)])
 (.ret))))))⟩
theorem cc137 : cFunc Tryz.prog methNames Tryz.f137 = some c137 := by kernel_rfl
/-- (*pantry/stripes.Stripes).Place -/
def c138 : AFunc := ⟨17, [.tmp 4],
  .seq (.region [m 4 (i 0)])
 (.seq (.draw [d (m 5 (t 0)),
 d (n 6 (t 5)),
 d (f 7 1 (t 6)),
 d (r 8 (t 7)),
 d (m 9 (t 1)),
 d (c 10 133 [(t 8), (t 9)]),
 d (m 11 (t 0)),
 d (n 12 (t 11)),
 d (f 13 0 (t 12)),
 (r 14 (t 13), [3]),
 d (p 15 (.len false (t 14))),
 d (c 16 132 [(t 10), (i 0), (t 15)]),
 d (m 4 (t 16))])
 (.ret))⟩
theorem cc138 : cFunc Tryz.prog methNames Tryz.f138 = some c138 := by kernel_rfl
/-- (*pantry/cells.Cells).Store -/
def c139 : AFunc := ⟨27, [.tmp 8],
  .seq (.region [m 8 (i 0)])
 (.seq (.region [m 10 (t 0),
 m 11 (t 2),
 c 12 164 [(t 10), (t 11)],
 m 9 (t 12)])
 (.seq (.seq (.region [m 13 (t 9),
 p 14 (.eqPtr false (t 13) (l (.pointer none)))])
 (.cond (t 14) (.seq (.region [m 8 (i 1)])
 (.ret))
 (.skip)))
 (.seq (.region [m 15 (t 0),
 m 16 (t 1),
 m 17 (t 2),
 m 18 (t 9),
 n 19 (t 18),
 r 20 (t 19),
 m 21 (t 3),
 p 22 (.build [(.int .i64 0), (.int .i64 0), (.int .i64 0), (.int .i64 0), (.int .i64 0)] [(0, 1, (t 16)), (1, 1, (i 2)), (2, 1, (t 17)), (3, 1, (t 20)), (4, 1, (t 21))]),
 c 23 163 [(t 15), (t 22)]])
 (.seq (.region [m 24 (t 9),
 m 25 (t 3),
 n 26 (t 24),
 z (.store 1 (t 26) (t 25))])
 (.seq (.region [m 8 (i 0)])
 (.ret))))))⟩
theorem cc139 : cFunc Tryz.prog methNames Tryz.f139 = some c139 := by kernel_rfl
/-- (*pantry/cells.Cells).Load -/
def c140 : AFunc := ⟨28, [.tmp 6, .tmp 7],
  .seq (.region [m 6 (i 0),
 m 7 (i 0)])
 (.seq (.region [m 9 (t 0),
 m 10 (t 2),
 c 11 164 [(t 9), (t 10)],
 m 8 (t 11)])
 (.seq (.seq (.region [m 12 (t 8),
 p 13 (.eqPtr false (t 12) (l (.pointer none)))])
 (.cond (t 13) (.seq (.region [m 6 (i 0),
 m 7 (i 1)])
 (.ret))
 (.skip)))
 (.seq (.draw [d (m 14 (t 0)),
 d (m 15 (t 1)),
 d (m 16 (t 2)),
 d (m 17 (t 8)),
 d (n 18 (t 17)),
 d (r 19 (t 18)),
 d (m 20 (t 8)),
 d (n 21 (t 20)),
 d (r 22 (t 21)),
 d (p 23 (.build [(.int .i64 0), (.int .i64 0), (.int .i64 0), (.int .i64 0), (.int .i64 0)] [(0, 1, (t 15)), (1, 1, (i 1)), (2, 1, (t 16)), (3, 1, (t 19)), (4, 1, (t 22))])),
 d (c 24 163 [(t 14), (t 23)])])
 (.seq (.region [m 25 (t 8),
 n 26 (t 25),
 r 27 (t 26),
 m 6 (t 27),
 m 7 (i 0)])
 (.ret)))))⟩
theorem cc140 : cFunc Tryz.prog methNames Tryz.f140 = some c140 := by kernel_rfl
/-- pantry/status.Start -/
def c141 : AFunc := ⟨3, [.tmp 2],
  .seq (.region [m 2 (i 0)])
 (.seq (.region [m 2 (i 2)])
 (.ret))⟩
theorem cc141 : cFunc Tryz.prog methNames Tryz.f141 = some c141 := by kernel_rfl
/-- (*pantry/stripes.Stripes).Take -/
def c142 : AFunc := ⟨25, [.tmp 2, .tmp 3],
  .seq (.region [m 2 (i 0),
 m 3 (l (.bool false))])
 (.seq (.seq (.region [m 8 (t 0),
 n 9 (t 8),
 f 10 0 (t 9),
 r 11 (t 10),
 p 12 (.len false (t 11)),
 m 13 (i 0)])
 (.block 0 (.loop (.seq (.region [p 14 (.bin .lss (t 13) (t 12))])
 (.seq (.cond (t 14) (.skip)
 (.exit 0))
 (.seq (.block 1 (.seq (.region [p 15 (.indexAddr 1 (t 11) (t 13)),
 r 16 (t 15),
 m 5 (t 16)])
 (.seq (.region [m 18 (t 5),
 e 19 (.call (.invoke (t 18) 1) []),
 m 17 (t 19),
 p 20 (.extract (t 17) 0),
 p 21 (.extract (t 17) 1),
 m 6 (t 20),
 m 7 (t 21)])
 (.seq (.region [m 22 (t 7)])
 (.cond (t 22) (.seq (.region [m 23 (t 6),
 m 2 (t 23),
 m 3 (l (.bool true))])
 (.ret))
 (.skip))))))
 (.region [p 24 (.bin .add (t 13) (i 1)),
 m 13 (t 24)])))))))
 (.seq (.region [m 2 (i 0),
 m 3 (l (.bool false))])
 (.ret)))⟩
theorem cc142 : cFunc Tryz.prog methNames Tryz.f142 = some c142 := by kernel_rfl
/-- (*pantry/conc.thread).event -/
def c143 : AFunc := ⟨36, [.tmp 4],
  .seq (.region [a 3 (.box (t 1)),
 m 4 (l (.slice none 0 0))])
 (.seq (.draw [d (m 11 (t 0)),
 d (n 12 (t 11)),
 d (f 13 0 (t 12)),
 d (r 14 (t 13)),
 d (n 15 (t 14)),
 d (f 16 8 (t 15)),
 d (r 17 (t 16)),
 d (p 18 (.load true 4 (t 3))),
 d (a 19 (.buildSlice [(.int .i64 0), (.int .i64 0), (.int .i64 0), (.int .i64 0)] 4 1 [(0, (t 18))])),
 d (e 20 (.append 4 32 (t 17) (t 19))),
 d (m 7 (t 0)),
 d (n 8 (t 7)),
 d (f 9 0 (t 8)),
 (r 10 (t 9), [3]),
 d (n 21 (t 10)),
 d (f 22 8 (t 21)),
 d (z (.store 1 (t 22) (t 20)))])
 (.seq (.draw [d (m 24 (t 0)),
 d (n 25 (t 24)),
 d (f 26 0 (t 25)),
 d (r 27 (t 26)),
 d (n 28 (t 27)),
 d (f 29 2 (t 28)),
 d (r 30 (t 29)),
 d (p 31 (.load true 4 (t 3))),
 d (c 32 165 [(t 30), (t 31)]),
 d (m 23 (t 32)),
 d (p 33 (.extract (t 23) 0)),
 d (p 34 (.extract (t 23) 1)),
 d (m 5 (t 33)),
 d (m 6 (t 34))])
 (.seq (.region [m 35 (t 5),
 m 4 (t 35)])
 (.ret))))⟩
theorem cc143 : cFunc Tryz.prog methNames Tryz.f143 = some c143 := by kernel_rfl
/-- (*pantry/conc.thread).take -/
def c144 : AFunc := ⟨41, [.tmp 2],
  .seq (.region [m 2 (l (.bool false))])
 (.seq (.region [m 6 (t 0),
 n 7 (t 6),
 f 8 0 (t 7),
 r 9 (t 8),
 n 10 (t 9),
 f 11 4 (t 10),
 r 12 (t 11),
 c 13 166 [(t 12)],
 m 5 (t 13),
 p 14 (.extract (t 5) 0),
 p 15 (.extract (t 5) 1),
 a 3 (.alloc [(.int .i64 0), (.int .i64 0), (.int .i64 0), (.int .i64 0)]),
 z (.store 4 (t 3) (t 14)),
 m 4 (t 15)])
 (.seq (.seq (.region [m 16 (t 4),
 p 17 (.not (t 16))])
 (.cond (t 17) (.seq (.region [m 18 (t 0),
 c 19 96 [(t 18), (i 15)],
 m 2 (t 19)])
 (.ret))
 (.skip)))
 (.seq (.region [m 20 (t 0),
 m 21 (t 0),
 p 22 (.load true 4 (t 3)),
 c 23 143 [(t 21), (t 22)],
 n 24 (t 20),
 f 25 12 (t 24),
 z (.store 1 (t 25) (t 23))])
 (.seq (.seq (.region [f 26 0 (t 3),
 r 27 (t 26),
 p 28 (.bin .eql (t 27) (i 4))])
 (.cond (t 28) (.draw [d (m 29 (t 0)),
 d (n 30 (t 29)),
 d (f 31 0 (t 30)),
 d (r 32 (t 31)),
 d (n 33 (t 32)),
 d (f 34 1 (t 33)),
 d (r 35 (t 34)),
 d (f 36 1 (t 3)),
 d (r 37 (t 36)),
 d (c 38 167 [(t 35), (t 37)])])
 (.skip)))
 (.seq (.region [m 39 (t 0),
 c 40 147 [(t 39)],
 m 2 (t 40)])
 (.ret))))))⟩
theorem cc144 : cFunc Tryz.prog methNames Tryz.f144 = some c144 := by kernel_rfl
/-- (*pantry/conc.thread).shard -/
def c145 : AFunc := ⟨25, [.tmp 2],
  .seq (.region [m 2 (i 0)])
 (.seq (.draw [d (m 3 (t 0)),
 d (n 4 (t 3)),
 d (f 5 0 (t 4)),
 d (r 6 (t 5)),
 d (n 7 (t 6)),
 d (f 8 1 (t 7)),
 d (r 9 (t 8)),
 d (m 10 (t 0)),
 d (n 11 (t 10)),
 d (f 12 0 (t 11)),
 d (r 13 (t 12)),
 d (n 14 (t 13)),
 d (f 15 6 (t 14)),
 d (r 16 (t 15)),
 d (m 17 (t 0)),
 d (n 18 (t 17)),
 d (f 19 12 (t 18)),
 d (r 20 (t 19)),
 d (p 21 (.indexAddr 1 (t 20) (i 0))),
 d (r 22 (t 21)),
 d (p 23 (.lookup (.int .i64 0) false (t 16) (t 22))),
 d (c 24 99 [(t 9), (t 23)]),
 d (m 2 (t 24))])
 (.ret))⟩
theorem cc145 : cFunc Tryz.prog methNames Tryz.f145 = some c145 := by kernel_rfl
/-- (*pantry/conc.thread).evict -/
def c146 : AFunc := ⟨32, [.tmp 2],
  .seq (.region [m 2 (l (.bool false))])
 (.seq (.seq (.draw [d (m 6 (t 0)),
 d (n 7 (t 6)),
 d (f 8 0 (t 7)),
 d (r 9 (t 8)),
 d (n 10 (t 9)),
 d (f 11 1 (t 10)),
 d (r 12 (t 11)),
 d (m 13 (t 0)),
 d (n 14 (t 13)),
 d (f 15 12 (t 14)),
 d (r 16 (t 15)),
 d (p 17 (.indexAddr 1 (t 16) (i 0))),
 d (r 18 (t 17)),
 d (c 19 168 [(t 12), (t 18)]),
 d (m 5 (t 19)),
 d (p 20 (.extract (t 5) 0)),
 d (a 3 (.alloc [(.int .i64 0), (.int .i64 0), (.int .i64 0), (.int .i64 0)])),
 d (z (.store 4 (t 3) (t 20))),
 d (p 21 (.extract (t 5) 1)),
 d (m 4 (t 21))])
 (.seq (.region [m 22 (t 4)])
 (.cond (t 22) (.region [m 23 (t 0),
 f 24 0 (t 3),
 r 25 (t 24),
 f 26 1 (t 3),
 r 27 (t 26),
 p 28 (.build [(.int .i64 0), (.int .i64 0), (.int .i64 0), (.bool false)] [(0, 1, (i 4)), (1, 1, (t 25)), (2, 1, (t 27)), (3, 1, (l (.bool true)))]),
 c 29 125 [(t 23), (i (-1)), (i 2), (t 28), (i 0)]])
 (.skip))))
 (.seq (.region [m 30 (t 0),
 c 31 96 [(t 30), (i 14)],
 m 2 (t 31)])
 (.ret)))⟩
theorem cc146 : cFunc Tryz.prog methNames Tryz.f146 = some c146 := by kernel_rfl
/-- (*pantry/conc.thread).next -/
def c147 : AFunc := ⟨13, [.tmp 2],
  .seq (.region [m 2 (l (.bool false))])
 (.seq (.seq (.region [m 3 (t 0),
 n 4 (t 3),
 f 5 12 (t 4),
 r 6 (t 5),
 p 7 (.len false (t 6)),
 p 8 (.bin .gtr (t 7) (i 0))])
 (.cond (t 8) (.seq (.region [m 9 (t 0),
 c 10 96 [(t 9), (i 12)],
 m 2 (t 10)])
 (.ret))
 (.skip)))
 (.seq (.region [m 11 (t 0),
 c 12 96 [(t 11), (i 11)],
 m 2 (t 12)])
 (.ret)))⟩
theorem cc147 : cFunc Tryz.prog methNames Tryz.f147 = some c147 := by kernel_rfl
/-- (*pantry/conc.thread).end -/
def c148 : AFunc := ⟨63, [.tmp 2],
  .seq (.region [m 2 (l (.bool false))])
 (.seq (.region [m 4 (t 0),
 c 5 105 [(t 4)],
 m 3 (t 5)])
 (.seq (.seq (.region [m 6 (t 0),
 n 7 (t 6),
 f 8 0 (t 7),
 r 9 (t 8),
 n 10 (t 9),
 f 11 3 (t 10),
 r 12 (t 11),
 c 13 169 [(t 12)],
 p 14 (.bin .gtr (t 13) (i 0)),
 m 15 (t 14),
 g 16 (.move (t 0)) 15 false,
 g 17 (.nilCheck (t 16)) 15 false,
 g 18 (.fieldAddr 0 (t 17)) 15 false,
 g 19 (.load false 1 (t 18)) 15 false,
 g 20 (.nilCheck (t 19)) 15 false,
 g 21 (.fieldAddr 4 (t 20)) 15 false,
 g 22 (.load false 1 (t 21)) 15 false,
 ⟨(some 23), .e (.call (.value (l (.func (.func 128) #[] #[]))) [(t 22)]), some (15, false)⟩,
 g 24 (.bin .gtr (t 23) (i 0)) 15 false,
 p 25 (.pick (t 15) (l (.bool true)) (t 24)),
 m 26 (t 25),
 g 27 (.move (t 3)) 26 false,
 g 28 (.bin .eql (t 27) (i 3)) 26 false,
 p 29 (.pick (t 26) (l (.bool true)) (t 28))])
 (.cond (t 29) (.seq (.region [m 30 (t 0),
 m 31 (t 3),
 c 32 141 [(t 31)],
 c 33 103 [(t 30), (t 32)]])
 (.seq (.region [m 34 (t 0),
 c 35 96 [(t 34), (i 10)],
 m 2 (t 35)])
 (.ret)))
 (.skip)))
 (.seq (.region [m 36 (t 0),
 m 37 (t 3),
 c 38 170 [(t 37), (l (.bool false))],
 c 39 103 [(t 36), (t 38)]])
 (.seq (.draw [d (m 51 (t 0)),
 d (n 52 (t 51)),
 d (f 53 0 (t 52)),
 d (r 54 (t 53)),
 d (c 55 106 [(t 54)]),
 d (m 40 (t 0)),
 d (n 41 (t 40)),
 d (f 42 0 (t 41)),
 (r 43 (t 42), [3]),
 d (n 44 (t 43)),
 d (f 45 5 (t 44)),
 (r 46 (t 45), [6]),
 d (m 47 (t 0)),
 d (n 48 (t 47)),
 d (f 49 1 (t 48)),
 (r 50 (t 49), [10]),
 d (c 56 137 [(t 46), (t 50), (t 55)])])
 (.seq (.region [m 57 (t 0),
 m 58 (t 0),
 n 59 (t 58),
 f 60 11 (t 59),
 r 61 (t 60),
 c 62 96 [(t 57), (t 61)],
 m 2 (t 62)])
 (.ret))))))⟩
theorem cc148 : cFunc Tryz.prog methNames Tryz.f148 = some c148 := by kernel_rfl
/-- slices.siftDownCmpFunc[pantry/api.Entry] -/
def c149 : AFunc := ⟨82, [],
  .seq (.region [m 12 (t 1),
 m 10 (t 12)])
 (.block 0 (.loop (.block 1 (.seq (.region [m 13 (t 10),
 p 14 (.bin .mul (i 2) (t 13)),
 p 15 (.bin .add (t 14) (i 1)),
 m 11 (t 15)])
 (.seq (.seq (.region [m 16 (t 11),
 m 17 (t 2),
 p 18 (.bin .geq (t 16) (t 17))])
 (.cond (t 18) (.exit 0)
 (.skip)))
 (.seq (.seq (.draw [d (m 19 (t 11)),
 d (p 20 (.bin .add (t 19) (i 1))),
 d (m 21 (t 2)),
 d (p 22 (.bin .lss (t 20) (t 21))),
 d (m 23 (t 22)),
 d (g 24 (.move (t 4)) 23 true),
 d (g 25 (.move (t 0)) 23 true),
 d (g 26 (.move (t 3)) 23 true),
 d (g 27 (.move (t 11)) 23 true),
 d (g 28 (.bin .add (t 26) (t 27)) 23 true),
 d (g 29 (.indexAddr 4 (t 25) (t 28)) 23 true),
 d (g 30 (.load true 4 (t 29)) 23 true),
 d (g 31 (.move (t 0)) 23 true),
 d (g 32 (.move (t 3)) 23 true),
 d (g 33 (.move (t 11)) 23 true),
 d (g 34 (.bin .add (t 32) (t 33)) 23 true),
 d (g 35 (.bin .add (t 34) (i 1)) 23 true),
 d (g 36 (.indexAddr 4 (t 31) (t 35)) 23 true),
 d (g 37 (.load true 4 (t 36)) 23 true),
 d (⟨(some 38), .e (.call (.value (t 24)) [(t 30), (t 37)]), some (23, true)⟩),
 d (g 39 (.bin .lss (t 38) (i 0)) 23 true),
 d (p 40 (.pick (t 23) (t 39) (l (.bool false))))])
 (.cond (t 40) (.region [m 41 (t 11),
 p 42 (.bin .add (t 41) (i 1)),
 m 11 (t 42)])
 (.skip)))
 (.seq (.seq (.draw [d (m 43 (t 4)),
 d (m 44 (t 0)),
 d (m 45 (t 3)),
 d (m 46 (t 10)),
 d (p 47 (.bin .add (t 45) (t 46))),
 d (p 48 (.indexAddr 4 (t 44) (t 47))),
 d (p 49 (.load true 4 (t 48))),
 d (m 50 (t 0)),
 d (m 51 (t 3)),
 d (m 52 (t 11)),
 d (p 53 (.bin .add (t 51) (t 52))),
 d (p 54 (.indexAddr 4 (t 50) (t 53))),
 d (p 55 (.load true 4 (t 54))),
 d (e 56 (.call (.value (t 43)) [(t 49), (t 55)])),
 d (p 57 (.bin .lss (t 56) (i 0))),
 d (p 58 (.not (t 57)))])
 (.cond (t 58) (.ret)
 (.skip)))
 (.seq (.draw [d (m 59 (t 0)),
 d (m 60 (t 3)),
 d (m 61 (t 10)),
 d (p 62 (.bin .add (t 60) (t 61))),
 d (m 67 (t 0)),
 d (m 68 (t 3)),
 d (m 69 (t 11)),
 d (p 70 (.bin .add (t 68) (t 69))),
 d (p 71 (.indexAddr 4 (t 67) (t 70))),
 d (p 72 (.load true 4 (t 71))),
 d (m 73 (t 0)),
 d (m 74 (t 3)),
 d (m 75 (t 10)),
 d (p 76 (.bin .add (t 74) (t 75))),
 d (p 77 (.indexAddr 4 (t 73) (t 76))),
 d (p 78 (.load true 4 (t 77))),
 d (p 79 (.indexAddr 4 (t 59) (t 62))),
 d (z (.store 4 (t 79) (t 72))),
 d (m 63 (t 0)),
 d (m 64 (t 3)),
 d (m 65 (t 11)),
 d (p 66 (.bin .add (t 64) (t 65))),
 d (p 80 (.indexAddr 4 (t 63) (t 66))),
 d (z (.store 4 (t 80) (t 78)))])
 (.region [m 81 (t 11),
 m 10 (t 81)])))))))))⟩
theorem cc149 : cFunc Tryz.prog methNames Tryz.f149 = some c149 := by kernel_rfl
/-- slices.nextPowerOfTwo -/
def c150 : AFunc := ⟨7, [.tmp 2],
  .seq (.region [m 2 (l (.int .u64 0))])
 (.seq (.region [m 3 (t 0),
 p 4 (.conv .u64 (t 3)),
 c 5 80 [(t 4)],
 p 6 (.bin .shl (l (.int .u64 1)) (t 5)),
 m 2 (t 6)])
 (.ret))⟩
theorem cc150 : cFunc Tryz.prog methNames Tryz.f150 = some c150 := by kernel_rfl
/-- (*slices.xorshift).Next -/
def c151 : AFunc := ⟨33, [.tmp 2],
  .seq (.region [m 2 (l (.int .u64 0))])
 (.seq (.draw [d (m 3 (t 0)),
 d (n 4 (t 3)),
 d (r 5 (t 4)),
 d (m 6 (t 0)),
 d (n 7 (t 6)),
 d (r 8 (t 7)),
 d (p 9 (.bin .shl (t 8) (l (.int .u64 13)))),
 d (p 10 (.bin .xor (t 5) (t 9))),
 d (n 11 (t 3)),
 d (z (.store 1 (t 11) (t 10)))])
 (.seq (.draw [d (m 12 (t 0)),
 d (n 13 (t 12)),
 d (r 14 (t 13)),
 d (m 15 (t 0)),
 d (n 16 (t 15)),
 d (r 17 (t 16)),
 d (p 18 (.bin .shr (t 17) (l (.int .u64 7)))),
 d (p 19 (.bin .xor (t 14) (t 18))),
 d (n 20 (t 12)),
 d (z (.store 1 (t 20) (t 19)))])
 (.seq (.draw [d (m 21 (t 0)),
 d (n 22 (t 21)),
 d (r 23 (t 22)),
 d (m 24 (t 0)),
 d (n 25 (t 24)),
 d (r 26 (t 25)),
 d (p 27 (.bin .shl (t 26) (l (.int .u64 17)))),
 d (p 28 (.bin .xor (t 23) (t 27))),
 d (n 29 (t 21)),
 d (z (.store 1 (t 29) (t 28)))])
 (.seq (.region [m 30 (t 0),
 n 31 (t 30),
 r 32 (t 31),
 m 2 (t 32)])
 (.ret)))))⟩
theorem cc151 : cFunc Tryz.prog methNames Tryz.f151 = some c151 := by kernel_rfl
/-- slices.medianAdjacentCmpFunc[pantry/api.Entry] -/
def c152 : AFunc := ⟨18, [.tmp 8],
  .seq (.region [m 8 (i 0)])
 (.seq (.region [m 9 (t 0),
 m 10 (t 1),
 p 11 (.bin .sub (t 10) (i 1)),
 m 12 (t 1),
 m 13 (t 1),
 p 14 (.bin .add (t 13) (i 1)),
 m 15 (t 2),
 m 16 (t 3),
 c 17 153 [(t 9), (t 11), (t 12), (t 14), (t 15), (t 16)],
 m 8 (t 17)])
 (.ret))⟩
theorem cc152 : cFunc Tryz.prog methNames Tryz.f152 = some c152 := by kernel_rfl
/-- slices.medianCmpFunc[pantry/api.Entry] -/
def c153 : AFunc := ⟨41, [.tmp 12],
  .seq (.region [m 12 (i 0)])
 (.seq (.region [m 14 (t 0),
 m 15 (t 1),
 m 16 (t 2),
 m 17 (t 4),
 m 18 (t 5),
 c 19 171 [(t 14), (t 15), (t 16), (t 17), (t 18)],
 m 13 (t 19),
 p 20 (.extract (t 13) 0),
 p 21 (.extract (t 13) 1),
 m 1 (t 20),
 m 2 (t 21)])
 (.seq (.region [m 23 (t 0),
 m 24 (t 2),
 m 25 (t 3),
 m 26 (t 4),
 m 27 (t 5),
 c 28 171 [(t 23), (t 24), (t 25), (t 26), (t 27)],
 m 22 (t 28),
 p 29 (.extract (t 22) 0),
 p 30 (.extract (t 22) 1),
 m 2 (t 29),
 m 3 (t 30)])
 (.seq (.region [m 32 (t 0),
 m 33 (t 1),
 m 34 (t 2),
 m 35 (t 4),
 m 36 (t 5),
 c 37 171 [(t 32), (t 33), (t 34), (t 35), (t 36)],
 m 31 (t 37),
 p 38 (.extract (t 31) 0),
 p 39 (.extract (t 31) 1),
 m 1 (t 38),
 m 2 (t 39)])
 (.seq (.region [m 40 (t 2),
 m 12 (t 40)])
 (.ret)))))⟩
theorem cc153 : cFunc Tryz.prog methNames Tryz.f153 = some c153 := by kernel_rfl
/-- (*pantry/cells.Cells).take -/
def c155 : AFunc := ⟨55, [.tmp 8, .tmp 9],
  .seq (.region [m 8 (l (.bool false)),
 m 9 (i 0)])
 (.seq (.region [m 12 (t 0),
 m 13 (t 2),
 c 14 162 [(t 12), (t 13)],
 m 10 (t 14)])
 (.seq (.region [m 15 (t 1),
 p 16 (.build [(.int .i64 0), (.bool false)] [(0, 1, (t 15)), (1, 1, (l (.bool true)))]),
 a 11 (.alloc [(.int .i64 0), (.bool false)]),
 z (.store 2 (t 11) (t 16))])
 (.seq (.block 0 (.seq (.region [m 18 (t 10),
 p 19 (.eqPtr false (t 18) (l (.pointer none))),
 m 17 (t 19)])
 (.cond (t 17) (.seq (.region [m 8 (l (.bool false)),
 m 9 (i 1)])
 (.ret))
 (.seq (.draw [d (m 21 (t 10)),
 d (n 22 (t 21)),
 d (p 23 (.load true 2 (t 22))),
 d (p 24 (.load true 2 (t 11))),
 d (p 25 (.eqAgg false [false, true] (t 23) (t 24))),
 d (m 20 (t 25))])
 (.cond (t 20) (.seq (.region [m 8 (l (.bool false)),
 m 9 (i 5)])
 (.ret))
 (.seq (.region [m 27 (t 10),
 n 28 (t 27),
 f 29 1 (t 28),
 r 30 (t 29),
 m 31 (t 30),
 g 32 (.move (t 3)) 31 true,
 g 33 (.bin .eql (t 32) (i 4)) 31 true,
 p 34 (.pick (t 31) (t 33) (l (.bool false))),
 m 26 (t 34)])
 (.cond (t 26) (.seq (.region [m 8 (l (.bool false)),
 m 9 (i 6)])
 (.ret))
 (.seq (.region [m 36 (t 10),
 n 37 (t 36),
 f 38 1 (t 37),
 r 39 (t 38),
 m 35 (t 39)])
 (.cond (t 35) (.seq (.region [m 40 (t 0),
 m 41 (t 1),
 m 42 (t 3),
 m 43 (t 2),
 p 44 (.build [(.int .i64 0), (.int .i64 0), (.int .i64 0), (.int .i64 0), (.int .i64 0)] [(0, 1, (t 41)), (1, 1, (t 42)), (2, 1, (t 43)), (3, 1, (i 1)), (4, 1, (i 1))]),
 c 45 163 [(t 40), (t 44)]])
 (.seq (.region [m 8 (l (.bool false)),
 m 9 (i 0)])
 (.ret)))
 (.skip))))))))))
 (.seq (.region [m 46 (t 10),
 p 47 (.load true 2 (t 11)),
 n 48 (t 46),
 z (.store 2 (t 48) (t 47))])
 (.seq (.region [m 49 (t 0),
 m 50 (t 1),
 m 51 (t 3),
 m 52 (t 2),
 p 53 (.build [(.int .i64 0), (.int .i64 0), (.int .i64 0), (.int .i64 0), (.int .i64 0)] [(0, 1, (t 50)), (1, 1, (t 51)), (2, 1, (t 52)), (4, 1, (i 1))]),
 c 54 163 [(t 49), (t 53)]])
 (.seq (.region [m 8 (l (.bool true)),
 m 9 (i 0)])
 (.ret)))))))⟩
theorem cc155 : cFunc Tryz.prog methNames Tryz.f155 = some c155 := by kernel_rfl
/-- pantry/mix.Turn -/
def c156 : AFunc := ⟨9, [.tmp 4],
  .seq (.region [m 4 (l (.int .u64 0))])
 (.seq (.region [m 5 (t 0),
 m 6 (t 1),
 p 7 (.bin .rem (t 6) (i 64)),
 c 8 176 [(t 5), (t 7)],
 m 4 (t 8)])
 (.ret))⟩
theorem cc156 : cFunc Tryz.prog methNames Tryz.f156 = some c156 := by kernel_rfl
/-- (*pantry/shards.Map).Get -/
def c157 : AFunc := ⟨13, [.cell true 4 4, .tmp 5],
  .seq (.region [a 4 (.alloc [(.int .i64 0), (.int .i64 0), (.int .i64 0), (.int .i64 0)]),
 m 5 (l (.bool false))])
 (.seq (.region [m 6 (t 0),
 m 7 (t 1),
 c 8 177 [(t 6), (t 7)],
 m 9 (t 1),
 c 10 178 [(t 8), (t 9)],
 p 11 (.extract (t 10) 0),
 p 12 (.extract (t 10) 1),
 z (.store 4 (t 4) (t 11)),
 m 5 (t 12)])
 (.ret))⟩
theorem cc157 : cFunc Tryz.prog methNames Tryz.f157 = some c157 := by kernel_rfl
/-- (*pantry/shards.Map).Put -/
def c158 : AFunc := ⟨71, [.cell true 4 8, .tmp 9],
  .seq (.region [a 8 (.alloc [(.int .i64 0), (.int .i64 0), (.int .i64 0), (.int .i64 0)]),
 m 9 (l (.bool false))])
 (.seq (.region [m 14 (t 0),
 m 15 (t 1),
 c 16 177 [(t 14), (t 15)],
 m 10 (t 16)])
 (.seq (.region [m 17 (t 1),
 m 18 (t 2),
 m 19 (t 3),
 p 20 (.max [(i 0), (t 19)]),
 p 21 (.min [(t 20), (i 2147483648)]),
 p 22 (.build [(.int .i64 0), (.int .i64 0), (.int .i64 0), (.int .i64 0)] [(0, 1, (t 17)), (1, 1, (t 18)), (2, 1, (t 21))]),
 a 11 (.alloc [(.int .i64 0), (.int .i64 0), (.int .i64 0), (.int .i64 0)]),
 z (.store 4 (t 11) (t 22))])
 (.seq (.region [m 24 (t 10),
 m 25 (t 1),
 c 26 178 [(t 24), (t 25)],
 m 23 (t 26),
 p 27 (.extract (t 23) 0),
 p 28 (.extract (t 23) 1),
 a 12 (.alloc [(.int .i64 0), (.int .i64 0), (.int .i64 0), (.int .i64 0)]),
 z (.store 4 (t 12) (t 27)),
 m 13 (t 28)])
 (.seq (.seq (.region [m 29 (t 13)])
 (.cond (t 29) (.region [f 30 3 (t 12),
 r 31 (t 30),
 f 32 3 (t 11),
 z (.store 1 (t 32) (t 31))])
 (.seq (.region [m 33 (t 0),
 n 34 (t 33),
 f 35 2 (t 34),
 r 36 (t 35),
 p 37 (.bin .add (t 36) (i 1)),
 n 38 (t 33),
 f 39 2 (t 38),
 z (.store 1 (t 39) (t 37))])
 (.seq (.region [m 40 (t 0),
 n 41 (t 40),
 f 42 2 (t 41),
 r 43 (t 42),
 f 44 3 (t 11),
 z (.store 1 (t 44) (t 43))])
 (.draw [d (m 45 (t 0)),
 d (n 46 (t 45)),
 d (f 47 3 (t 46)),
 d (r 48 (t 47)),
 d (f 49 3 (t 11)),
 d (r 50 (t 49)),
 d (m 51 (t 1)),
 d (z (.mapUpdate (t 48) (t 50) (t 51)))])))))
 (.seq (.region [m 52 (t 10),
 p 53 (.load true 4 (t 11)),
 c 54 179 [(t 52), (t 53)]])
 (.seq (.draw [d (m 55 (t 0)),
 d (n 56 (t 55)),
 d (f 57 5 (t 56)),
 d (r 58 (t 57)),
 d (f 59 2 (t 11)),
 d (r 60 (t 59)),
 d (f 61 2 (t 12)),
 d (r 62 (t 61)),
 d (p 63 (.bin .sub (t 60) (t 62))),
 d (p 64 (.bin .add (t 58) (t 63))),
 d (n 65 (t 55)),
 d (f 66 5 (t 65)),
 d (z (.store 1 (t 66) (t 64)))])
 (.seq (.seq (.region [m 67 (t 13),
 p 68 (.not (t 67))])
 (.cond (t 68) (.seq (.region [p 69 (.load true 4 (t 11)),
 z (.store 4 (t 8) (t 69)),
 m 9 (l (.bool false))])
 (.ret))
 (.skip)))
 (.seq (.region [p 70 (.load true 4 (t 12)),
 z (.store 4 (t 8) (t 70)),
 m 9 (l (.bool true))])
 (.ret)))))))))⟩
theorem cc158 : cFunc Tryz.prog methNames Tryz.f158 = some c158 := by kernel_rfl
/-- (*pantry/writes.Buffer).Commit -/
def c159 : AFunc := ⟨32, [.tmp 4],
  .seq (.region [a 3 (.box (t 1)),
 m 4 (i 0)])
 (.seq (.seq (.region [m 6 (t 0),
 c 7 161 [(t 6)],
 m 5 (t 7)])
 (.seq (.region [m 8 (t 5),
 p 9 (.bin .neq (t 8) (i 0))])
 (.cond (t 9) (.seq (.region [m 10 (t 5),
 m 4 (t 10)])
 (.ret))
 (.skip))))
 (.seq (.draw [d (m 19 (t 0)),
 d (c 20 128 [(t 19)]),
 d (m 11 (t 0)),
 d (n 12 (t 11)),
 d (f 13 1 (t 12)),
 (r 14 (t 13), [3]),
 d (m 15 (t 0)),
 d (n 16 (t 15)),
 d (f 17 2 (t 16)),
 (r 18 (t 17), [7]),
 d (p 21 (.bin .add (t 18) (t 20))),
 (p 22 (.load true 4 (t 3)), [9]),
 d (z (.mapUpdate (t 14) (t 21) (t 22)))])
 (.seq (.draw [d (p 27 (.load true 4 (t 3))),
 d (c 28 180 [(t 27)]),
 d (m 23 (t 0)),
 d (n 24 (t 23)),
 d (f 25 4 (t 24)),
 (r 26 (t 25), [3]),
 d (p 29 (.bin .add (t 26) (t 28))),
 d (n 30 (t 23)),
 d (f 31 4 (t 30)),
 d (z (.store 1 (t 31) (t 29)))])
 (.seq (.region [m 4 (i 0)])
 (.ret)))))⟩
theorem cc159 : cFunc Tryz.prog methNames Tryz.f159 = some c159 := by kernel_rfl
/-- (*pantry/shards.Map).Remove -/
def c160 : AFunc := ⟨11, [.cell true 4 4, .tmp 5],
  .seq (.region [a 4 (.alloc [(.int .i64 0), (.int .i64 0), (.int .i64 0), (.int .i64 0)]),
 m 5 (l (.bool false))])
 (.seq (.region [m 6 (t 0),
 m 7 (t 1),
 c 8 181 [(t 6), (t 7), (l (.bool false))],
 p 9 (.extract (t 8) 0),
 p 10 (.extract (t 8) 1),
 z (.store 4 (t 4) (t 9)),
 m 5 (t 10)])
 (.ret))⟩
theorem cc160 : cFunc Tryz.prog methNames Tryz.f160 = some c160 := by kernel_rfl
/-- (*pantry/writes.Buffer).Cancel -/
def c161 : AFunc := ⟨15, [.tmp 2],
  .seq (.region [m 2 (i 0)])
 (.seq (.seq (.region [m 3 (t 0),
 n 4 (t 3),
 f 5 3 (t 4),
 r 6 (t 5),
 p 7 (.bin .eql (t 6) (i 0))])
 (.cond (t 7) (.seq (.region [m 2 (i 3)])
 (.ret))
 (.skip)))
 (.seq (.region [m 8 (t 0),
 n 9 (t 8),
 f 10 3 (t 9),
 r 11 (t 10),
 p 12 (.bin .sub (t 11) (i 1)),
 n 13 (t 8),
 f 14 3 (t 13),
 z (.store 1 (t 14) (t 12))])
 (.seq (.region [m 2 (i 0)])
 (.ret))))⟩
theorem cc161 : cFunc Tryz.prog methNames Tryz.f161 = some c161 := by kernel_rfl
/-- (*pantry/cells.Cells).lock -/
def c162 : AFunc := ⟨22, [.tmp 4],
  .seq (.region [m 4 (l (.pointer none))])
 (.seq (.seq (.region [m 5 (t 1),
 p 6 (.bin .lss (t 5) (i 0)),
 m 7 (t 6),
 g 8 (.move (t 1)) 7 false,
 g 9 (.move (t 0)) 7 false,
 g 10 (.nilCheck (t 9)) 7 false,
 g 11 (.fieldAddr 1 (t 10)) 7 false,
 g 12 (.load false 1 (t 11)) 7 false,
 g 13 (.len false (t 12)) 7 false,
 g 14 (.bin .geq (t 8) (t 13)) 7 false,
 p 15 (.pick (t 7) (l (.bool true)) (t 14))])
 (.cond (t 15) (.seq (.region [m 4 (l (.pointer none))])
 (.ret))
 (.skip)))
 (.seq (.region [m 16 (t 0),
 n 17 (t 16),
 f 18 1 (t 17),
 r 19 (t 18),
 m 20 (t 1),
 p 21 (.indexAddr 2 (t 19) (t 20)),
 m 4 (t 21)])
 (.ret)))⟩
theorem cc162 : cFunc Tryz.prog methNames Tryz.f162 = some c162 := by kernel_rfl
/-- (*pantry/cells.Cells).note -/
def c163 : AFunc := ⟨14, [],
  .seq (.region [a 3 (.box (t 1))])
 (.draw [d (m 5 (t 0)),
 d (n 6 (t 5)),
 d (f 7 2 (t 6)),
 d (r 8 (t 7)),
 d (p 9 (.load true 5 (t 3))),
 d (a 10 (.buildSlice [(.int .i64 0), (.int .i64 0), (.int .i64 0), (.int .i64 0), (.int .i64 0)] 5 1 [(0, (t 9))])),
 d (e 11 (.append 5 40 (t 8) (t 10))),
 d (m 4 (t 0)),
 d (n 12 (t 4)),
 d (f 13 2 (t 12)),
 d (z (.store 1 (t 13) (t 11)))])⟩
theorem cc163 : cFunc Tryz.prog methNames Tryz.f163 = some c163 := by kernel_rfl
/-- (*pantry/cells.Cells).word -/
def c164 : AFunc := ⟨22, [.tmp 4],
  .seq (.region [m 4 (l (.pointer none))])
 (.seq (.seq (.region [m 5 (t 1),
 p 6 (.bin .lss (t 5) (i 0)),
 m 7 (t 6),
 g 8 (.move (t 1)) 7 false,
 g 9 (.move (t 0)) 7 false,
 g 10 (.nilCheck (t 9)) 7 false,
 g 11 (.fieldAddr 0 (t 10)) 7 false,
 g 12 (.load false 1 (t 11)) 7 false,
 g 13 (.len false (t 12)) 7 false,
 g 14 (.bin .geq (t 8) (t 13)) 7 false,
 p 15 (.pick (t 7) (l (.bool true)) (t 14))])
 (.cond (t 15) (.seq (.region [m 4 (l (.pointer none))])
 (.ret))
 (.skip)))
 (.seq (.region [m 16 (t 0),
 n 17 (t 16),
 f 18 0 (t 17),
 r 19 (t 18),
 m 20 (t 1),
 p 21 (.indexAddr 1 (t 19) (t 20)),
 m 4 (t 21)])
 (.ret)))⟩
theorem cc164 : cFunc Tryz.prog methNames Tryz.f164 = some c164 := by kernel_rfl
/-- (*pantry/policy.Policy).Do -/
def c165 : AFunc := ⟨71, [.tmp 4, .tmp 5],
  .seq (.region [a 3 (.box (t 1)),
 m 4 (l (.slice none 0 0)),
 m 5 (i 0)])
 (.seq (.seq (.region [m 7 (t 0),
 p 8 (.load true 4 (t 3)),
 c 9 182 [(t 7), (t 8)],
 m 6 (t 9)])
 (.seq (.region [m 10 (t 6),
 p 11 (.bin .neq (t 10) (i 0))])
 (.cond (t 11) (.seq (.region [m 12 (t 6),
 m 4 (l (.slice none 0 0)),
 m 5 (t 12)])
 (.ret))
 (.skip))))
 (.seq (.seq (.region [f 13 0 (t 3),
 r 14 (t 13)])
 (.block 0 (.seq (.block 4 (.seq (.block 3 (.seq (.block 2 (.seq (.block 1 (.seq (.seq (.seq (.region [p 16 (.bin .eql (t 14) (i 1)),
 m 15 (t 16)])
 (.cond (t 15) (.exit 1)
 (.skip)))
 (.seq (.seq (.region [p 18 (.bin .eql (t 14) (i 3)),
 m 17 (t 18)])
 (.cond (t 17) (.exit 2)
 (.skip)))
 (.seq (.region [p 20 (.bin .eql (t 14) (i 2)),
 m 19 (t 20)])
 (.cond (t 19) (.exit 3)
 (.skip)))))
 (.exit 4)))
 (.seq (.seq (.draw [d (m 21 (t 0)),
 d (n 22 (t 21)),
 d (f 23 2 (t 22)),
 d (r 24 (t 23)),
 d (f 25 2 (t 3)),
 d (r 26 (t 25)),
 d (c 27 183 [(t 24), (t 26)])])
 (.seq (.region [m 28 (t 0),
 c 29 184 [(t 28), (l (.bool false))]])
 (.seq (.draw [d (m 30 (t 0)),
 d (n 31 (t 30)),
 d (f 32 3 (t 31)),
 d (r 33 (t 32)),
 d (f 34 1 (t 3)),
 d (r 35 (t 34)),
 d (f 36 3 (t 3)),
 d (r 37 (t 36)),
 d (c 38 185 [(t 33), (i 0), (t 35), (t 37)])])
 (.seq (.draw [d (m 39 (t 0)),
 d (n 40 (t 39)),
 d (f 41 4 (t 40)),
 d (r 42 (t 41)),
 d (f 43 1 (t 3)),
 d (r 44 (t 43)),
 d (f 45 2 (t 3)),
 d (r 46 (t 45)),
 d (z (.mapUpdate (t 42) (t 44) (t 46)))])
 (.seq (.region [m 47 (t 0),
 c 48 186 [(t 47)],
 m 4 (t 48),
 m 5 (i 0)])
 (.ret))))))
 (.exit 0))))
 (.draw [d (m 49 (t 0)),
 d (n 50 (t 49)),
 d (f 51 3 (t 50)),
 d (r 52 (t 51)),
 d (f 53 1 (t 3)),
 d (r 54 (t 53)),
 d (f 55 3 (t 3)),
 d (r 56 (t 55)),
 d (c 57 187 [(t 52), (t 54), (t 56)])])))
 (.seq (.region [m 58 (t 0),
 f 59 1 (t 3),
 r 60 (t 59),
 c 61 188 [(t 58), (t 60)]])
 (.exit 0))))
 (.seq (.region [m 62 (t 0),
 f 63 1 (t 3),
 r 64 (t 63),
 c 65 189 [(t 62), (t 64)]])
 (.exit 0)))))
 (.seq (.seq (.region [f 66 0 (t 3),
 r 67 (t 66),
 p 68 (.bin .neq (t 67) (i 3))])
 (.cond (t 68) (.seq (.region [m 4 (l (.slice none 0 0)),
 m 5 (i 0)])
 (.ret))
 (.skip)))
 (.seq (.region [m 69 (t 0),
 c 70 186 [(t 69)],
 m 4 (t 70),
 m 5 (i 0)])
 (.ret)))))⟩
theorem cc165 : cFunc Tryz.prog methNames Tryz.f165 = some c165 := by kernel_rfl
/-- (*pantry/writes.Buffer).Take -/
def c166 : AFunc := ⟨46, [.cell true 4 2, .tmp 3],
  .seq (.region [a 2 (.alloc [(.int .i64 0), (.int .i64 0), (.int .i64 0), (.int .i64 0)]),
 m 3 (l (.bool false))])
 (.seq (.draw [d (m 7 (t 0)),
 d (n 8 (t 7)),
 d (f 9 1 (t 8)),
 d (r 10 (t 9)),
 d (m 11 (t 0)),
 d (n 12 (t 11)),
 d (f 13 2 (t 12)),
 d (r 14 (t 13)),
 d (p 15 (.lookup (.agg #[(.int .i64 0), (.int .i64 0), (.int .i64 0), (.int .i64 0)]) true (t 10) (t 14))),
 d (m 6 (t 15)),
 d (p 16 (.extract (t 6) 0)),
 d (a 4 (.alloc [(.int .i64 0), (.int .i64 0), (.int .i64 0), (.int .i64 0)])),
 d (z (.store 4 (t 4) (t 16))),
 d (p 17 (.extract (t 6) 1)),
 d (m 5 (t 17))])
 (.seq (.seq (.region [m 18 (t 5),
 p 19 (.not (t 18))])
 (.cond (t 19) (.seq (.region [p 20 (.build [(.int .i64 0), (.int .i64 0), (.int .i64 0), (.int .i64 0)] []),
 z (.store 4 (t 2) (t 20)),
 m 3 (l (.bool false))])
 (.ret))
 (.skip)))
 (.seq (.draw [d (m 21 (t 0)),
 d (n 22 (t 21)),
 d (f 23 1 (t 22)),
 d (r 24 (t 23)),
 d (m 25 (t 0)),
 d (n 26 (t 25)),
 d (f 27 2 (t 26)),
 d (r 28 (t 27)),
 d (z (.delete (t 24) (t 28)))])
 (.seq (.region [m 29 (t 0),
 n 30 (t 29),
 f 31 2 (t 30),
 r 32 (t 31),
 p 33 (.bin .add (t 32) (i 1)),
 n 34 (t 29),
 f 35 2 (t 34),
 z (.store 1 (t 35) (t 33))])
 (.seq (.draw [d (p 40 (.load true 4 (t 4))),
 d (c 41 180 [(t 40)]),
 d (m 36 (t 0)),
 d (n 37 (t 36)),
 d (f 38 4 (t 37)),
 (r 39 (t 38), [3]),
 d (p 42 (.bin .sub (t 39) (t 41))),
 d (n 43 (t 36)),
 d (f 44 4 (t 43)),
 d (z (.store 1 (t 44) (t 42)))])
 (.seq (.region [p 45 (.load true 4 (t 4)),
 z (.store 4 (t 2) (t 45)),
 m 3 (l (.bool true))])
 (.ret)))))))⟩
theorem cc166 : cFunc Tryz.prog methNames Tryz.f166 = some c166 := by kernel_rfl
/-- (*pantry/shards.Map).Bury -/
def c167 : AFunc := ⟨17, [.tmp 4],
  .seq (.region [m 4 (i 0)])
 (.seq (.seq (.region [m 5 (t 0),
 m 6 (t 1),
 c 7 190 [(t 5), (t 6)]])
 (.block 0 (.seq (.region [p 9 (.bin .eql (t 7) (i 2)),
 m 8 (t 9)])
 (.cond (t 8) (.seq (.region [m 10 (t 0),
 n 11 (t 10),
 f 12 4 (t 11),
 r 13 (t 12),
 m 14 (t 1),
 z (.mapUpdate (t 13) (t 14) (l (.bool true)))])
 (.seq (.region [m 4 (i 0)])
 (.ret)))
 (.seq (.region [p 16 (.bin .eql (t 7) (i 3)),
 m 15 (t 16)])
 (.cond (t 15) (.seq (.region [m 4 (i 8)])
 (.ret))
 (.skip)))))))
 (.seq (.region [m 4 (i 3)])
 (.ret)))⟩
theorem cc167 : cFunc Tryz.prog methNames Tryz.f167 = some c167 := by kernel_rfl
/-- (*pantry/shards.Map).Evict -/
def c168 : AFunc := ⟨25, [.cell true 4 4, .tmp 5],
  .seq (.region [a 4 (.alloc [(.int .i64 0), (.int .i64 0), (.int .i64 0), (.int .i64 0)]),
 m 5 (l (.bool false))])
 (.seq (.region [m 9 (t 0),
 n 10 (t 9),
 f 11 3 (t 10),
 r 12 (t 11),
 m 13 (t 1),
 p 14 (.lookup (.int .i64 0) true (t 12) (t 13)),
 m 8 (t 14),
 p 15 (.extract (t 8) 0),
 p 16 (.extract (t 8) 1),
 m 6 (t 15),
 m 7 (t 16)])
 (.seq (.seq (.region [m 17 (t 7),
 p 18 (.not (t 17))])
 (.cond (t 18) (.seq (.region [p 19 (.build [(.int .i64 0), (.int .i64 0), (.int .i64 0), (.int .i64 0)] []),
 z (.store 4 (t 4) (t 19)),
 m 5 (l (.bool false))])
 (.ret))
 (.skip)))
 (.seq (.region [m 20 (t 0),
 m 21 (t 6),
 c 22 181 [(t 20), (t 21), (l (.bool true))],
 p 23 (.extract (t 22) 0),
 p 24 (.extract (t 22) 1),
 z (.store 4 (t 4) (t 23)),
 m 5 (t 24)])
 (.ret))))⟩
theorem cc168 : cFunc Tryz.prog methNames Tryz.f168 = some c168 := by kernel_rfl
/-- (*pantry/stripes.Stripes).Len -/
def c169 : AFunc := ⟨5, [.tmp 2],
  .seq (.region [m 2 (i 0)])
 (.seq (.region [m 3 (t 0),
 c 4 60 [(t 3), (l (.func (.func 191) #[] #[]))],
 m 2 (t 4)])
 (.ret))⟩
theorem cc169 : cFunc Tryz.prog methNames Tryz.f169 = some c169 := by kernel_rfl
/-- pantry/status.Finish -/
def c170 : AFunc := ⟨10, [.tmp 4],
  .seq (.region [m 4 (i 0)])
 (.seq (.seq (.region [m 5 (t 0)])
 (.block 0 (.seq (.block 2 (.seq (.block 1 (.seq (.seq (.seq (.region [p 7 (.bin .eql (t 5) (i 1)),
 m 6 (t 7)])
 (.cond (t 6) (.skip)
 (.region [p 8 (.bin .eql (t 5) (i 3)),
 m 6 (t 8)])))
 (.cond (t 6) (.exit 1)
 (.skip)))
 (.exit 2)))
 (.region [m 1 (l (.bool true))])))
 (.seq (.seq (.region [m 9 (t 1)])
 (.cond (t 9) (.seq (.region [m 4 (i 1)])
 (.ret))
 (.skip)))
 (.exit 0)))))
 (.seq (.region [m 4 (i 0)])
 (.ret)))⟩
theorem cc170 : cFunc Tryz.prog methNames Tryz.f170 = some c170 := by kernel_rfl
/-- slices.order2CmpFunc[pantry/api.Entry] -/
def c171 : AFunc := ⟨32, [.tmp 10, .tmp 11],
  .seq (.region [m 10 (i 0),
 m 11 (i 0)])
 (.seq (.seq (.draw [d (m 12 (t 4)),
 d (m 13 (t 0)),
 d (m 14 (t 2)),
 d (p 15 (.indexAddr 4 (t 13) (t 14))),
 d (p 16 (.load true 4 (t 15))),
 d (m 17 (t 0)),
 d (m 18 (t 1)),
 d (p 19 (.indexAddr 4 (t 17) (t 18))),
 d (p 20 (.load true 4 (t 19))),
 d (e 21 (.call (.value (t 12)) [(t 16), (t 20)])),
 d (p 22 (.bin .lss (t 21) (i 0)))])
 (.cond (t 22) (.seq (.region [m 23 (t 3),
 n 24 (t 23),
 r 25 (t 24),
 p 26 (.bin .add (t 25) (i 1)),
 n 27 (t 23),
 z (.store 1 (t 27) (t 26))])
 (.seq (.region [m 28 (t 2),
 m 29 (t 1),
 m 10 (t 28),
 m 11 (t 29)])
 (.ret)))
 (.skip)))
 (.seq (.region [m 30 (t 1),
 m 31 (t 2),
 m 10 (t 30),
 m 11 (t 31)])
 (.ret)))⟩
theorem cc171 : cFunc Tryz.prog methNames Tryz.f171 = some c171 := by kernel_rfl
/-- math/bits.RotateLeft64 -/
def c176 : AFunc := ⟨17, [.tmp 4],
  .seq (.region [m 4 (l (.int .u64 0))])
 (.seq (.region [m 6 (t 1),
 p 7 (.conv .u64 (t 6)),
 p 8 (.bin .and (t 7) (l (.int .u64 63))),
 m 5 (t 8)])
 (.seq (.region [m 9 (t 0),
 m 10 (t 5),
 p 11 (.bin .shl (t 9) (t 10)),
 m 12 (t 0),
 m 13 (t 5),
 p 14 (.bin .sub (l (.int .u64 64)) (t 13)),
 p 15 (.bin .shr (t 12) (t 14)),
 p 16 (.bin .or (t 11) (t 15)),
 m 4 (t 16)])
 (.ret)))⟩
theorem cc176 : cFunc Tryz.prog methNames Tryz.f176 = some c176 := by kernel_rfl
/-- (*pantry/shards.Map).of -/
def c177 : AFunc := ⟨14, [.tmp 4],
  .seq (.region [m 4 (l (.pointer none))])
 (.seq (.draw [d (m 9 (t 0)),
 d (m 10 (t 1)),
 d (c 11 99 [(t 9), (t 10)]),
 d (m 5 (t 0)),
 d (n 6 (t 5)),
 d (f 7 1 (t 6)),
 (r 8 (t 7), [3]),
 d (p 12 (.indexAddr 1 (t 8) (t 11))),
 d (r 13 (t 12)),
 d (m 4 (t 13))])
 (.ret))⟩
theorem cc177 : cFunc Tryz.prog methNames Tryz.f177 = some c177 := by kernel_rfl
/-- (*pantry/table.Table).Get -/
def c178 : AFunc := ⟨19, [.cell true 4 4, .tmp 5],
  .seq (.region [a 4 (.alloc [(.int .i64 0), (.int .i64 0), (.int .i64 0), (.int .i64 0)]),
 m 5 (l (.bool false))])
 (.seq (.region [m 7 (t 0),
 m 8 (t 1),
 c 9 194 [(t 7), (t 8)],
 n 10 (t 9),
 r 11 (t 10),
 m 6 (t 11)])
 (.seq (.seq (.region [m 12 (t 6),
 p 13 (.eqPtr false (t 12) (l (.pointer none)))])
 (.cond (t 13) (.seq (.region [p 14 (.build [(.int .i64 0), (.int .i64 0), (.int .i64 0), (.int .i64 0)] []),
 z (.store 4 (t 4) (t 14)),
 m 5 (l (.bool false))])
 (.ret))
 (.skip)))
 (.seq (.region [m 15 (t 6),
 n 16 (t 15),
 f 17 0 (t 16),
 p 18 (.load true 4 (t 17)),
 z (.store 4 (t 4) (t 18)),
 m 5 (l (.bool true))])
 (.ret))))⟩
theorem cc178 : cFunc Tryz.prog methNames Tryz.f178 = some c178 := by kernel_rfl
/-- (*pantry/table.Table).Put -/
def c179 : AFunc := ⟨44, [.cell true 4 4, .tmp 5],
  .seq (.region [a 3 (.box (t 1)),
 a 4 (.alloc [(.int .i64 0), (.int .i64 0), (.int .i64 0), (.int .i64 0)]),
 m 5 (l (.bool false))])
 (.seq (.region [m 9 (t 0),
 c 10 195 [(t 9)]])
 (.seq (.region [m 11 (t 0),
 f 12 0 (t 3),
 r 13 (t 12),
 c 14 194 [(t 11), (t 13)],
 m 6 (t 14)])
 (.seq (.seq (.region [m 15 (t 6),
 n 16 (t 15),
 r 17 (t 16),
 m 7 (t 17)])
 (.seq (.region [m 18 (t 7),
 p 19 (.eqPtr true (t 18) (l (.pointer none)))])
 (.cond (t 19) (.seq (.region [m 20 (t 7),
 n 21 (t 20),
 f 22 0 (t 21),
 p 23 (.load true 4 (t 22)),
 a 8 (.alloc [(.int .i64 0), (.int .i64 0), (.int .i64 0), (.int .i64 0)]),
 z (.store 4 (t 8) (t 23))])
 (.seq (.region [m 24 (t 7),
 p 25 (.load true 4 (t 3)),
 n 26 (t 24),
 f 27 0 (t 26),
 z (.store 4 (t 27) (t 25))])
 (.seq (.region [p 28 (.load true 4 (t 8)),
 z (.store 4 (t 4) (t 28)),
 m 5 (l (.bool true))])
 (.ret))))
 (.skip))))
 (.seq (.region [m 29 (t 6),
 p 30 (.load true 4 (t 3)),
 p 31 (.build [(.int .i64 0), (.int .i64 0), (.int .i64 0), (.int .i64 0), (.pointer none)] [(0, 4, (t 30))]),
 a 32 (.box (t 31)),
 n 33 (t 29),
 z (.store 1 (t 33) (t 32))])
 (.seq (.region [m 34 (t 0),
 n 35 (t 34),
 f 36 4 (t 35),
 r 37 (t 36),
 p 38 (.bin .add (t 37) (i 1)),
 n 39 (t 34),
 f 40 4 (t 39),
 z (.store 1 (t 40) (t 38))])
 (.seq (.region [m 41 (t 0),
 c 42 196 [(t 41)]])
 (.seq (.region [p 43 (.build [(.int .i64 0), (.int .i64 0), (.int .i64 0), (.int .i64 0)] []),
 z (.store 4 (t 4) (t 43)),
 m 5 (l (.bool false))])
 (.ret))))))))⟩
theorem cc179 : cFunc Tryz.prog methNames Tryz.f179 = some c179 := by kernel_rfl
/-- pantry/writes.heavy -/
def c180 : AFunc := ⟨7, [.tmp 2],
  .seq (.region [a 1 (.box (t 0)),
 m 2 (i 0)])
 (.seq (.region [f 3 3 (t 1),
 r 4 (t 3),
 p 5 (.max [(i 0), (t 4)]),
 p 6 (.min [(t 5), (i 2147483648)]),
 m 2 (t 6)])
 (.ret))⟩
theorem cc180 : cFunc Tryz.prog methNames Tryz.f180 = some c180 := by kernel_rfl
/-- (*pantry/shards.Map).away -/
def c181 : AFunc := ⟨44, [.cell true 4 6, .tmp 7],
  .seq (.region [a 6 (.alloc [(.int .i64 0), (.int .i64 0), (.int .i64 0), (.int .i64 0)]),
 m 7 (l (.bool false))])
 (.seq (.region [m 11 (t 0),
 m 12 (t 1),
 c 13 177 [(t 11), (t 12)],
 m 14 (t 1),
 c 15 197 [(t 13), (t 14)],
 m 10 (t 15),
 p 16 (.extract (t 10) 0),
 p 17 (.extract (t 10) 1),
 a 8 (.alloc [(.int .i64 0), (.int .i64 0), (.int .i64 0), (.int .i64 0)]),
 z (.store 4 (t 8) (t 16)),
 m 9 (t 17)])
 (.seq (.seq (.region [m 18 (t 9),
 p 19 (.not (t 18))])
 (.cond (t 19) (.seq (.region [p 20 (.build [(.int .i64 0), (.int .i64 0), (.int .i64 0), (.int .i64 0)] []),
 z (.store 4 (t 6) (t 20)),
 m 7 (l (.bool false))])
 (.ret))
 (.skip)))
 (.seq (.draw [d (m 21 (t 0)),
 d (n 22 (t 21)),
 d (f 23 3 (t 22)),
 d (r 24 (t 23)),
 d (f 25 3 (t 8)),
 d (r 26 (t 25)),
 d (z (.delete (t 24) (t 26)))])
 (.seq (.draw [d (m 27 (t 0)),
 d (n 28 (t 27)),
 d (f 29 4 (t 28)),
 d (r 30 (t 29)),
 d (f 31 3 (t 8)),
 d (r 32 (t 31)),
 d (m 33 (t 2)),
 d (z (.mapUpdate (t 30) (t 32) (t 33)))])
 (.seq (.draw [d (m 34 (t 0)),
 d (n 35 (t 34)),
 d (f 36 5 (t 35)),
 d (r 37 (t 36)),
 d (f 38 2 (t 8)),
 d (r 39 (t 38)),
 d (p 40 (.bin .sub (t 37) (t 39))),
 d (n 41 (t 34)),
 d (f 42 5 (t 41)),
 d (z (.store 1 (t 42) (t 40)))])
 (.seq (.region [p 43 (.load true 4 (t 8)),
 z (.store 4 (t 6) (t 43)),
 m 7 (l (.bool true))])
 (.ret)))))))⟩
theorem cc181 : cFunc Tryz.prog methNames Tryz.f181 = some c181 := by kernel_rfl
/-- (*pantry/policy.Policy).may -/
def c182 : AFunc := ⟨71, [.tmp 4],
  .seq (.region [a 3 (.box (t 1)),
 m 4 (i 0)])
 (.seq (.draw [d (m 9 (t 0)),
 d (n 10 (t 9)),
 d (f 11 4 (t 10)),
 d (r 12 (t 11)),
 d (f 13 1 (t 3)),
 d (r 14 (t 13)),
 d (p 15 (.lookup (.int .i64 0) true (t 12) (t 14))),
 d (m 8 (t 15)),
 d (p 16 (.extract (t 8) 0)),
 d (p 17 (.extract (t 8) 1)),
 d (m 5 (t 16)),
 d (m 6 (t 17))])
 (.seq (.block 0 (.seq (.region [f 19 0 (t 3),
 r 20 (t 19),
 p 21 (.bin .lss (t 20) (i 1)),
 m 22 (t 21),
 g 23 (.fieldAddr 0 (t 3)) 22 false,
 g 24 (.load false 1 (t 23)) 22 false,
 g 25 (.bin .gtr (t 24) (i 4)) 22 false,
 p 26 (.pick (t 22) (l (.bool true)) (t 25)),
 m 18 (t 26)])
 (.cond (t 18) (.seq (.region [m 4 (i 1)])
 (.ret))
 (.seq (.region [f 28 0 (t 3),
 r 29 (t 28),
 p 30 (.bin .eql (t 29) (i 1)),
 m 31 (t 30),
 g 32 (.fieldAddr 1 (t 3)) 31 true,
 g 33 (.load false 1 (t 32)) 31 true,
 g 34 (.bin .lss (t 33) (i 1)) 31 true,
 g 35 (.move (t 34)) 31 true,
 g 36 (.fieldAddr 1 (t 3)) 35 false,
 g 37 (.load false 1 (t 36)) 35 false,
 g 38 (.bin .gtr (t 37) (i 65536)) 35 false,
 g 39 (.pick (t 35) (l (.bool true)) (t 38)) 31 true,
 p 40 (.pick (t 31) (t 39) (l (.bool false))),
 m 27 (t 40)])
 (.cond (t 27) (.seq (.region [m 4 (i 1)])
 (.ret))
 (.seq (.region [f 42 0 (t 3),
 r 43 (t 42),
 p 44 (.bin .neq (t 43) (i 1)),
 m 45 (t 44),
 g 46 (.move (t 6)) 45 true,
 g 47 (.not (t 46)) 45 true,
 p 48 (.pick (t 45) (t 47) (l (.bool false))),
 m 41 (t 48)])
 (.cond (t 41) (.seq (.region [m 4 (i 3)])
 (.ret))
 (.seq (.region [f 50 0 (t 3),
 r 51 (t 50),
 p 52 (.bin .eql (t 51) (i 2)),
 m 53 (t 52),
 g 54 (.fieldAddr 0 (t 3)) 53 false,
 g 55 (.load false 1 (t 54)) 53 false,
 g 56 (.bin .eql (t 55) (i 4)) 53 false,
 p 57 (.pick (t 53) (l (.bool true)) (t 56)),
 m 49 (t 57)])
 (.cond (t 49) (.seq (.region [m 4 (i 0)])
 (.ret))
 (.skip))))))))))
 (.seq (.seq (.region [m 58 (t 0),
 f 59 3 (t 3),
 r 60 (t 59),
 c 61 198 [(t 58), (t 60)],
 m 7 (t 61)])
 (.seq (.region [m 62 (t 7),
 p 63 (.bin .neq (t 62) (i 0))])
 (.cond (t 63) (.seq (.region [m 64 (t 7),
 m 4 (t 64)])
 (.ret))
 (.skip))))
 (.seq (.seq (.region [f 65 0 (t 3),
 r 66 (t 65),
 p 67 (.bin .eql (t 66) (i 1)),
 m 68 (t 67),
 g 69 (.move (t 6)) 68 true,
 p 70 (.pick (t 68) (t 69) (l (.bool false)))])
 (.cond (t 70) (.seq (.region [m 4 (i 5)])
 (.ret))
 (.skip)))
 (.seq (.region [m 4 (i 0)])
 (.ret))))))⟩
theorem cc182 : cFunc Tryz.prog methNames Tryz.f182 = some c182 := by kernel_rfl
/-- (*pantry/filter.Filter).Record -/
def c183 : AFunc := ⟨44, [],
  .seq (.seq (.region [m 6 (t 0),
 n 7 (t 6),
 f 8 1 (t 7),
 r 9 (t 8),
 n 10 (t 9),
 f 11 0 (t 10),
 r 12 (t 11),
 m 13 (t 1),
 c 14 199 [(t 12), (t 13)],
 p 15 (.not (t 14))])
 (.cond (t 15) (.ret)
 (.skip)))
 (.seq (.region [m 17 (t 0),
 n 18 (t 17),
 f 19 0 (t 18),
 r 20 (t 19),
 n 21 (t 20),
 f 22 0 (t 21),
 r 23 (t 22),
 m 24 (t 1),
 c 25 200 [(t 23), (t 24)],
 m 16 (t 25),
 p 26 (.extract (t 16) 0),
 p 27 (.extract (t 16) 1),
 m 4 (t 26),
 m 5 (t 27)])
 (.seq (.region [m 28 (t 5)])
 (.cond (t 28) (.seq (.region [m 29 (t 0),
 n 30 (t 29),
 f 31 1 (t 30),
 r 32 (t 31),
 n 33 (t 32),
 f 34 0 (t 33),
 r 35 (t 34),
 c 36 201 [(t 35)]])
 (.region [m 37 (t 0),
 n 38 (t 37),
 f 39 2 (t 38),
 r 40 (t 39),
 p 41 (.bin .add (t 40) (i 1)),
 n 42 (t 37),
 f 43 2 (t 42),
 z (.store 1 (t 43) (t 41))]))
 (.skip))))⟩
theorem cc183 : cFunc Tryz.prog methNames Tryz.f183 = some c183 := by kernel_rfl
/-- (*pantry/policy.Policy).count -/
def c184 : AFunc := ⟨57, [],
  .seq (.region [m 6 (t 0),
 m 7 (t 0),
 n 8 (t 7),
 f 9 8 (t 8),
 p 10 (.load true 4 (t 9)),
 m 11 (t 1),
 c 12 202 [(t 10), (t 11)],
 n 13 (t 6),
 f 14 8 (t 13),
 z (.store 4 (t 14) (t 12))])
 (.seq (.seq (.draw [d (m 15 (t 0)),
 d (n 16 (t 15)),
 d (f 17 8 (t 16)),
 d (p 18 (.load true 4 (t 17))),
 d (m 19 (t 0)),
 d (n 20 (t 19)),
 d (f 21 1 (t 20)),
 d (r 22 (t 21)),
 d (c 23 203 [(t 18), (t 22)]),
 d (p 24 (.not (t 23)))])
 (.cond (t 24) (.ret)
 (.skip)))
 (.seq (.draw [d (m 26 (t 0)),
 d (n 27 (t 26)),
 d (f 28 8 (t 27)),
 d (p 29 (.load true 4 (t 28))),
 d (m 30 (t 0)),
 d (n 31 (t 30)),
 d (f 32 0 (t 31)),
 d (r 33 (t 32)),
 d (c 34 204 [(t 29), (t 33)]),
 d (m 25 (t 34)),
 d (p 35 (.extract (t 25) 0)),
 d (a 4 (.alloc [(.int .i64 0), (.int .i64 0), (.int .i64 0), (.int .i64 0)])),
 d (z (.store 4 (t 4) (t 35))),
 d (p 36 (.extract (t 25) 1)),
 d (m 5 (t 36))])
 (.seq (.draw [d (m 40 (t 0)),
 d (n 41 (t 40)),
 d (f 42 5 (t 41)),
 d (p 43 (.load true 3 (t 42))),
 d (m 44 (t 5)),
 d (c 45 205 [(t 43), (t 44)]),
 d (m 37 (t 0)),
 (p 39 (.load true 4 (t 4)), [1]),
 d (n 46 (t 37)),
 d (f 47 8 (t 46)),
 d (z (.store 4 (t 47) (t 39))),
 d (m 38 (t 0)),
 d (n 48 (t 38)),
 d (f 49 5 (t 48)),
 d (z (.store 3 (t 49) (t 45)))])
 (.region [m 50 (t 0),
 m 51 (t 0),
 n 52 (t 51),
 f 53 5 (t 52),
 f 54 2 (t 53),
 r 55 (t 54),
 c 56 206 [(t 50), (i 2), (t 55)]]))))⟩
theorem cc184 : cFunc Tryz.prog methNames Tryz.f184 = some c184 := by kernel_rfl
/-- (*pantry/deque.Lists).Push -/
def c185 : AFunc := ⟨45, [.tmp 8],
  .seq (.region [m 8 (i 0)])
 (.seq (.region [m 11 (t 0),
 m 12 (t 1),
 c 13 207 [(t 11), (t 12)],
 m 9 (t 13)])
 (.seq (.block 0 (.seq (.seq (.region [m 15 (t 9),
 p 16 (.eqPtr false (t 15) (l (.pointer none))),
 m 14 (t 16)])
 (.cond (t 14) (.skip)
 (.seq (.region [m 17 (t 2),
 p 18 (.bin .lss (t 17) (i 1)),
 m 14 (t 18)])
 (.cond (t 14) (.skip)
 (.seq (.region [m 19 (t 2),
 p 20 (.bin .gtr (t 19) (i 65536)),
 m 14 (t 20)])
 (.cond (t 14) (.skip)
 (.region [m 21 (t 3),
 c 22 208 [(t 21)],
 p 23 (.not (t 22)),
 m 14 (t 23)])))))))
 (.cond (t 14) (.seq (.region [m 8 (i 1)])
 (.ret))
 (.seq (.region [m 25 (t 0),
 n 26 (t 25),
 f 27 1 (t 26),
 r 28 (t 27),
 m 29 (t 2),
 p 30 (.lookup (.pointer none) false (t 28) (t 29)),
 p 31 (.eqPtr true (t 30) (l (.pointer none))),
 m 24 (t 31)])
 (.cond (t 24) (.seq (.region [m 8 (i 5)])
 (.ret))
 (.skip))))))
 (.seq (.region [m 32 (t 2),
 m 33 (t 3),
 p 34 (.build [(.int .i64 0), (.int .i64 0), (.pointer none), (.pointer none), (.pointer none)] [(0, 1, (t 32)), (1, 1, (t 33))]),
 a 35 (.box (t 34)),
 m 10 (t 35)])
 (.seq (.region [m 36 (t 0),
 n 37 (t 36),
 f 38 1 (t 37),
 r 39 (t 38),
 m 40 (t 2),
 m 41 (t 10),
 z (.mapUpdate (t 39) (t 40) (t 41))])
 (.seq (.region [m 42 (t 9),
 m 43 (t 10),
 c 44 209 [(t 42), (t 43)]])
 (.seq (.region [m 8 (i 0)])
 (.ret)))))))⟩
theorem cc185 : cFunc Tryz.prog methNames Tryz.f185 = some c185 := by kernel_rfl
/-- (*pantry/policy.Policy).settle -/
def c186 : AFunc := ⟨29, [.tmp 2],
  .seq (.region [m 2 (l (.slice none 0 0))])
 (.seq (.region [m 5 (t 0),
 m 6 (t 0),
 n 7 (t 6),
 f 8 5 (t 7),
 f 9 1 (t 8),
 r 10 (t 9),
 c 11 206 [(t 5), (i 0), (t 10)]])
 (.seq (.region [m 3 (l (.slice none 0 0))])
 (.seq (.block 0 (.loop (.seq (.seq (.draw [d (m 12 (t 0)),
 d (c 13 210 [(t 12)]),
 d (m 14 (t 0)),
 d (n 15 (t 14)),
 d (f 16 0 (t 15)),
 (r 17 (t 16), [3]),
 d (p 18 (.bin .gtr (t 13) (t 17)))])
 (.cond (t 18) (.skip)
 (.exit 0)))
 (.block 1 (.seq (.region [m 19 (t 0),
 c 20 211 [(t 19)],
 m 4 (t 20)])
 (.seq (.region [m 21 (t 0),
 m 22 (t 4),
 c 23 189 [(t 21), (t 22)]])
 (.region [m 24 (t 3),
 m 25 (t 4),
 a 26 (.buildSlice [(.int .i64 0)] 1 1 [(0, (t 25))]),
 e 27 (.append 1 8 (t 24) (t 26)),
 m 3 (t 27)])))))))
 (.seq (.region [m 28 (t 3),
 m 2 (t 28)])
 (.ret)))))⟩
theorem cc186 : cFunc Tryz.prog methNames Tryz.f186 = some c186 := by kernel_rfl
/-- (*pantry/deque.Lists).Reweigh -/
def c187 : AFunc := ⟨41, [.tmp 6],
  .seq (.region [m 6 (i 0)])
 (.seq (.region [m 8 (t 0),
 n 9 (t 8),
 f 10 1 (t 9),
 r 11 (t 10),
 m 12 (t 1),
 p 13 (.lookup (.pointer none) false (t 11) (t 12)),
 m 7 (t 13)])
 (.seq (.block 0 (.seq (.region [m 15 (t 7),
 p 16 (.eqPtr false (t 15) (l (.pointer none))),
 m 14 (t 16)])
 (.cond (t 14) (.seq (.region [m 6 (i 3)])
 (.ret))
 (.seq (.region [m 18 (t 2),
 c 19 208 [(t 18)],
 p 20 (.not (t 19)),
 m 17 (t 20)])
 (.cond (t 17) (.seq (.region [m 6 (i 1)])
 (.ret))
 (.skip))))))
 (.seq (.draw [d (m 21 (t 7)),
 d (n 22 (t 21)),
 d (f 23 2 (t 22)),
 d (r 24 (t 23)),
 d (n 25 (t 24)),
 d (f 26 6 (t 25)),
 d (r 27 (t 26)),
 d (m 28 (t 2)),
 d (m 29 (t 7)),
 d (n 30 (t 29)),
 d (f 31 1 (t 30)),
 d (r 32 (t 31)),
 d (p 33 (.bin .sub (t 28) (t 32))),
 d (p 34 (.bin .add (t 27) (t 33))),
 d (n 35 (t 24)),
 d (f 36 6 (t 35)),
 d (z (.store 1 (t 36) (t 34)))])
 (.seq (.region [m 37 (t 7),
 m 38 (t 2),
 n 39 (t 37),
 f 40 1 (t 39),
 z (.store 1 (t 40) (t 38))])
 (.seq (.region [m 6 (i 0)])
 (.ret))))))⟩
theorem cc187 : cFunc Tryz.prog methNames Tryz.f187 = some c187 := by kernel_rfl
/-- (*pantry/policy.Policy).read -/
def c188 : AFunc := ⟨50, [],
  .seq (.draw [d (m 6 (t 0)),
 d (n 7 (t 6)),
 d (f 8 2 (t 7)),
 d (r 9 (t 8)),
 d (m 10 (t 0)),
 d (n 11 (t 10)),
 d (f 12 4 (t 11)),
 d (r 13 (t 12)),
 d (m 14 (t 1)),
 d (p 15 (.lookup (.int .i64 0) false (t 13) (t 14))),
 d (c 16 183 [(t 9), (t 15)])])
 (.seq (.seq (.region [m 18 (t 0),
 n 19 (t 18),
 f 20 3 (t 19),
 r 21 (t 20),
 m 22 (t 1),
 c 23 212 [(t 21), (t 22)],
 m 17 (t 23),
 p 24 (.extract (t 17) 0),
 p 25 (.extract (t 17) 1),
 m 4 (t 24),
 m 5 (t 25)])
 (.seq (.region [m 26 (t 4),
 p 27 (.bin .eql (t 26) (i 1))])
 (.cond (t 27) (.seq (.region [m 28 (t 0),
 n 29 (t 28),
 f 30 3 (t 29),
 r 31 (t 30),
 m 32 (t 1),
 c 33 213 [(t 31), (t 32), (i 2)]])
 (.region [m 34 (t 0),
 m 35 (t 0),
 n 36 (t 35),
 f 37 5 (t 36),
 f 38 2 (t 37),
 r 39 (t 38),
 c 40 206 [(t 34), (i 2), (t 39)]]))
 (.region [m 41 (t 0),
 n 42 (t 41),
 f 43 3 (t 42),
 r 44 (t 43),
 m 45 (t 1),
 m 46 (t 4),
 c 47 213 [(t 44), (t 45), (t 46)]]))))
 (.region [m 48 (t 0),
 c 49 184 [(t 48), (l (.bool true))]]))⟩
theorem cc188 : cFunc Tryz.prog methNames Tryz.f188 = some c188 := by kernel_rfl
/-- (*pantry/policy.Policy).drop -/
def c189 : AFunc := ⟨15, [],
  .seq (.region [m 4 (t 0),
 n 5 (t 4),
 f 6 3 (t 5),
 r 7 (t 6),
 m 8 (t 1),
 c 9 214 [(t 7), (t 8)]])
 (.region [m 10 (t 0),
 n 11 (t 10),
 f 12 4 (t 11),
 r 13 (t 12),
 m 14 (t 1),
 z (.delete (t 13) (t 14))])⟩
theorem cc189 : cFunc Tryz.prog methNames Tryz.f189 = some c189 := by kernel_rfl
/-- (*pantry/shards.Map).State -/
def c190 : AFunc := ⟨32, [.tmp 4],
  .seq (.region [m 4 (i 0)])
 (.seq (.region [m 8 (t 0),
 n 9 (t 8),
 f 10 4 (t 9),
 r 11 (t 10),
 m 12 (t 1),
 p 13 (.lookup (.bool false) true (t 11) (t 12)),
 m 7 (t 13),
 p 14 (.extract (t 7) 0),
 p 15 (.extract (t 7) 1),
 m 5 (t 14),
 m 6 (t 15)])
 (.seq (.block 0 (.seq (.region [m 17 (t 1),
 p 18 (.bin .lss (t 17) (i 1)),
 m 19 (t 18),
 g 20 (.move (t 1)) 19 false,
 g 21 (.move (t 0)) 19 false,
 g 22 (.nilCheck (t 21)) 19 false,
 g 23 (.fieldAddr 2 (t 22)) 19 false,
 g 24 (.load false 1 (t 23)) 19 false,
 g 25 (.bin .gtr (t 20) (t 24)) 19 false,
 p 26 (.pick (t 19) (l (.bool true)) (t 25)),
 m 16 (t 26)])
 (.cond (t 16) (.seq (.region [m 4 (i 0)])
 (.ret))
 (.seq (.region [m 28 (t 6),
 p 29 (.not (t 28)),
 m 27 (t 29)])
 (.cond (t 27) (.seq (.region [m 4 (i 1)])
 (.ret))
 (.seq (.region [m 31 (t 5),
 m 30 (t 31)])
 (.cond (t 30) (.seq (.region [m 4 (i 3)])
 (.ret))
 (.skip))))))))
 (.seq (.region [m 4 (i 2)])
 (.ret))))⟩
theorem cc190 : cFunc Tryz.prog methNames Tryz.f190 = some c190 := by kernel_rfl
/-- (*pantry/stripes.Stripes).Len$1 -/
def c191 : AFunc := ⟨5, [.tmp 2],
  .seq (.region [m 2 (i 0)])
 (.seq (.region [m 3 (t 0),
 e 4 (.call (.invoke (t 3) 3) []),
 m 2 (t 4)])
 (.ret))⟩
theorem cc191 : cFunc Tryz.prog methNames Tryz.f191 = some c191 := by kernel_rfl
/-- (*pantry/table.Table).find -/
def c194 : AFunc := ⟨30, [.tmp 4],
  .seq (.region [m 4 (l (.pointer none))])
 (.seq (.region [m 6 (t 0),
 m 7 (t 1),
 c 8 215 [(t 6), (t 7)],
 m 5 (t 8)])
 (.seq (.block 0 (.loop (.seq (.seq (.region [m 9 (t 5),
 n 10 (t 9),
 r 11 (t 10),
 p 12 (.eqPtr true (t 11) (l (.pointer none))),
 m 13 (t 12),
 g 14 (.move (t 5)) 13 true,
 g 15 (.nilCheck (t 14)) 13 true,
 g 16 (.load false 1 (t 15)) 13 true,
 g 17 (.nilCheck (t 16)) 13 true,
 g 18 (.fieldAddr 0 (t 17)) 13 true,
 g 19 (.fieldAddr 0 (t 18)) 13 true,
 g 20 (.load false 1 (t 19)) 13 true,
 g 21 (.move (t 1)) 13 true,
 g 22 (.bin .neq (t 20) (t 21)) 13 true,
 p 23 (.pick (t 13) (t 22) (l (.bool false)))])
 (.cond (t 23) (.skip)
 (.exit 0)))
 (.block 1 (.region [m 24 (t 5),
 n 25 (t 24),
 r 26 (t 25),
 n 27 (t 26),
 f 28 4 (t 27),
 m 5 (t 28)])))))
 (.seq (.region [m 29 (t 5),
 m 4 (t 29)])
 (.ret))))⟩
theorem cc194 : cFunc Tryz.prog methNames Tryz.f194 = some c194 := by kernel_rfl
/-- (*pantry/table.Table).move -/
def c195 : AFunc := ⟨52, [],
  .seq (.seq (.region [m 4 (t 0),
 c 5 216 [(t 4)],
 p 6 (.bin .eql (t 5) (i 0))])
 (.cond (t 6) (.ret)
 (.skip)))
 (.seq (.draw [d (m 7 (t 0)),
 d (n 8 (t 7)),
 d (f 9 2 (t 8)),
 d (r 10 (t 9)),
 d (m 11 (t 0)),
 d (n 12 (t 11)),
 d (f 13 3 (t 12)),
 d (r 14 (t 13)),
 d (p 15 (.indexAddr 1 (t 10) (t 14))),
 d (r 16 (t 15)),
 d (m 2 (t 16))])
 (.seq (.region [m 17 (t 0),
 n 18 (t 17),
 f 19 3 (t 18),
 r 20 (t 19),
 p 21 (.bin .add (t 20) (i 1)),
 n 22 (t 17),
 f 23 3 (t 22),
 z (.store 1 (t 23) (t 21))])
 (.seq (.block 0 (.loop (.seq (.seq (.region [m 24 (t 2),
 p 25 (.eqPtr true (t 24) (l (.pointer none)))])
 (.cond (t 25) (.skip)
 (.exit 0)))
 (.block 1 (.seq (.region [m 26 (t 2),
 m 3 (t 26)])
 (.seq (.region [m 27 (t 3),
 m 28 (t 3),
 n 29 (t 28),
 f 30 4 (t 29),
 r 31 (t 30),
 m 2 (t 31),
 n 32 (t 27),
 f 33 4 (t 32),
 z (.store 1 (t 33) (l (.pointer none)))])
 (.region [m 34 (t 0),
 m 35 (t 3),
 n 36 (t 35),
 f 37 0 (t 36),
 f 38 0 (t 37),
 r 39 (t 38),
 c 40 194 [(t 34), (t 39)],
 m 41 (t 3),
 n 42 (t 40),
 z (.store 1 (t 42) (t 41))])))))))
 (.seq (.region [m 43 (t 0),
 c 44 216 [(t 43)],
 p 45 (.bin .eql (t 44) (i 0))])
 (.cond (t 45) (.region [m 46 (t 0),
 m 47 (t 0),
 n 48 (t 46),
 f 49 2 (t 48),
 z (.store 1 (t 49) (l (.slice none 0 0))),
 n 50 (t 47),
 f 51 3 (t 50),
 z (.store 1 (t 51) (i 0))])
 (.skip))))))⟩
theorem cc195 : cFunc Tryz.prog methNames Tryz.f195 = some c195 := by kernel_rfl
/-- (*pantry/table.Table).grow -/
def c196 : AFunc := ⟨37, [],
  .seq (.region [m 3 (t 0),
 n 4 (t 3),
 f 5 1 (t 4),
 r 6 (t 5),
 p 7 (.len false (t 6)),
 m 2 (t 7)])
 (.seq (.region [m 8 (t 0),
 c 9 216 [(t 8)],
 p 10 (.bin .eql (t 9) (i 0)),
 m 11 (t 10),
 g 12 (.move (t 0)) 11 true,
 g 13 (.nilCheck (t 12)) 11 true,
 g 14 (.fieldAddr 4 (t 13)) 11 true,
 g 15 (.load false 1 (t 14)) 11 true,
 g 16 (.move (t 2)) 11 true,
 g 17 (.bin .gtr (t 15) (t 16)) 11 true,
 p 18 (.pick (t 11) (t 17) (l (.bool false))),
 m 19 (t 18),
 g 20 (.move (t 2)) 19 true,
 g 21 (.bin .lss (t 20) (i 65536)) 19 true,
 p 22 (.pick (t 19) (t 21) (l (.bool false)))])
 (.cond (t 22) (.draw [d (m 23 (t 0)),
 d (m 25 (t 0)),
 d (n 26 (t 25)),
 d (f 27 1 (t 26)),
 d (r 28 (t 27)),
 d (n 33 (t 23)),
 d (f 34 2 (t 33)),
 d (z (.store 1 (t 34) (t 28))),
 d (m 24 (t 0)),
 d (m 29 (t 2)),
 d (m 30 (t 2)),
 d (p 31 (.bin .add (t 29) (t 30))),
 d (a 32 (.makeSlice [(.pointer none)] 8 (t 31) (t 31))),
 d (n 35 (t 24)),
 d (f 36 1 (t 35)),
 d (z (.store 1 (t 36) (t 32)))])
 (.skip)))⟩
theorem cc196 : cFunc Tryz.prog methNames Tryz.f196 = some c196 := by kernel_rfl
/-- (*pantry/table.Table).Remove -/
def c197 : AFunc := ⟨36, [.cell true 4 4, .tmp 5],
  .seq (.region [a 4 (.alloc [(.int .i64 0), (.int .i64 0), (.int .i64 0), (.int .i64 0)]),
 m 5 (l (.bool false))])
 (.seq (.region [m 8 (t 0),
 c 9 195 [(t 8)]])
 (.seq (.region [m 10 (t 0),
 m 11 (t 1),
 c 12 194 [(t 10), (t 11)],
 m 6 (t 12)])
 (.seq (.region [m 13 (t 6),
 n 14 (t 13),
 r 15 (t 14),
 m 7 (t 15)])
 (.seq (.seq (.region [m 16 (t 7),
 p 17 (.eqPtr false (t 16) (l (.pointer none)))])
 (.cond (t 17) (.seq (.region [p 18 (.build [(.int .i64 0), (.int .i64 0), (.int .i64 0), (.int .i64 0)] []),
 z (.store 4 (t 4) (t 18)),
 m 5 (l (.bool false))])
 (.ret))
 (.skip)))
 (.seq (.region [m 19 (t 6),
 m 20 (t 7),
 n 21 (t 20),
 f 22 4 (t 21),
 r 23 (t 22),
 n 24 (t 19),
 z (.store 1 (t 24) (t 23))])
 (.seq (.region [m 25 (t 0),
 n 26 (t 25),
 f 27 4 (t 26),
 r 28 (t 27),
 p 29 (.bin .sub (t 28) (i 1)),
 n 30 (t 25),
 f 31 4 (t 30),
 z (.store 1 (t 31) (t 29))])
 (.seq (.region [m 32 (t 7),
 n 33 (t 32),
 f 34 0 (t 33),
 p 35 (.load true 4 (t 34)),
 z (.store 4 (t 4) (t 35)),
 m 5 (l (.bool true))])
 (.ret))))))))⟩
theorem cc197 : cFunc Tryz.prog methNames Tryz.f197 = some c197 := by kernel_rfl
/-- (*pantry/policy.Policy).heavy -/
def c198 : AFunc := ⟨17, [.tmp 4],
  .seq (.region [m 4 (i 0)])
 (.seq (.block 0 (.seq (.region [m 6 (t 1),
 p 7 (.bin .lss (t 6) (i 0)),
 m 5 (t 7)])
 (.cond (t 5) (.seq (.region [m 4 (i 1)])
 (.ret))
 (.seq (.seq (.region [m 9 (t 1),
 p 10 (.bin .gtr (t 9) (i 2147483648)),
 m 8 (t 10)])
 (.cond (t 8) (.skip)
 (.region [m 11 (t 1),
 m 12 (t 0),
 n 13 (t 12),
 f 14 0 (t 13),
 r 15 (t 14),
 p 16 (.bin .gtr (t 11) (t 15)),
 m 8 (t 16)])))
 (.cond (t 8) (.seq (.region [m 4 (i 4)])
 (.ret))
 (.skip))))))
 (.seq (.region [m 4 (i 0)])
 (.ret)))⟩
theorem cc198 : cFunc Tryz.prog methNames Tryz.f198 = some c198 := by kernel_rfl
/-- (*pantry/door.Door).Put -/
def c199 : AFunc := ⟨36, [.tmp 4],
  .seq (.region [m 4 (l (.bool false))])
 (.seq (.region [m 9 (t 0),
 m 10 (t 1),
 c 11 217 [(t 9), (t 10)],
 m 5 (t 11)])
 (.seq (.region [m 12 (t 0),
 m 13 (t 5),
 c 14 218 [(t 12), (t 13)],
 m 6 (t 14)])
 (.seq (.seq (.region [m 15 (t 5),
 p 16 (.len false (t 15)),
 m 17 (i 0)])
 (.block 0 (.loop (.seq (.region [p 18 (.bin .lss (t 17) (t 16))])
 (.seq (.cond (t 18) (.skip)
 (.exit 0))
 (.seq (.block 1 (.seq (.region [p 19 (.indexAddr 1 (t 15) (t 17)),
 r 20 (t 19),
 m 8 (t 20)])
 (.draw [d (m 21 (t 0)),
 d (n 22 (t 21)),
 d (f 23 1 (t 22)),
 d (r 24 (t 23)),
 d (m 25 (t 8)),
 d (p 26 (.bin .quo (t 25) (i 64))),
 d (p 27 (.indexAddr 1 (t 24) (t 26))),
 d (r 28 (t 27)),
 d (m 29 (t 8)),
 d (p 30 (.bin .rem (t 29) (i 64))),
 d (p 31 (.bin .shl (l (.int .u64 1)) (t 30))),
 d (p 32 (.bin .or (t 28) (t 31))),
 d (p 33 (.indexAddr 1 (t 24) (t 26))),
 d (z (.store 1 (t 33) (t 32)))])))
 (.region [p 34 (.bin .add (t 17) (i 1)),
 m 17 (t 34)])))))))
 (.seq (.region [m 35 (t 6),
 m 4 (t 35)])
 (.ret)))))⟩
theorem cc199 : cFunc Tryz.prog methNames Tryz.f199 = some c199 := by kernel_rfl
/-- (*pantry/sketch.Sketch).Add -/
def c200 : AFunc := ⟨71, [.tmp 4, .tmp 5],
  .seq (.region [m 4 (l (.bool false)),
 m 5 (l (.bool false))])
 (.seq (.seq (.region [m 10 (t 0),
 m 11 (t 1),
 c 12 219 [(t 10), (t 11)],
 m 13 (i 0)])
 (.block 0 (.loop (.seq (.region [p 14 (.bin .lss (t 13) (i 4))])
 (.seq (.cond (t 14) (.skip)
 (.exit 0))
 (.seq (.block 1 (.seq (.region [m 15 (t 13),
 p 16 (.index false 4 1 (t 12) (t 13)),
 m 6 (t 15),
 m 7 (t 16)])
 (.seq (.region [m 18 (t 0),
 m 19 (t 6),
 n 20 (t 18),
 f 21 3 (t 20),
 p 22 (.indexAddrA 4 1 (t 21) (t 19)),
 r 23 (t 22),
 m 24 (t 7),
 p 25 (.bin .quo (t 24) (i 16)),
 p 26 (.indexAddr 1 (t 23) (t 25)),
 r 27 (t 26),
 m 28 (t 7),
 p 29 (.bin .rem (t 28) (i 16)),
 c 30 220 [(t 27), (t 29)],
 m 17 (t 30),
 p 31 (.extract (t 17) 0),
 p 32 (.extract (t 17) 1),
 m 8 (t 31),
 m 9 (t 32)])
 (.seq (.region [m 33 (t 0),
 m 34 (t 6),
 n 35 (t 33),
 f 36 3 (t 35),
 p 37 (.indexAddrA 4 1 (t 36) (t 34)),
 r 38 (t 37),
 m 39 (t 7),
 p 40 (.bin .quo (t 39) (i 16)),
 m 41 (t 8),
 p 42 (.indexAddr 1 (t 38) (t 40)),
 z (.store 1 (t 42) (t 41))])
 (.region [m 43 (t 4),
 m 44 (t 43),
 g 45 (.move (t 9)) 44 false,
 p 46 (.pick (t 44) (l (.bool true)) (t 45)),
 m 4 (t 46)])))))
 (.region [p 47 (.bin .add (t 13) (i 1)),
 m 13 (t 47)])))))))
 (.seq (.seq (.region [m 48 (t 4)])
 (.cond (t 48) (.seq (.region [m 49 (t 0),
 n 50 (t 49),
 f 51 2 (t 50),
 r 52 (t 51),
 p 53 (.bin .add (t 52) (i 1)),
 n 54 (t 49),
 f 55 2 (t 54),
 z (.store 1 (t 55) (t 53))])
 (.draw [d (m 56 (t 0)),
 d (n 57 (t 56)),
 d (f 58 2 (t 57)),
 d (r 59 (t 58)),
 d (m 60 (t 0)),
 d (n 61 (t 60)),
 d (f 62 0 (t 61)),
 d (r 63 (t 62)),
 d (p 64 (.bin .mul (i 10) (t 63))),
 d (p 65 (.bin .geq (t 59) (t 64))),
 d (m 5 (t 65))]))
 (.skip)))
 (.seq (.seq (.region [m 66 (t 5)])
 (.cond (t 66) (.region [m 67 (t 0),
 c 68 221 [(t 67)]])
 (.skip)))
 (.seq (.region [m 69 (t 4),
 m 70 (t 5),
 m 4 (t 69),
 m 5 (t 70)])
 (.ret)))))⟩
theorem cc200 : cFunc Tryz.prog methNames Tryz.f200 = some c200 := by kernel_rfl
/-- (*pantry/door.Door).Clear -/
def c201 : AFunc := ⟨6, [],
  .region [m 2 (t 0),
 n 3 (t 2),
 f 4 1 (t 3),
 r 5 (t 4),
 z (.clearS [(.int .u64 0)] (t 5))]⟩
theorem cc201 : cFunc Tryz.prog methNames Tryz.f201 = some c201 := by kernel_rfl
/-- pantry/climb.Count -/
def c202 : AFunc := ⟨18, [.cell true 4 4],
  .seq (.region [a 2 (.box (t 0)),
 a 4 (.alloc [(.int .i64 0), (.int .i64 0), (.int .i64 0), (.int .i64 0)])])
 (.seq (.region [p 5 (.load true 4 (t 2)),
 c 6 222 [(t 5)],
 z (.store 4 (t 2) (t 6))])
 (.seq (.seq (.region [m 7 (t 1)])
 (.cond (t 7) (.region [f 8 0 (t 2),
 r 9 (t 8),
 p 10 (.bin .add (t 9) (i 1)),
 f 11 0 (t 2),
 z (.store 1 (t 11) (t 10))])
 (.region [f 12 1 (t 2),
 r 13 (t 12),
 p 14 (.bin .add (t 13) (i 1)),
 f 15 1 (t 2),
 z (.store 1 (t 15) (t 14))])))
 (.seq (.region [p 16 (.load true 4 (t 2)),
 c 17 222 [(t 16)],
 z (.store 4 (t 4) (t 17))])
 (.ret))))⟩
theorem cc202 : cFunc Tryz.prog methNames Tryz.f202 = some c202 := by kernel_rfl
/-- pantry/climb.Due -/
def c203 : AFunc := ⟨18, [.tmp 4],
  .seq (.region [a 2 (.box (t 0)),
 m 4 (l (.bool false))])
 (.seq (.region [p 5 (.load true 4 (t 2)),
 c 6 222 [(t 5)],
 z (.store 4 (t 2) (t 6))])
 (.seq (.region [m 7 (t 1),
 p 8 (.bin .gtr (t 7) (i 0)),
 m 9 (t 8),
 g 10 (.fieldAddr 0 (t 2)) 9 true,
 g 11 (.load false 1 (t 10)) 9 true,
 g 12 (.fieldAddr 1 (t 2)) 9 true,
 g 13 (.load false 1 (t 12)) 9 true,
 g 14 (.bin .add (t 11) (t 13)) 9 true,
 g 15 (.move (t 1)) 9 true,
 g 16 (.bin .geq (t 14) (t 15)) 9 true,
 p 17 (.pick (t 9) (t 16) (l (.bool false))),
 m 4 (t 17)])
 (.ret)))⟩
theorem cc203 : cFunc Tryz.prog methNames Tryz.f203 = some c203 := by kernel_rfl
/-- pantry/climb.Turn -/
def c204 : AFunc := ⟨46, [.cell true 4 4, .tmp 5],
  .seq (.region [a 2 (.box (t 0)),
 a 4 (.alloc [(.int .i64 0), (.int .i64 0), (.int .i64 0), (.int .i64 0)]),
 m 5 (i 0)])
 (.seq (.region [p 8 (.load true 4 (t 2)),
 c 9 222 [(t 8)],
 z (.store 4 (t 2) (t 9))])
 (.seq (.region [p 10 (.load true 4 (t 2)),
 c 11 223 [(t 10)],
 m 6 (t 11)])
 (.seq (.region [f 12 3 (t 2),
 r 13 (t 12),
 m 5 (t 13)])
 (.seq (.seq (.region [m 14 (t 6),
 f 15 2 (t 2),
 r 16 (t 15),
 p 17 (.bin .lss (t 14) (t 16))])
 (.cond (t 17) (.region [m 18 (t 5),
 p 19 (.neg (t 18)),
 m 5 (t 19)])
 (.skip)))
 (.seq (.region [m 20 (t 6),
 m 21 (t 5),
 c 22 224 [(t 21)],
 p 23 (.build [(.int .i64 0), (.int .i64 0), (.int .i64 0), (.int .i64 0)] [(2, 1, (t 20)), (3, 1, (t 22))]),
 z (.store 4 (t 4) (t 23))])
 (.seq (.seq (.region [m 24 (t 6),
 f 25 2 (t 2),
 r 26 (t 25),
 p 27 (.bin .sub (t 24) (t 26)),
 m 7 (t 27)])
 (.seq (.region [m 28 (t 7),
 p 29 (.bin .geq (t 28) (i 3277)),
 m 30 (t 29),
 g 31 (.move (t 7)) 30 false,
 g 32 (.neg (t 31)) 30 false,
 g 33 (.bin .geq (t 32) (i 3277)) 30 false,
 p 34 (.pick (t 30) (l (.bool true)) (t 33))])
 (.cond (t 34) (.seq (.region [m 35 (t 1),
 c 36 92 [(t 35)],
 f 37 3 (t 4),
 z (.store 1 (t 37) (t 36))])
 (.seq (.region [m 38 (t 5),
 p 39 (.bin .lss (t 38) (i 0))])
 (.cond (t 39) (.region [f 40 3 (t 4),
 r 41 (t 40),
 p 42 (.neg (t 41)),
 f 43 3 (t 4),
 z (.store 1 (t 43) (t 42))])
 (.skip))))
 (.skip))))
 (.seq (.region [p 44 (.load true 4 (t 4)),
 m 45 (t 5),
 z (.store 4 (t 4) (t 44)),
 m 5 (t 45)])
 (.ret))))))))⟩
theorem cc204 : cFunc Tryz.prog methNames Tryz.f204 = some c204 := by kernel_rfl
/-- pantry/quota.Shift -/
def c205 : AFunc := ⟨34, [.cell true 3 4],
  .seq (.region [a 2 (.box (t 0)),
 a 4 (.alloc [(.int .i64 0), (.int .i64 0), (.int .i64 0)])])
 (.seq (.region [f 9 0 (t 2),
 r 10 (t 9),
 c 11 89 [(t 10), (i 0), (i 4611686018427387903)],
 m 5 (t 11)])
 (.seq (.region [m 13 (t 5),
 c 14 90 [(t 13)],
 m 12 (t 14),
 p 15 (.extract (t 12) 0),
 p 16 (.extract (t 12) 1),
 m 6 (t 15),
 m 7 (t 16)])
 (.seq (.region [f 17 1 (t 2),
 r 18 (t 17),
 m 19 (t 6),
 m 20 (t 7),
 c 21 89 [(t 18), (t 19), (t 20)],
 m 8 (t 21)])
 (.seq (.region [m 22 (t 5),
 m 23 (t 8),
 m 24 (t 1),
 m 25 (t 6),
 m 26 (t 8),
 p 27 (.bin .sub (t 25) (t 26)),
 m 28 (t 7),
 m 29 (t 8),
 p 30 (.bin .sub (t 28) (t 29)),
 c 31 89 [(t 24), (t 27), (t 30)],
 p 32 (.bin .add (t 23) (t 31)),
 c 33 91 [(t 22), (t 32)],
 z (.store 3 (t 4) (t 33))])
 (.ret)))))⟩
theorem cc205 : cFunc Tryz.prog methNames Tryz.f205 = some c205 := by kernel_rfl
/-- (*pantry/policy.Policy).pass -/
def c206 : AFunc := ⟨25, [],
  .block 0 (.loop (.seq (.seq (.region [m 6 (t 0),
 n 7 (t 6),
 f 8 3 (t 7),
 r 9 (t 8),
 m 10 (t 1),
 c 11 225 [(t 9), (t 10)],
 m 12 (t 2),
 p 13 (.bin .gtr (t 11) (t 12))])
 (.cond (t 13) (.skip)
 (.exit 0)))
 (.block 1 (.draw [d (m 18 (t 0)),
 d (n 19 (t 18)),
 d (f 20 3 (t 19)),
 d (r 21 (t 20)),
 d (m 22 (t 1)),
 d (c 23 226 [(t 21), (t 22)]),
 d (m 14 (t 0)),
 d (n 15 (t 14)),
 d (f 16 3 (t 15)),
 (r 17 (t 16), [3]),
 d (c 24 213 [(t 17), (t 23), (i 1)])]))))⟩
theorem cc206 : cFunc Tryz.prog methNames Tryz.f206 = some c206 := by kernel_rfl
/-- (*pantry/deque.Lists).row -/
def c207 : AFunc := ⟨23, [.tmp 4],
  .seq (.region [m 4 (l (.pointer none))])
 (.seq (.seq (.region [m 5 (t 1),
 p 6 (.bin .lss (t 5) (i 0)),
 m 7 (t 6),
 g 8 (.move (t 1)) 7 false,
 g 9 (.move (t 0)) 7 false,
 g 10 (.nilCheck (t 9)) 7 false,
 g 11 (.fieldAddr 0 (t 10)) 7 false,
 g 12 (.load false 1 (t 11)) 7 false,
 g 13 (.len false (t 12)) 7 false,
 g 14 (.bin .geq (t 8) (t 13)) 7 false,
 p 15 (.pick (t 7) (l (.bool true)) (t 14))])
 (.cond (t 15) (.seq (.region [m 4 (l (.pointer none))])
 (.ret))
 (.skip)))
 (.seq (.region [m 16 (t 0),
 n 17 (t 16),
 f 18 0 (t 17),
 r 19 (t 18),
 m 20 (t 1),
 p 21 (.indexAddr 1 (t 19) (t 20)),
 r 22 (t 21),
 m 4 (t 22)])
 (.ret)))⟩
theorem cc207 : cFunc Tryz.prog methNames Tryz.f207 = some c207 := by kernel_rfl
/-- pantry/deque.fine -/
def c208 : AFunc := ⟨9, [.tmp 2],
  .seq (.region [m 2 (l (.bool false))])
 (.seq (.region [m 3 (t 0),
 p 4 (.bin .geq (t 3) (i 0)),
 m 5 (t 4),
 g 6 (.move (t 0)) 5 true,
 g 7 (.bin .leq (t 6) (i 2147483648)) 5 true,
 p 8 (.pick (t 5) (t 7) (l (.bool false))),
 m 2 (t 8)])
 (.ret))⟩
theorem cc208 : cFunc Tryz.prog methNames Tryz.f208 = some c208 := by kernel_rfl
/-- (*pantry/deque.list).push -/
def c209 : AFunc := ⟨51, [],
  .seq (.region [m 5 (t 0),
 n 6 (t 5),
 f 7 0 (t 6),
 f 8 3 (t 7),
 r 9 (t 8),
 m 4 (t 9)])
 (.seq (.draw [d (m 10 (t 1)),
 d (m 13 (t 4)),
 d (n 18 (t 10)),
 d (f 19 3 (t 18)),
 d (z (.store 1 (t 19) (t 13))),
 d (m 11 (t 1)),
 d (m 14 (t 0)),
 d (n 15 (t 14)),
 d (f 16 0 (t 15)),
 d (n 20 (t 11)),
 d (f 21 4 (t 20)),
 d (z (.store 1 (t 21) (t 16))),
 d (m 12 (t 1)),
 d (m 17 (t 0)),
 d (n 22 (t 12)),
 d (f 23 2 (t 22)),
 d (z (.store 1 (t 23) (t 17)))])
 (.seq (.region [m 24 (t 4),
 m 25 (t 0),
 m 26 (t 1),
 m 27 (t 1),
 n 28 (t 24),
 f 29 4 (t 28),
 z (.store 1 (t 29) (t 26)),
 n 30 (t 25),
 f 31 0 (t 30),
 f 32 3 (t 31),
 z (.store 1 (t 32) (t 27))])
 (.seq (.draw [d (m 33 (t 0)),
 d (n 34 (t 33)),
 d (f 35 6 (t 34)),
 d (r 36 (t 35)),
 d (m 37 (t 1)),
 d (n 38 (t 37)),
 d (f 39 1 (t 38)),
 d (r 40 (t 39)),
 d (p 41 (.bin .add (t 36) (t 40))),
 d (n 42 (t 33)),
 d (f 43 6 (t 42)),
 d (z (.store 1 (t 43) (t 41)))])
 (.region [m 44 (t 0),
 n 45 (t 44),
 f 46 7 (t 45),
 r 47 (t 46),
 p 48 (.bin .add (t 47) (i 1)),
 n 49 (t 44),
 f 50 7 (t 49),
 z (.store 1 (t 50) (t 48))]))))⟩
theorem cc209 : cFunc Tryz.prog methNames Tryz.f209 = some c209 := by kernel_rfl
/-- (*pantry/policy.Policy).Weight -/
def c210 : AFunc := ⟨18, [.tmp 2],
  .seq (.region [m 2 (i 0)])
 (.seq (.region [m 3 (i 0)])
 (.seq (.seq (.region [m 5 (i 0)])
 (.block 0 (.loop (.seq (.region [p 6 (.bin .lss (t 5) (i 3))])
 (.seq (.cond (t 6) (.skip)
 (.exit 0))
 (.seq (.block 1 (.seq (.region [m 7 (t 5),
 m 4 (t 7)])
 (.region [m 8 (t 3),
 m 9 (t 0),
 n 10 (t 9),
 f 11 3 (t 10),
 r 12 (t 11),
 m 13 (t 4),
 c 14 225 [(t 12), (t 13)],
 p 15 (.bin .add (t 8) (t 14)),
 m 3 (t 15)])))
 (.region [p 16 (.bin .add (t 5) (i 1)),
 m 5 (t 16)])))))))
 (.seq (.region [m 17 (t 3),
 m 2 (t 17)])
 (.ret))))⟩
theorem cc210 : cFunc Tryz.prog methNames Tryz.f210 = some c210 := by kernel_rfl
/-- (*pantry/policy.Policy).next -/
def c211 : AFunc := ⟨62, [.tmp 2],
  .seq (.region [m 2 (i 0)])
 (.seq (.draw [d (m 5 (t 0)),
 d (n 6 (t 5)),
 d (f 7 3 (t 6)),
 d (r 8 (t 7)),
 d (c 9 226 [(t 8), (i 1)]),
 d (m 10 (t 0)),
 d (n 11 (t 10)),
 d (f 12 3 (t 11)),
 (r 13 (t 12), [3]),
 d (c 14 227 [(t 13), (i 1)]),
 d (m 3 (t 9)),
 d (m 4 (t 14))])
 (.seq (.block 0 (.seq (.region [m 16 (t 3),
 p 17 (.bin .eql (t 16) (i 0)),
 m 18 (t 17),
 g 19 (.move (t 0)) 18 true,
 g 20 (.nilCheck (t 19)) 18 true,
 g 21 (.fieldAddr 3 (t 20)) 18 true,
 g 22 (.load false 1 (t 21)) 18 true,
 ⟨(some 23), .e (.call (.value (l (.func (.func 228) #[] #[]))) [(t 22), (i 2)]), some (18, true)⟩,
 g 24 (.bin .gtr (t 23) (i 0)) 18 true,
 p 25 (.pick (t 18) (t 24) (l (.bool false))),
 m 15 (t 25)])
 (.cond (t 15) (.seq (.region [m 26 (t 0),
 n 27 (t 26),
 f 28 3 (t 27),
 r 29 (t 28),
 c 30 226 [(t 29), (i 2)],
 m 2 (t 30)])
 (.ret))
 (.seq (.region [m 32 (t 3),
 p 33 (.bin .eql (t 32) (i 0)),
 m 31 (t 33)])
 (.cond (t 31) (.seq (.region [m 34 (t 0),
 n 35 (t 34),
 f 36 3 (t 35),
 r 37 (t 36),
 c 38 226 [(t 37), (i 0)],
 m 2 (t 38)])
 (.ret))
 (.seq (.seq (.region [m 40 (t 3),
 m 41 (t 4),
 p 42 (.bin .eql (t 40) (t 41)),
 m 39 (t 42)])
 (.cond (t 39) (.skip)
 (.draw [d (m 43 (t 0)),
 d (n 44 (t 43)),
 d (f 45 2 (t 44)),
 d (r 46 (t 45)),
 d (m 47 (t 0)),
 d (n 48 (t 47)),
 d (f 49 4 (t 48)),
 d (r 50 (t 49)),
 d (m 51 (t 4)),
 d (p 52 (.lookup (.int .i64 0) false (t 50) (t 51))),
 d (m 53 (t 0)),
 d (n 54 (t 53)),
 d (f 55 4 (t 54)),
 d (r 56 (t 55)),
 d (m 57 (t 3)),
 d (p 58 (.lookup (.int .i64 0) false (t 56) (t 57))),
 d (c 59 229 [(t 46), (t 52), (t 58)]),
 d (m 39 (t 59))])))
 (.cond (t 39) (.seq (.region [m 60 (t 3),
 m 2 (t 60)])
 (.ret))
 (.skip))))))))
 (.seq (.region [m 61 (t 4),
 m 2 (t 61)])
 (.ret))))⟩
theorem cc211 : cFunc Tryz.prog methNames Tryz.f211 = some c211 := by kernel_rfl
/-- (*pantry/deque.Lists).Of -/
def c212 : AFunc := ⟨26, [.tmp 4, .tmp 5],
  .seq (.region [m 4 (i 0),
 m 5 (i 0)])
 (.seq (.region [m 7 (t 0),
 n 8 (t 7),
 f 9 1 (t 8),
 r 10 (t 9),
 m 11 (t 1),
 p 12 (.lookup (.pointer none) false (t 10) (t 11)),
 m 6 (t 12)])
 (.seq (.seq (.region [m 13 (t 6),
 p 14 (.eqPtr false (t 13) (l (.pointer none)))])
 (.cond (t 14) (.seq (.region [m 4 (i (-1)),
 m 5 (i 0)])
 (.ret))
 (.skip)))
 (.seq (.draw [d (m 15 (t 6)),
 d (n 16 (t 15)),
 d (f 17 2 (t 16)),
 d (r 18 (t 17)),
 d (n 19 (t 18)),
 d (f 20 5 (t 19)),
 d (r 21 (t 20)),
 d (m 22 (t 6)),
 d (n 23 (t 22)),
 d (f 24 1 (t 23)),
 d (r 25 (t 24)),
 d (m 4 (t 21)),
 d (m 5 (t 25))])
 (.ret))))⟩
theorem cc212 : cFunc Tryz.prog methNames Tryz.f212 = some c212 := by kernel_rfl
/-- (*pantry/deque.Lists).Move -/
def c213 : AFunc := ⟨29, [.tmp 6],
  .seq (.region [m 6 (i 0)])
 (.seq (.draw [d (m 15 (t 0)),
 d (m 16 (t 2)),
 d (c 17 207 [(t 15), (t 16)]),
 d (m 9 (t 0)),
 d (n 10 (t 9)),
 d (f 11 1 (t 10)),
 (r 12 (t 11), [3]),
 d (m 13 (t 1)),
 (p 14 (.lookup (.pointer none) false (t 12) (t 13)), [5]),
 d (m 7 (t 14)),
 d (m 8 (t 17))])
 (.seq (.block 0 (.seq (.region [m 19 (t 7),
 p 20 (.eqPtr false (t 19) (l (.pointer none))),
 m 18 (t 20)])
 (.cond (t 18) (.seq (.region [m 6 (i 3)])
 (.ret))
 (.seq (.region [m 22 (t 8),
 p 23 (.eqPtr false (t 22) (l (.pointer none))),
 m 21 (t 23)])
 (.cond (t 21) (.seq (.region [m 6 (i 1)])
 (.ret))
 (.skip))))))
 (.seq (.region [m 24 (t 7),
 c 25 230 [(t 24)]])
 (.seq (.region [m 26 (t 8),
 m 27 (t 7),
 c 28 209 [(t 26), (t 27)]])
 (.seq (.region [m 6 (i 0)])
 (.ret))))))⟩
theorem cc213 : cFunc Tryz.prog methNames Tryz.f213 = some c213 := by kernel_rfl
/-- (*pantry/deque.Lists).Unlink -/
def c214 : AFunc := ⟨21, [.tmp 4],
  .seq (.region [m 4 (i 0)])
 (.seq (.region [m 6 (t 0),
 n 7 (t 6),
 f 8 1 (t 7),
 r 9 (t 8),
 m 10 (t 1),
 p 11 (.lookup (.pointer none) false (t 9) (t 10)),
 m 5 (t 11)])
 (.seq (.seq (.region [m 12 (t 5),
 p 13 (.eqPtr false (t 12) (l (.pointer none)))])
 (.cond (t 13) (.seq (.region [m 4 (i 3)])
 (.ret))
 (.skip)))
 (.seq (.region [m 14 (t 5),
 c 15 230 [(t 14)]])
 (.seq (.region [m 16 (t 0),
 n 17 (t 16),
 f 18 1 (t 17),
 r 19 (t 18),
 m 20 (t 1),
 z (.delete (t 19) (t 20))])
 (.seq (.region [m 4 (i 0)])
 (.ret))))))⟩
theorem cc214 : cFunc Tryz.prog methNames Tryz.f214 = some c214 := by kernel_rfl
/-- (*pantry/table.Table).head -/
def c215 : AFunc := ⟨47, [.tmp 4],
  .seq (.region [m 4 (l (.pointer none))])
 (.seq (.region [m 7 (t 0),
 n 8 (t 7),
 f 9 0 (t 8),
 r 10 (t 9),
 m 11 (t 1),
 c 12 133 [(t 10), (t 11)],
 m 5 (t 12)])
 (.seq (.seq (.region [m 13 (t 0),
 c 14 216 [(t 13)],
 p 15 (.bin .gtr (t 14) (i 0))])
 (.cond (t 15) (.seq (.region [m 16 (t 5),
 m 17 (t 0),
 n 18 (t 17),
 f 19 2 (t 18),
 r 20 (t 19),
 p 21 (.len false (t 20)),
 c 22 132 [(t 16), (i 0), (t 21)],
 m 6 (t 22)])
 (.seq (.region [m 23 (t 6),
 m 24 (t 0),
 n 25 (t 24),
 f 26 3 (t 25),
 r 27 (t 26),
 p 28 (.bin .geq (t 23) (t 27))])
 (.cond (t 28) (.seq (.region [m 29 (t 0),
 n 30 (t 29),
 f 31 2 (t 30),
 r 32 (t 31),
 m 33 (t 6),
 p 34 (.indexAddr 1 (t 32) (t 33)),
 m 4 (t 34)])
 (.ret))
 (.skip))))
 (.skip)))
 (.seq (.draw [d (m 39 (t 5)),
 d (m 40 (t 0)),
 d (n 41 (t 40)),
 d (f 42 1 (t 41)),
 d (r 43 (t 42)),
 d (p 44 (.len false (t 43))),
 d (c 45 132 [(t 39), (i 0), (t 44)]),
 d (m 35 (t 0)),
 d (n 36 (t 35)),
 d (f 37 1 (t 36)),
 (r 38 (t 37), [3]),
 d (p 46 (.indexAddr 1 (t 38) (t 45))),
 d (m 4 (t 46))])
 (.ret))))⟩
theorem cc215 : cFunc Tryz.prog methNames Tryz.f215 = some c215 := by kernel_rfl
/-- (*pantry/table.Table).Left -/
def c216 : AFunc := ⟨13, [.tmp 2],
  .seq (.region [m 2 (i 0)])
 (.seq (.draw [d (m 3 (t 0)),
 d (n 4 (t 3)),
 d (f 5 2 (t 4)),
 d (r 6 (t 5)),
 d (p 7 (.len false (t 6))),
 d (m 8 (t 0)),
 d (n 9 (t 8)),
 d (f 10 3 (t 9)),
 d (r 11 (t 10)),
 d (p 12 (.bin .sub (t 7) (t 11))),
 d (m 2 (t 12))])
 (.ret))⟩
theorem cc216 : cFunc Tryz.prog methNames Tryz.f216 = some c216 := by kernel_rfl
end Go.Proofs.YtgnmjfnkibbnkaaGreatDoor

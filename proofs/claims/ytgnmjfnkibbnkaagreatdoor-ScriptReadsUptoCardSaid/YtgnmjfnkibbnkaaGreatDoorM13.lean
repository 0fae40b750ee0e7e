
import Derived.Test.YtgnmjfnkibbnkaaGreatDoorM11
import Derived.Test.YtgnmjfnkibbnkaaGreatDoorM12
set_option linter.unusedSimpArgs false
set_option linter.unusedVariables false
namespace Go.Proofs.YtgnmjfnkibbnkaaGreatDoor
open Go Go.Proofs.PantryEng Go.Proofs.PantryEng.Lt1
set_option maxRecDepth 100000
set_option maxHeartbeats 0
/-- (*pantry/door.Door).places -/
def c217 : AFunc := ⟨30, [.tmp 4],
  .seq (.region [m 4 (l (.slice none 0 0))])
 (.seq (.region [m 8 (t 0),
 n 9 (t 8),
 f 10 0 (t 9),
 r 11 (t 10),
 m 12 (t 1),
 c 13 133 [(t 11), (t 12)],
 m 5 (t 13)])
 (.seq (.region [a 14 (.makeSlice [(.int .i64 0)] 8 (i 2) (i 2)),
 m 6 (t 14)])
 (.seq (.seq (.region [m 15 (t 6),
 p 16 (.len false (t 15)),
 m 17 (i 0)])
 (.block 0 (.loop (.seq (.region [p 18 (.bin .lss (t 17) (t 16))])
 (.seq (.cond (t 18) (.skip)
 (.exit 0))
 (.seq (.block 1 (.seq (.region [m 19 (t 17),
 m 7 (t 19)])
 (.region [m 20 (t 6),
 m 21 (t 7),
 m 22 (t 5),
 m 23 (t 7),
 m 24 (t 0),
 c 25 231 [(t 24)],
 c 26 132 [(t 22), (t 23), (t 25)],
 p 27 (.indexAddr 1 (t 20) (t 21)),
 z (.store 1 (t 27) (t 26))])))
 (.region [p 28 (.bin .add (t 17) (i 1)),
 m 17 (t 28)])))))))
 (.seq (.region [m 29 (t 6),
 m 4 (t 29)])
 (.ret)))))⟩
theorem cc217 : cFunc Tryz.prog methNames Tryz.f217 = some c217 := by kernel_rfl
/-- (*pantry/door.Door).on -/
def c218 : AFunc := ⟨27, [.tmp 4],
  .seq (.region [m 4 (l (.bool false))])
 (.seq (.seq (.region [m 7 (t 1),
 p 8 (.len false (t 7)),
 m 9 (i 0)])
 (.block 0 (.loop (.seq (.region [p 10 (.bin .lss (t 9) (t 8))])
 (.seq (.cond (t 10) (.skip)
 (.exit 0))
 (.seq (.block 1 (.seq (.region [p 11 (.indexAddr 1 (t 7) (t 9)),
 r 12 (t 11),
 m 6 (t 12)])
 (.seq (.region [m 13 (t 0),
 n 14 (t 13),
 f 15 1 (t 14),
 r 16 (t 15),
 m 17 (t 6),
 p 18 (.bin .quo (t 17) (i 64)),
 p 19 (.indexAddr 1 (t 16) (t 18)),
 r 20 (t 19),
 m 21 (t 6),
 p 22 (.bin .rem (t 21) (i 64)),
 p 23 (.bin .shr (t 20) (t 22)),
 p 24 (.bin .and (t 23) (l (.int .u64 1))),
 p 25 (.bin .eql (t 24) (l (.int .u64 0)))])
 (.cond (t 25) (.seq (.region [m 4 (l (.bool false))])
 (.ret))
 (.skip)))))
 (.region [p 26 (.bin .add (t 9) (i 1)),
 m 9 (t 26)])))))))
 (.seq (.region [m 4 (l (.bool true))])
 (.ret)))⟩
theorem cc218 : cFunc Tryz.prog methNames Tryz.f218 = some c218 := by kernel_rfl
/-- (*pantry/sketch.Sketch).places -/
def c219 : AFunc := ⟨27, [.cell true 4 4],
  .seq (.region [a 4 (.alloc [(.int .i64 0), (.int .i64 0), (.int .i64 0), (.int .i64 0)])])
 (.seq (.region [m 7 (t 0),
 n 8 (t 7),
 f 9 1 (t 8),
 r 10 (t 9),
 m 11 (t 1),
 c 12 133 [(t 10), (t 11)],
 m 5 (t 12)])
 (.seq (.seq (.region [m 13 (i 0)])
 (.block 0 (.loop (.seq (.region [p 14 (.bin .lss (t 13) (i 4))])
 (.seq (.cond (t 14) (.skip)
 (.exit 0))
 (.seq (.block 1 (.seq (.region [m 15 (t 13),
 m 6 (t 15)])
 (.region [m 16 (t 6),
 m 17 (t 5),
 m 18 (t 6),
 m 19 (t 0),
 n 20 (t 19),
 f 21 0 (t 20),
 r 22 (t 21),
 c 23 132 [(t 17), (t 18), (t 22)],
 p 24 (.indexAddrA 4 1 (t 4) (t 16)),
 z (.store 1 (t 24) (t 23))])))
 (.region [p 25 (.bin .add (t 13) (i 1)),
 m 13 (t 25)])))))))
 (.seq (.region [p 26 (.load true 4 (t 4)),
 z (.store 4 (t 4) (t 26))])
 (.ret))))⟩
theorem cc219 : cFunc Tryz.prog methNames Tryz.f219 = some c219 := by kernel_rfl
/-- pantry/nibble.Inc -/
def c220 : AFunc := ⟨26, [.tmp 4, .tmp 5],
  .seq (.region [m 4 (l (.int .u64 0)),
 m 5 (l (.bool false))])
 (.seq (.region [m 9 (t 1),
 c 10 232 [(t 9)],
 m 8 (t 10),
 p 11 (.extract (t 8) 0),
 p 12 (.extract (t 8) 1),
 m 6 (t 11),
 m 7 (t 12)])
 (.seq (.seq (.region [m 13 (t 7),
 p 14 (.not (t 13)),
 m 15 (t 14),
 g 16 (.move (t 0)) 15 false,
 g 17 (.move (t 1)) 15 false,
 ⟨(some 18), .e (.call (.value (l (.func (.func 233) #[] #[]))) [(t 16), (t 17)]), some (15, false)⟩,
 g 19 (.bin .eql (t 18) (i 15)) 15 false,
 p 20 (.pick (t 15) (l (.bool true)) (t 19))])
 (.cond (t 20) (.seq (.region [m 21 (t 0),
 m 4 (t 21),
 m 5 (l (.bool false))])
 (.ret))
 (.skip)))
 (.seq (.region [m 22 (t 0),
 m 23 (t 6),
 p 24 (.bin .shl (l (.int .u64 1)) (t 23)),
 p 25 (.bin .add (t 22) (t 24)),
 m 4 (t 25),
 m 5 (l (.bool true))])
 (.ret))))⟩
theorem cc220 : cFunc Tryz.prog methNames Tryz.f220 = some c220 := by kernel_rfl
/-- (*pantry/sketch.Sketch).Halve -/
def c221 : AFunc := ⟨34, [],
  .seq (.seq (.region [m 6 (t 0),
 n 7 (t 6),
 f 8 3 (t 7),
 p 9 (.load true 4 (t 8)),
 m 10 (i 0)])
 (.block 0 (.loop (.seq (.region [p 11 (.bin .lss (t 10) (i 4))])
 (.seq (.cond (t 11) (.skip)
 (.exit 0))
 (.seq (.block 1 (.seq (.region [p 12 (.index false 4 1 (t 9) (t 10)),
 m 3 (t 12)])
 (.seq (.region [m 13 (t 3),
 p 14 (.len false (t 13)),
 m 15 (i 0)])
 (.block 2 (.loop (.seq (.region [p 16 (.bin .lss (t 15) (t 14))])
 (.seq (.cond (t 16) (.skip)
 (.exit 2))
 (.seq (.block 3 (.seq (.region [m 17 (t 15),
 p 18 (.indexAddr 1 (t 13) (t 15)),
 r 19 (t 18),
 m 4 (t 17),
 m 5 (t 19)])
 (.region [m 20 (t 3),
 m 21 (t 4),
 m 22 (t 5),
 c 23 234 [(t 22)],
 p 24 (.indexAddr 1 (t 20) (t 21)),
 z (.store 1 (t 24) (t 23))])))
 (.region [p 25 (.bin .add (t 15) (i 1)),
 m 15 (t 25)])))))))))
 (.region [p 26 (.bin .add (t 10) (i 1)),
 m 10 (t 26)])))))))
 (.region [m 27 (t 0),
 n 28 (t 27),
 f 29 2 (t 28),
 r 30 (t 29),
 p 31 (.bin .quo (t 30) (i 2)),
 n 32 (t 27),
 f 33 2 (t 32),
 z (.store 1 (t 33) (t 31))])⟩
theorem cc221 : cFunc Tryz.prog methNames Tryz.f221 = some c221 := by kernel_rfl
/-- pantry/climb.fit -/
def c222 : AFunc := ⟨17, [.cell true 4 2],
  .seq (.region [a 1 (.box (t 0)),
 a 2 (.alloc [(.int .i64 0), (.int .i64 0), (.int .i64 0), (.int .i64 0)])])
 (.seq (.region [m 3 (l (.func (.func 235) #[] #[]))])
 (.seq (.region [m 4 (t 3),
 f 5 0 (t 1),
 e 6 (.call (.value (t 4)) [(t 5), (i 0), (i 1099511627776)])])
 (.seq (.region [m 7 (t 3),
 f 8 1 (t 1),
 e 9 (.call (.value (t 7)) [(t 8), (i 0), (i 1099511627776)])])
 (.seq (.region [m 10 (t 3),
 f 11 2 (t 1),
 e 12 (.call (.value (t 10)) [(t 11), (i 0), (i 65536)])])
 (.seq (.region [m 13 (t 3),
 f 14 3 (t 1),
 e 15 (.call (.value (t 13)) [(t 14), (i (-4611686018427387903)), (i 4611686018427387903)])])
 (.seq (.region [p 16 (.load true 4 (t 1)),
 z (.store 4 (t 2) (t 16))])
 (.ret)))))))⟩
theorem cc222 : cFunc Tryz.prog methNames Tryz.f222 = some c222 := by kernel_rfl
/-- pantry/climb.Rate -/
def c223 : AFunc := ⟨17, [.tmp 2],
  .seq (.region [a 1 (.box (t 0)),
 m 2 (i 0)])
 (.seq (.region [p 3 (.load true 4 (t 1)),
 c 4 222 [(t 3)],
 z (.store 4 (t 1) (t 4))])
 (.seq (.seq (.region [f 5 0 (t 1),
 r 6 (t 5),
 p 7 (.bin .eql (t 6) (i 0))])
 (.cond (t 7) (.seq (.region [m 2 (i 0)])
 (.ret))
 (.skip)))
 (.seq (.region [f 8 0 (t 1),
 r 9 (t 8),
 p 10 (.bin .mul (t 9) (i 65536)),
 f 11 0 (t 1),
 r 12 (t 11),
 f 13 1 (t 1),
 r 14 (t 13),
 p 15 (.bin .add (t 12) (t 14)),
 p 16 (.bin .quo (t 10) (t 15)),
 m 2 (t 16)])
 (.ret))))⟩
theorem cc223 : cFunc Tryz.prog methNames Tryz.f223 = some c223 := by kernel_rfl
/-- pantry/climb.kept -/
def c224 : AFunc := ⟨11, [.tmp 2],
  .seq (.region [m 2 (i 0)])
 (.seq (.region [m 3 (t 0),
 p 4 (.bin .quo (t 3) (i 100)),
 p 5 (.bin .mul (t 4) (i 98)),
 m 6 (t 0),
 p 7 (.bin .rem (t 6) (i 100)),
 p 8 (.bin .mul (t 7) (i 98)),
 p 9 (.bin .quo (t 8) (i 100)),
 p 10 (.bin .add (t 5) (t 9)),
 m 2 (t 10)])
 (.ret))⟩
theorem cc224 : cFunc Tryz.prog methNames Tryz.f224 = some c224 := by kernel_rfl
/-- (*pantry/deque.Lists).Weight -/
def c225 : AFunc := ⟨15, [.tmp 4],
  .seq (.region [m 4 (i 0)])
 (.seq (.region [m 6 (t 0),
 m 7 (t 1),
 c 8 207 [(t 6), (t 7)],
 m 5 (t 8)])
 (.seq (.seq (.region [m 9 (t 5),
 p 10 (.eqPtr false (t 9) (l (.pointer none)))])
 (.cond (t 10) (.seq (.region [m 4 (i 0)])
 (.ret))
 (.skip)))
 (.seq (.region [m 11 (t 5),
 n 12 (t 11),
 f 13 6 (t 12),
 r 14 (t 13),
 m 4 (t 14)])
 (.ret))))⟩
theorem cc225 : cFunc Tryz.prog methNames Tryz.f225 = some c225 := by kernel_rfl
/-- (*pantry/deque.Lists).Front -/
def c226 : AFunc := ⟨19, [.tmp 4],
  .seq (.region [m 4 (i 0)])
 (.seq (.region [m 6 (t 0),
 m 7 (t 1),
 c 8 207 [(t 6), (t 7)],
 m 5 (t 8)])
 (.seq (.seq (.region [m 9 (t 5),
 p 10 (.eqPtr false (t 9) (l (.pointer none)))])
 (.cond (t 10) (.seq (.region [m 4 (i 0)])
 (.ret))
 (.skip)))
 (.seq (.region [m 11 (t 5),
 n 12 (t 11),
 f 13 0 (t 12),
 f 14 4 (t 13),
 r 15 (t 14),
 n 16 (t 15),
 f 17 0 (t 16),
 r 18 (t 17),
 m 4 (t 18)])
 (.ret))))⟩
theorem cc226 : cFunc Tryz.prog methNames Tryz.f226 = some c226 := by kernel_rfl
/-- (*pantry/deque.Lists).Back -/
def c227 : AFunc := ⟨19, [.tmp 4],
  .seq (.region [m 4 (i 0)])
 (.seq (.region [m 6 (t 0),
 m 7 (t 1),
 c 8 207 [(t 6), (t 7)],
 m 5 (t 8)])
 (.seq (.seq (.region [m 9 (t 5),
 p 10 (.eqPtr false (t 9) (l (.pointer none)))])
 (.cond (t 10) (.seq (.region [m 4 (i 0)])
 (.ret))
 (.skip)))
 (.seq (.region [m 11 (t 5),
 n 12 (t 11),
 f 13 0 (t 12),
 f 14 3 (t 13),
 r 15 (t 14),
 n 16 (t 15),
 f 17 0 (t 16),
 r 18 (t 17),
 m 4 (t 18)])
 (.ret))))⟩
theorem cc227 : cFunc Tryz.prog methNames Tryz.f227 = some c227 := by kernel_rfl
/-- (*pantry/deque.Lists).Len -/
def c228 : AFunc := ⟨15, [.tmp 4],
  .seq (.region [m 4 (i 0)])
 (.seq (.region [m 6 (t 0),
 m 7 (t 1),
 c 8 207 [(t 6), (t 7)],
 m 5 (t 8)])
 (.seq (.seq (.region [m 9 (t 5),
 p 10 (.eqPtr false (t 9) (l (.pointer none)))])
 (.cond (t 10) (.seq (.region [m 4 (i 0)])
 (.ret))
 (.skip)))
 (.seq (.region [m 11 (t 5),
 n 12 (t 11),
 f 13 7 (t 12),
 r 14 (t 13),
 m 4 (t 14)])
 (.ret))))⟩
theorem cc228 : cFunc Tryz.prog methNames Tryz.f228 = some c228 := by kernel_rfl
/-- (*pantry/filter.Filter).Better -/
def c229 : AFunc := ⟨14, [.tmp 6],
  .seq (.region [m 6 (l (.bool false))])
 (.seq (.region [m 7 (t 0),
 m 8 (t 1),
 c 9 236 [(t 7), (t 8)],
 m 10 (t 0),
 m 11 (t 2),
 c 12 236 [(t 10), (t 11)],
 p 13 (.bin .gtr (t 9) (t 12)),
 m 6 (t 13)])
 (.ret))⟩
theorem cc229 : cFunc Tryz.prog methNames Tryz.f229 = some c229 := by kernel_rfl
/-- (*pantry/deque.element).unlink -/
def c230 : AFunc := ⟨46, [],
  .seq (.draw [d (m 2 (t 0)),
 d (n 3 (t 2)),
 d (f 4 3 (t 3)),
 d (r 5 (t 4)),
 d (m 6 (t 0)),
 d (n 7 (t 6)),
 d (f 8 4 (t 7)),
 d (r 9 (t 8)),
 d (m 10 (t 0)),
 d (n 11 (t 10)),
 d (f 12 4 (t 11)),
 d (r 13 (t 12)),
 d (m 14 (t 0)),
 d (n 15 (t 14)),
 d (f 16 3 (t 15)),
 d (r 17 (t 16)),
 d (n 18 (t 5)),
 d (f 19 4 (t 18)),
 d (z (.store 1 (t 19) (t 13))),
 d (n 20 (t 9)),
 d (f 21 3 (t 20)),
 d (z (.store 1 (t 21) (t 17)))])
 (.seq (.draw [d (m 22 (t 0)),
 d (n 23 (t 22)),
 d (f 24 2 (t 23)),
 d (r 25 (t 24)),
 d (n 26 (t 25)),
 d (f 27 6 (t 26)),
 d (r 28 (t 27)),
 d (m 29 (t 0)),
 d (n 30 (t 29)),
 d (f 31 1 (t 30)),
 d (r 32 (t 31)),
 d (p 33 (.bin .sub (t 28) (t 32))),
 d (n 34 (t 25)),
 d (f 35 6 (t 34)),
 d (z (.store 1 (t 35) (t 33)))])
 (.region [m 36 (t 0),
 n 37 (t 36),
 f 38 2 (t 37),
 r 39 (t 38),
 n 40 (t 39),
 f 41 7 (t 40),
 r 42 (t 41),
 p 43 (.bin .sub (t 42) (i 1)),
 n 44 (t 39),
 f 45 7 (t 44),
 z (.store 1 (t 45) (t 43))]))⟩
theorem cc230 : cFunc Tryz.prog methNames Tryz.f230 = some c230 := by kernel_rfl
/-- (*pantry/door.Door).Size -/
def c231 : AFunc := ⟨9, [.tmp 2],
  .seq (.region [m 2 (i 0)])
 (.seq (.region [m 3 (t 0),
 n 4 (t 3),
 f 5 1 (t 4),
 r 6 (t 5),
 p 7 (.len false (t 6)),
 p 8 (.bin .mul (i 64) (t 7)),
 m 2 (t 8)])
 (.ret))⟩
theorem cc231 : cFunc Tryz.prog methNames Tryz.f231 = some c231 := by kernel_rfl
/-- pantry/nibble.place -/
def c232 : AFunc := ⟨12, [.tmp 2, .tmp 3],
  .seq (.region [m 2 (i 0),
 m 3 (l (.bool false))])
 (.seq (.region [m 4 (t 0),
 p 5 (.bin .mul (i 4) (t 4)),
 m 6 (t 0),
 p 7 (.bin .geq (t 6) (i 0)),
 m 8 (t 7),
 g 9 (.move (t 0)) 8 true,
 g 10 (.bin .lss (t 9) (i 16)) 8 true,
 p 11 (.pick (t 8) (t 10) (l (.bool false))),
 m 2 (t 5),
 m 3 (t 11)])
 (.ret))⟩
theorem cc232 : cFunc Tryz.prog methNames Tryz.f232 = some c232 := by kernel_rfl
/-- pantry/nibble.Get -/
def c233 : AFunc := ⟨19, [.tmp 4],
  .seq (.region [m 4 (i 0)])
 (.seq (.region [m 8 (t 1),
 c 9 232 [(t 8)],
 m 7 (t 9),
 p 10 (.extract (t 7) 0),
 p 11 (.extract (t 7) 1),
 m 5 (t 10),
 m 6 (t 11)])
 (.seq (.seq (.region [m 12 (t 6),
 p 13 (.not (t 12))])
 (.cond (t 13) (.seq (.region [m 4 (i 0)])
 (.ret))
 (.skip)))
 (.seq (.region [m 14 (t 0),
 m 15 (t 5),
 p 16 (.bin .shr (t 14) (t 15)),
 p 17 (.bin .and (t 16) (l (.int .u64 15))),
 p 18 (.conv .i64 (t 17)),
 m 4 (t 18)])
 (.ret))))⟩
theorem cc233 : cFunc Tryz.prog methNames Tryz.f233 = some c233 := by kernel_rfl
/-- pantry/nibble.Halve -/
def c234 : AFunc := ⟨6, [.tmp 2],
  .seq (.region [m 2 (l (.int .u64 0))])
 (.seq (.region [m 3 (t 0),
 p 4 (.bin .shr (t 3) (l (.int .u64 1))),
 p 5 (.bin .and (t 4) (l (.int .u64 8608480567731124087))),
 m 2 (t 5)])
 (.ret))⟩
theorem cc234 : cFunc Tryz.prog methNames Tryz.f234 = some c234 := by kernel_rfl
/-- pantry/climb.fit$1 -/
def c235 : AFunc := ⟨15, [],
  .region [m 6 (t 0),
 m 7 (t 0),
 n 8 (t 7),
 r 9 (t 8),
 m 10 (t 1),
 p 11 (.max [(t 9), (t 10)]),
 m 12 (t 2),
 p 13 (.min [(t 11), (t 12)]),
 n 14 (t 6),
 z (.store 1 (t 14) (t 13))]⟩
theorem cc235 : cFunc Tryz.prog methNames Tryz.f235 = some c235 := by kernel_rfl
/-- (*pantry/filter.Filter).Often -/
def c236 : AFunc := ⟨27, [.tmp 4],
  .seq (.region [m 4 (i 0)])
 (.seq (.region [m 6 (t 0),
 n 7 (t 6),
 f 8 0 (t 7),
 r 9 (t 8),
 n 10 (t 9),
 f 11 0 (t 10),
 r 12 (t 11),
 m 13 (t 1),
 c 14 237 [(t 12), (t 13)],
 m 5 (t 14)])
 (.seq (.seq (.region [m 15 (t 0),
 n 16 (t 15),
 f 17 1 (t 16),
 r 18 (t 17),
 n 19 (t 18),
 f 20 0 (t 19),
 r 21 (t 20),
 m 22 (t 1),
 c 23 238 [(t 21), (t 22)]])
 (.cond (t 23) (.region [m 24 (t 5),
 p 25 (.bin .add (t 24) (i 1)),
 m 5 (t 25)])
 (.skip)))
 (.seq (.region [m 26 (t 5),
 m 4 (t 26)])
 (.ret))))⟩
theorem cc236 : cFunc Tryz.prog methNames Tryz.f236 = some c236 := by kernel_rfl
/-- (*pantry/sketch.Sketch).Count -/
def c237 : AFunc := ⟨32, [.tmp 4],
  .seq (.region [m 4 (i 0)])
 (.seq (.region [m 5 (i 16)])
 (.seq (.seq (.region [m 8 (t 0),
 m 9 (t 1),
 c 10 219 [(t 8), (t 9)],
 m 11 (i 0)])
 (.block 0 (.loop (.seq (.region [p 12 (.bin .lss (t 11) (i 4))])
 (.seq (.cond (t 12) (.skip)
 (.exit 0))
 (.seq (.block 1 (.seq (.region [m 13 (t 11),
 p 14 (.index false 4 1 (t 10) (t 11)),
 m 6 (t 13),
 m 7 (t 14)])
 (.region [m 15 (t 5),
 m 16 (t 0),
 m 17 (t 6),
 n 18 (t 16),
 f 19 3 (t 18),
 p 20 (.indexAddrA 4 1 (t 19) (t 17)),
 r 21 (t 20),
 m 22 (t 7),
 p 23 (.bin .quo (t 22) (i 16)),
 p 24 (.indexAddr 1 (t 21) (t 23)),
 r 25 (t 24),
 m 26 (t 7),
 p 27 (.bin .rem (t 26) (i 16)),
 c 28 233 [(t 25), (t 27)],
 p 29 (.min [(t 15), (t 28)]),
 m 5 (t 29)])))
 (.region [p 30 (.bin .add (t 11) (i 1)),
 m 11 (t 30)])))))))
 (.seq (.region [m 31 (t 5),
 m 4 (t 31)])
 (.ret))))⟩
theorem cc237 : cFunc Tryz.prog methNames Tryz.f237 = some c237 := by kernel_rfl
/-- (*pantry/door.Door).Has -/
def c238 : AFunc := ⟨10, [.tmp 4],
  .seq (.region [m 4 (l (.bool false))])
 (.seq (.region [m 5 (t 0),
 m 6 (t 0),
 m 7 (t 1),
 c 8 217 [(t 6), (t 7)],
 c 9 218 [(t 5), (t 8)],
 m 4 (t 9)])
 (.ret))⟩
theorem cc238 : cFunc Tryz.prog methNames Tryz.f238 = some c238 := by kernel_rfl
/-- (*pantry/shards.Map).Len -/
def c258 : AFunc := ⟨8, [.tmp 2],
  .seq (.region [m 2 (i 0)])
 (.seq (.region [m 3 (t 0),
 n 4 (t 3),
 f 5 3 (t 4),
 r 6 (t 5),
 p 7 (.lenM (t 6)),
 m 2 (t 7)])
 (.ret))⟩
theorem cc258 : cFunc Tryz.prog methNames Tryz.f258 = some c258 := by kernel_rfl
/-- (*pantry/table.Table).Len -/
def c260 : AFunc := ⟨7, [.tmp 2],
  .seq (.region [m 2 (i 0)])
 (.seq (.region [m 3 (t 0),
 n 4 (t 3),
 f 5 4 (t 4),
 r 6 (t 5),
 m 2 (t 6)])
 (.ret))⟩
theorem cc260 : cFunc Tryz.prog methNames Tryz.f260 = some c260 := by kernel_rfl
/-- (*pantry/ring.Ring).Len -/
def c262 : AFunc := ⟨7, [.tmp 2],
  .seq (.region [m 2 (i 0)])
 (.seq (.region [m 3 (t 0),
 n 4 (t 3),
 f 5 2 (t 4),
 r 6 (t 5),
 m 2 (t 6)])
 (.ret))⟩
theorem cc262 : cFunc Tryz.prog methNames Tryz.f262 = some c262 := by kernel_rfl
/-- (*pantry/ring.Ring).Lost -/
def c263 : AFunc := ⟨7, [.tmp 2],
  .seq (.region [m 2 (i 0)])
 (.seq (.region [m 3 (t 0),
 n 4 (t 3),
 f 5 3 (t 4),
 r 6 (t 5),
 m 2 (t 6)])
 (.ret))⟩
theorem cc263 : cFunc Tryz.prog methNames Tryz.f263 = some c263 := by kernel_rfl
/-- (*pantry/ring.Ring).Offer -/
def c264 : AFunc := ⟨41, [.tmp 4],
  .seq (.region [m 4 (l (.bool false))])
 (.seq (.seq (.draw [d (m 5 (t 0)),
 d (n 6 (t 5)),
 d (f 7 2 (t 6)),
 d (r 8 (t 7)),
 d (m 9 (t 0)),
 d (n 10 (t 9)),
 d (f 11 0 (t 10)),
 d (r 12 (t 11)),
 d (p 13 (.len false (t 12))),
 d (p 14 (.bin .eql (t 8) (t 13)))])
 (.cond (t 14) (.seq (.region [m 15 (t 0),
 n 16 (t 15),
 f 17 3 (t 16),
 r 18 (t 17),
 p 19 (.bin .add (t 18) (i 1)),
 n 20 (t 15),
 f 21 3 (t 20),
 z (.store 1 (t 21) (t 19))])
 (.seq (.region [m 4 (l (.bool false))])
 (.ret)))
 (.skip)))
 (.seq (.draw [d (m 26 (t 0)),
 d (m 27 (t 0)),
 d (n 28 (t 27)),
 d (f 29 2 (t 28)),
 d (r 30 (t 29)),
 d (c 31 266 [(t 26), (t 30)]),
 d (m 22 (t 0)),
 d (n 23 (t 22)),
 d (f 24 0 (t 23)),
 (r 25 (t 24), [3]),
 d (m 32 (t 1)),
 d (p 33 (.indexAddr 1 (t 25) (t 31))),
 d (z (.store 1 (t 33) (t 32)))])
 (.seq (.region [m 34 (t 0),
 n 35 (t 34),
 f 36 2 (t 35),
 r 37 (t 36),
 p 38 (.bin .add (t 37) (i 1)),
 n 39 (t 34),
 f 40 2 (t 39),
 z (.store 1 (t 40) (t 38))])
 (.seq (.region [m 4 (l (.bool true))])
 (.ret)))))⟩
theorem cc264 : cFunc Tryz.prog methNames Tryz.f264 = some c264 := by kernel_rfl
/-- (*pantry/ring.Ring).Take -/
def c265 : AFunc := ⟨33, [.tmp 2, .tmp 3],
  .seq (.region [m 2 (i 0),
 m 3 (l (.bool false))])
 (.seq (.seq (.region [m 5 (t 0),
 n 6 (t 5),
 f 7 2 (t 6),
 r 8 (t 7),
 p 9 (.bin .eql (t 8) (i 0))])
 (.cond (t 9) (.seq (.region [m 2 (i 0),
 m 3 (l (.bool false))])
 (.ret))
 (.skip)))
 (.seq (.draw [d (m 10 (t 0)),
 d (n 11 (t 10)),
 d (f 12 0 (t 11)),
 d (r 13 (t 12)),
 d (m 14 (t 0)),
 d (n 15 (t 14)),
 d (f 16 1 (t 15)),
 d (r 17 (t 16)),
 d (p 18 (.indexAddr 1 (t 13) (t 17))),
 d (r 19 (t 18)),
 d (m 4 (t 19))])
 (.seq (.region [m 20 (t 0),
 m 21 (t 0),
 c 22 266 [(t 21), (i 1)],
 n 23 (t 20),
 f 24 1 (t 23),
 z (.store 1 (t 24) (t 22))])
 (.seq (.region [m 25 (t 0),
 n 26 (t 25),
 f 27 2 (t 26),
 r 28 (t 27),
 p 29 (.bin .sub (t 28) (i 1)),
 n 30 (t 25),
 f 31 2 (t 30),
 z (.store 1 (t 31) (t 29))])
 (.seq (.region [m 32 (t 4),
 m 2 (t 32),
 m 3 (l (.bool true))])
 (.ret))))))⟩
theorem cc265 : cFunc Tryz.prog methNames Tryz.f265 = some c265 := by kernel_rfl
/-- (*pantry/ring.Ring).place -/
def c266 : AFunc := ⟨18, [.tmp 4],
  .seq (.region [m 4 (i 0)])
 (.seq (.draw [d (m 5 (t 0)),
 d (n 6 (t 5)),
 d (f 7 1 (t 6)),
 d (r 8 (t 7)),
 d (m 9 (t 1)),
 d (p 10 (.bin .add (t 8) (t 9))),
 d (m 11 (t 0)),
 d (n 12 (t 11)),
 d (f 13 0 (t 12)),
 d (r 14 (t 13)),
 d (p 15 (.len false (t 14))),
 d (p 16 (.bin .sub (t 15) (i 1))),
 d (p 17 (.bin .and (t 10) (t 16))),
 d (m 4 (t 17))])
 (.ret))⟩
theorem cc266 : cFunc Tryz.prog methNames Tryz.f266 = some c266 := by kernel_rfl
/-- (*pantry/api.Fault).Unwrap -/
def c281 : AFunc := ⟨8, [.tmp 2],
  .seq (.region [m 2 (l .nilIface)])
 (.seq (.region [m 3 (t 0),
 n 4 (t 3),
 f 5 0 (t 4),
 r 6 (t 5),
 p 7 (.makeIface 30 (t 6)),
 m 2 (t 7)])
 (.ret))⟩
theorem cc281 : cFunc Tryz.prog methNames Tryz.f281 = some c281 := by kernel_rfl
end Go.Proofs.YtgnmjfnkibbnkaaGreatDoor
namespace Go.Proofs.YtgnmjfnkibbnkaaGreatDoor
open Go Go.Proofs.PantryEng Go.Proofs.PantryEng.Lt1
set_option maxRecDepth 100000
set_option maxHeartbeats 0
def fns : Tree AFunc :=
  (.node (.node (.node (.node (.node (.node (.node .nil (some c63) (.node .nil (some c191) .nil)) (some c31) (.node (.node .nil (some c159) .nil) (some c95) (.node .nil (some c223) .nil))) (some c15) (.node (.node (.node .nil (some c143) .nil) (some c79) (.node .nil (some c207) .nil)) (some c47) (.node .nil (some c111) .nil))) (some c7) (.node (.node (.node (.node (.node .nil (some c263) .nil) (some c135) .nil) (some c71) (.node .nil (some c199) .nil)) (some c39) (.node (.node .nil (some c167) .nil) (some c103) (.node .nil (some c231) .nil))) (some c23) (.node (.node (.node .nil (some c151) .nil) (some c87) (.node .nil (some c215) .nil)) (some c55) (.node (.node .nil (some c183) .nil) (some c119) .nil)))) (some c3) (.node (.node (.node (.node (.node .nil (some c131) .nil) (some c67) (.node .nil (some c195) .nil)) (some c35) (.node (.node .nil (some c163) .nil) (some c99) (.node .nil (some c227) .nil))) (some c19) (.node (.node (.node .nil (some c147) .nil) (some c83) (.node .nil (some c211) .nil)) (some c51) (.node (.node .nil (some c179) .nil) (some c115) .nil))) (some c11) (.node (.node (.node (.node .nil (some c139) .nil) (some c75) (.node .nil (some c203) .nil)) (some c43) (.node (.node .nil (some c171) .nil) (some c107) (.node .nil (some c235) .nil))) (some c27) (.node (.node (.node .nil (some c155) .nil) (some c91) (.node .nil (some c219) .nil)) (some c59) (.node (.node .nil (some c187) .nil) (some c123) .nil))))) none (.node (.node (.node (.node (.node (.node .nil (some c129) .nil) (some c65) .nil) (some c33) (.node (.node .nil (some c161) .nil) (some c97) (.node .nil (some c225) .nil))) (some c17) (.node (.node (.node .nil (some c145) .nil) (some c81) (.node .nil (some c209) .nil)) (some c49) (.node (.node .nil (some c177) .nil) (some c113) .nil))) (some c9) (.node (.node (.node (.node (.node .nil (some c265) .nil) (some c137) .nil) (some c73) (.node .nil (some c201) .nil)) (some c41) (.node (.node .nil (some c169) .nil) (some c105) (.node .nil (some c233) .nil))) (some c25) (.node (.node (.node (.node .nil (some c281) .nil) (some c153) .nil) (some c89) (.node .nil (some c217) .nil)) (some c57) (.node (.node .nil (some c185) .nil) (some c121) .nil)))) (some c5) (.node (.node (.node (.node (.node .nil (some c133) .nil) (some c69) (.node .nil (some c197) .nil)) (some c37) (.node (.node .nil (some c165) .nil) (some c101) (.node .nil (some c229) .nil))) (some c21) (.node (.node (.node .nil (some c149) .nil) (some c85) (.node .nil (some c213) .nil)) (some c53) (.node (.node .nil (some c181) .nil) (some c117) .nil))) (some c13) (.node (.node (.node (.node .nil (some c141) .nil) (some c77) (.node .nil (some c205) .nil)) (some c45) (.node .nil (some c109) (.node .nil (some c237) .nil))) (some c29) (.node (.node (.node .nil (some c157) .nil) (some c93) (.node .nil (some c221) .nil)) (some c61) (.node (.node .nil (some c189) .nil) (some c125) .nil)))))) none (.node (.node (.node (.node (.node (.node (.node .nil (some c128) .nil) (some c64) .nil) (some c32) (.node (.node .nil (some c160) .nil) (some c96) (.node .nil (some c224) .nil))) (some c16) (.node (.node (.node .nil (some c144) .nil) (some c80) (.node .nil (some c208) .nil)) (some c48) (.node (.node .nil (some c176) .nil) (some c112) .nil))) (some c8) (.node (.node (.node (.node (.node .nil (some c264) .nil) (some c136) .nil) (some c72) (.node .nil (some c200) .nil)) (some c40) (.node (.node .nil (some c168) .nil) (some c104) (.node .nil (some c232) .nil))) (some c24) (.node (.node (.node .nil (some c152) .nil) (some c88) (.node .nil (some c216) .nil)) (some c56) (.node (.node .nil (some c184) .nil) (some c120) .nil)))) (some c4) (.node (.node (.node (.node (.node (.node .nil (some c260) .nil) (some c132) .nil) (some c68) (.node .nil (some c196) .nil)) (some c36) (.node (.node .nil (some c164) .nil) (some c100) (.node .nil (some c228) .nil))) (some c20) (.node (.node (.node .nil (some c148) .nil) (some c84) (.node .nil (some c212) .nil)) (some c52) (.node (.node .nil (some c180) .nil) (some c116) .nil))) (some c12) (.node (.node (.node (.node .nil (some c140) .nil) (some c76) (.node .nil (some c204) .nil)) (some c44) (.node .nil (some c108) (.node .nil (some c236) .nil))) (some c28) (.node (.node (.node .nil (some c156) .nil) (some c92) (.node .nil (some c220) .nil)) (some c60) (.node (.node .nil (some c188) .nil) (some c124) .nil))))) none (.node (.node (.node (.node (.node (.node (.node .nil (some c258) .nil) (some c130) .nil) (some c66) (.node .nil (some c194) .nil)) (some c34) (.node (.node .nil (some c162) .nil) (some c98) (.node .nil (some c226) .nil))) (some c18) (.node (.node (.node .nil (some c146) .nil) (some c82) (.node .nil (some c210) .nil)) (some c50) (.node (.node .nil (some c178) .nil) (some c114) .nil))) (some c10) (.node (.node (.node (.node (.node .nil (some c266) .nil) (some c138) .nil) (some c74) (.node .nil (some c202) .nil)) (some c42) (.node (.node .nil (some c170) .nil) (some c106) (.node .nil (some c234) .nil))) (some c26) (.node (.node .nil (some c90) (.node .nil (some c218) .nil)) (some c58) (.node (.node .nil (some c186) .nil) (some c122) .nil)))) (some c6) (.node (.node (.node (.node (.node (.node .nil (some c262) .nil) (some c134) .nil) (some c70) (.node .nil (some c198) .nil)) (some c38) (.node (.node .nil (some c166) .nil) (some c102) (.node .nil (some c230) .nil))) (some c22) (.node (.node (.node .nil (some c150) .nil) (some c86) (.node .nil (some c214) .nil)) (some c54) (.node (.node .nil (some c182) .nil) (some c118) .nil))) (some c14) (.node (.node (.node (.node .nil (some c142) .nil) (some c78) (.node .nil (some c206) .nil)) (some c46) (.node .nil (some c110) (.node .nil (some c238) .nil))) (some c30) (.node (.node (.node .nil (some c158) .nil) none (.node .nil (some c222) .nil)) (some c62) (.node (.node .nil (some c190) .nil) none .nil)))))))
def tbl : List (List (TypeId × FuncId)) := [[(83, 102), (154, 264)], [(83, 142), (84, 166), (154, 265)], [(83, 287), (154, 261)], [(17, 254), (81, 258), (83, 169), (84, 128), (123, 260), (141, 228), (154, 262), (270, 273), (308, 284)], [(58, 27), (83, 37), (154, 263)]]
abbrev n_gosem_cut_init : Nat := 2
abbrev n_pantrylaw26_ScriptReads : Nat := 3
abbrev n_pantrylaw26_ScriptBack : Nat := 4
abbrev n_pantrylaw26_ScriptCuts : Nat := 5
abbrev n_pantrylaw26_small : Nat := 6
abbrev n_script_Decode : Nat := 7
abbrev n_pantryref26_Decode : Nat := 8
abbrev n_script_Encode : Nat := 9
abbrev n_pantryref26_Encode : Nat := 10
abbrev n_pantryref26_Programs : Nat := 11
abbrev n_pantryref03_Ints : Nat := 12
abbrev n_pantrylaw26_program : Nat := 13
abbrev n_script_Run : Nat := 14
abbrev n_script_Records : Nat := 15
abbrev n_script_Decode_1 : Nat := 16
abbrev n_pantryref26_reader_next : Nat := 17
abbrev n_script_writer_put : Nat := 18
abbrev n_pantryref26_byteOf : Nat := 19
abbrev n_script_machine : Nat := 20
abbrev n_conc_Machine_Records : Nat := 21
abbrev n_slices_Contains__bool_bool : Nat := 22
abbrev n_conc_Machine_Left : Nat := 23
abbrev n_hist_Commits : Nat := 24
abbrev n_conc_Machine_Keys : Nat := 25
abbrev n_conc_Machine_Weight : Nat := 26
abbrev n_conc_Machine_Lost : Nat := 27
abbrev n_witness_Check : Nat := 28
abbrev n_conc_New : Nat := 29
abbrev n_conc_Machine_Run : Nat := 30
abbrev n_picks_Round : Nat := 31
abbrev n_slices_Clone__api_Record_api_Record : Nat := 32
abbrev n_slices_Index__bool_bool : Nat := 33
abbrev n_hist_Right : Nat := 34
abbrev n_shards_Map_All : Nat := 35
abbrev n_shards_Map_Weight : Nat := 36
abbrev n_stripes_Stripes_Lost : Nat := 37
abbrev n_hist_Calls : Nat := 38
abbrev n_witness_Order : Nat := 39
abbrev n_witness_Check_1 : Nat := 40
abbrev n_witness_acts : Nat := 41
abbrev n_slices_ContainsFunc__api_Call_api_Call : Nat := 42
abbrev n_witness_Respects : Nat := 43
abbrev n_witness_Row : Nat := 44
abbrev n_spec_Legal : Nat := 45
abbrev n_shards_New : Nat := 46
abbrev n_policy_New : Nat := 47
abbrev n_stripes_New : Nat := 48
abbrev n_writes_New : Nat := 49
abbrev n_cells_New : Nat := 50
abbrev n_shards_Map_Count : Nat := 51
abbrev n_slices_Clone__api_Op_api_Op : Nat := 52
abbrev n_picks_Next : Nat := 53
abbrev n_conc_Machine_Step : Nat := 54
abbrev n_hist_calls : Nat := 55
abbrev n_table_Table_All : Nat := 56
abbrev n_slices_SortFunc__api_Entry_api_Entry : Nat := 57
abbrev n_shards_Map_All_1 : Nat := 58
abbrev n_cmp_Compare_int : Nat := 59
abbrev n_stripes_Stripes_sum : Nat := 60
abbrev n_stripes_Stripes_Lost_1 : Nat := 61
abbrev n_slices_IndexFunc__api_Call_api_Call : Nat := 62
abbrev n_witness_Respects_1 : Nat := 63
abbrev n_hist_Before : Nat := 64
abbrev n_slices_ContainsFunc__int_int : Nat := 65
abbrev n_witness_evictions : Nat := 66
abbrev n_spec_run : Nat := 67
abbrev n_mix_Ceil : Nat := 68
abbrev n_table_New : Nat := 69
abbrev n_filter_New : Nat := 70
abbrev n_deque_New : Nat := 71
abbrev n_quota_Of : Nat := 72
abbrev n_climb_New : Nat := 73
abbrev n_ring_New : Nat := 74
abbrev n_cells_New_1 : Nat := 75
abbrev n_conc_thread_step : Nat := 76
abbrev n_hist_reader_read : Nat := 77
abbrev n_table_Table_All_1 : Nat := 78
abbrev n_slices_pdqsortCmpFunc_api_Entry : Nat := 79
abbrev n_math_bits_Len : Nat := 80
abbrev n_cmp_isNaN_int : Nat := 81
abbrev n_slices_IndexFunc__int_int : Nat := 82
abbrev n_spec_state_may : Nat := 83
abbrev n_spec_state_do : Nat := 84
abbrev n_mix_power : Nat := 85
abbrev n_sketch_New : Nat := 86
abbrev n_door_New : Nat := 87
abbrev n_sketch_Sketch_Width : Nat := 88
abbrev n_quota_clamp_int : Nat := 89
abbrev n_quota_ends : Nat := 90
abbrev n_quota_with : Nat := 91
abbrev n_climb_first : Nat := 92
abbrev n_conc_thread_begin : Nat := 93
abbrev n_errors_Is : Nat := 94
-- not compiled: 94 errors.Is
abbrev n_writes_Buffer_Reserve : Nat := 95
abbrev n_conc_thread_goTo : Nat := 96
abbrev n_conc_thread_try : Nat := 97
abbrev n_conc_thread_lock : Nat := 98
abbrev n_shards_Map_Shard : Nat := 99
abbrev n_conc_thread_act : Nat := 100
abbrev n_conc_thread_unlock : Nat := 101
abbrev n_stripes_Stripes_Offer : Nat := 102
abbrev n_conc_thread_set : Nat := 103
abbrev n_status_Wrote : Nat := 104
abbrev n_conc_thread_status : Nat := 105
abbrev n_conc_parts_drains : Nat := 106
abbrev n_conc_thread_drain : Nat := 107
abbrev n_conc_thread_answer : Nat := 108
abbrev n_conc_thread_draining : Nat := 109
abbrev n_hist_evicts : Nat := 110
abbrev n_hist_reader_invoke : Nat := 111
abbrev n_hist_reader_follow : Nat := 112
abbrev n_slices_insertionSortCmpFunc_api_Entry : Nat := 113
abbrev n_slices_heapSortCmpFunc_api_Entry : Nat := 114
abbrev n_slices_breakPatternsCmpFunc_api_Entry : Nat := 115
abbrev n_slices_choosePivotCmpFunc_api_Entry : Nat := 116
abbrev n_slices_reverseRangeCmpFunc_api_Entry : Nat := 117
abbrev n_slices_partialInsertionSortCmpFunc_api_Entry : Nat := 118
abbrev n_slices_partitionEqualCmpFunc_api_Entry : Nat := 119
abbrev n_slices_partitionCmpFunc_api_Entry : Nat := 120
abbrev n_math_bits_Len32 : Nat := 121
abbrev n_math_bits_Len64 : Nat := 122
abbrev n_api_Number : Nat := 123
abbrev n_weigh_Admit : Nat := 124
abbrev n_conc_thread_record : Nat := 125
abbrev n_errors_is : Nat := 127
-- not compiled: 127 errors.is
abbrev n_writes_Buffer_Len : Nat := 128
abbrev n_api_Wrap : Nat := 129
abbrev n_cells_Cells_TryLock : Nat := 130
abbrev n_cells_Cells_Lock : Nat := 131
abbrev n_mix_Index : Nat := 132
abbrev n_mix_Mix : Nat := 133
abbrev n_conc_thread_get : Nat := 134
abbrev n_conc_thread_put : Nat := 135
abbrev n_conc_thread_remove : Nat := 136
abbrev n_cells_Cells_Unlock : Nat := 137
abbrev n_stripes_Stripes_Place : Nat := 138
abbrev n_cells_Cells_Store : Nat := 139
abbrev n_cells_Cells_Load : Nat := 140
abbrev n_status_Start : Nat := 141
abbrev n_stripes_Stripes_Take : Nat := 142
abbrev n_conc_thread_event : Nat := 143
abbrev n_conc_thread_take : Nat := 144
abbrev n_conc_thread_shard : Nat := 145
abbrev n_conc_thread_evict : Nat := 146
abbrev n_conc_thread_next : Nat := 147
abbrev n_conc_thread_end : Nat := 148
abbrev n_slices_siftDownCmpFunc_api_Entry : Nat := 149
abbrev n_slices_nextPowerOfTwo : Nat := 150
abbrev n_slices_xorshift_Next : Nat := 151
abbrev n_slices_medianAdjacentCmpFunc_api_Entry : Nat := 152
abbrev n_slices_medianCmpFunc_api_Entry : Nat := 153
abbrev n_errors_As : Nat := 154
-- not compiled: 154 errors.As
abbrev n_cells_Cells_take : Nat := 155
abbrev n_mix_Turn : Nat := 156
abbrev n_shards_Map_Get : Nat := 157
abbrev n_shards_Map_Put : Nat := 158
abbrev n_writes_Buffer_Commit : Nat := 159
abbrev n_shards_Map_Remove : Nat := 160
abbrev n_writes_Buffer_Cancel : Nat := 161
abbrev n_cells_Cells_lock : Nat := 162
abbrev n_cells_Cells_note : Nat := 163
abbrev n_cells_Cells_word : Nat := 164
abbrev n_policy_Policy_Do : Nat := 165
abbrev n_writes_Buffer_Take : Nat := 166
abbrev n_shards_Map_Bury : Nat := 167
abbrev n_shards_Map_Evict : Nat := 168
abbrev n_stripes_Stripes_Len : Nat := 169
abbrev n_status_Finish : Nat := 170
abbrev n_slices_order2CmpFunc_api_Entry : Nat := 171
abbrev n_errors_as : Nat := 175
-- not compiled: 175 errors.as
abbrev n_math_bits_RotateLeft64 : Nat := 176
abbrev n_shards_Map_of : Nat := 177
abbrev n_table_Table_Get : Nat := 178
abbrev n_table_Table_Put : Nat := 179
abbrev n_writes_heavy : Nat := 180
abbrev n_shards_Map_away : Nat := 181
abbrev n_policy_Policy_may : Nat := 182
abbrev n_filter_Filter_Record : Nat := 183
abbrev n_policy_Policy_count : Nat := 184
abbrev n_deque_Lists_Push : Nat := 185
abbrev n_policy_Policy_settle : Nat := 186
abbrev n_deque_Lists_Reweigh : Nat := 187
abbrev n_policy_Policy_read : Nat := 188
abbrev n_policy_Policy_drop : Nat := 189
abbrev n_shards_Map_State : Nat := 190
abbrev n_stripes_Stripes_Len_1 : Nat := 191
abbrev n_table_Table_find : Nat := 194
abbrev n_table_Table_move : Nat := 195
abbrev n_table_Table_grow : Nat := 196
abbrev n_table_Table_Remove : Nat := 197
abbrev n_policy_Policy_heavy : Nat := 198
abbrev n_door_Door_Put : Nat := 199
abbrev n_sketch_Sketch_Add : Nat := 200
abbrev n_door_Door_Clear : Nat := 201
abbrev n_climb_Count : Nat := 202
abbrev n_climb_Due : Nat := 203
abbrev n_climb_Turn : Nat := 204
abbrev n_quota_Shift : Nat := 205
abbrev n_policy_Policy_pass : Nat := 206
abbrev n_deque_Lists_row : Nat := 207
abbrev n_deque_fine : Nat := 208
abbrev n_deque_list_push : Nat := 209
abbrev n_policy_Policy_Weight : Nat := 210
abbrev n_policy_Policy_next : Nat := 211
abbrev n_deque_Lists_Of : Nat := 212
abbrev n_deque_Lists_Move : Nat := 213
abbrev n_deque_Lists_Unlink : Nat := 214
abbrev n_table_Table_head : Nat := 215
abbrev n_table_Table_Left : Nat := 216
abbrev n_door_Door_places : Nat := 217
abbrev n_door_Door_on : Nat := 218
abbrev n_sketch_Sketch_places : Nat := 219
abbrev n_nibble_Inc : Nat := 220
abbrev n_sketch_Sketch_Halve : Nat := 221
abbrev n_climb_fit : Nat := 222
abbrev n_climb_Rate : Nat := 223
abbrev n_climb_kept : Nat := 224
abbrev n_deque_Lists_Weight : Nat := 225
abbrev n_deque_Lists_Front : Nat := 226
abbrev n_deque_Lists_Back : Nat := 227
abbrev n_deque_Lists_Len : Nat := 228
abbrev n_filter_Filter_Better : Nat := 229
abbrev n_deque_element_unlink : Nat := 230
abbrev n_door_Door_Size : Nat := 231
abbrev n_nibble_place : Nat := 232
abbrev n_nibble_Get : Nat := 233
abbrev n_nibble_Halve : Nat := 234
abbrev n_climb_fit_1 : Nat := 235
abbrev n_filter_Filter_Often : Nat := 236
abbrev n_sketch_Sketch_Count : Nat := 237
abbrev n_door_Door_Has : Nat := 238
abbrev n_shards_Map_Len : Nat := 258
abbrev n_table_Table_Len : Nat := 260
abbrev n_ring_Ring_Len : Nat := 262
abbrev n_ring_Ring_Lost : Nat := 263
abbrev n_ring_Ring_Offer : Nat := 264
abbrev n_ring_Ring_Take : Nat := 265
abbrev n_ring_Ring_place : Nat := 266
abbrev n_api_Fault_Unwrap : Nat := 281
abbrev n_gosem_cut_vars : Nat := 291
-- not compiled: 291 gosem.cut.vars
abbrev tErrno : Nat := 30
abbrev tFault : Nat := 279
end Go.Proofs.YtgnmjfnkibbnkaaGreatDoor

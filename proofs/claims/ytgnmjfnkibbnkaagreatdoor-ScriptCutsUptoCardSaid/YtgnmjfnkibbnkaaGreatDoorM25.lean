/- From a row's readings to the walks' heaps: law 26. -/
import Derived.Test.YtgnmjfnkibbnkaaGreatDoorM21
import Derived.Test.YtgnmjfnkibbnkaaGreatDoorM22
import Derived.Test.YtgnmjfnkibbnkaaGreatDoorCards
import Derived.Test.YtgnmjfnkibbnkaaGreatDoorTie
import Derived.WalkKit
import Derived.ProofKit
import Derived.OpenShut
import Derived.Deep.DeepHandedRow
import Derived.Deep.DeepWitnessRowRef
import Derived.LaidHandle
import Derived.LaidLaws
import Derived.Test.YtgnmjfnkibbnkaaGreatDoorM10
import Derived.Test.YtgnmjfnkibbnkaaGreatDoorM24
set_option linter.unusedSimpArgs false
set_option linter.unusedVariables false
namespace Go.Proofs.YtgnmjfnkibbnkaaGreatDoor
open Go Go.Proofs.PantryEng
theorem primSmall_ok : PrimOK Tryz.prog 6 primSmall := by
  intro args h r h' hp
  have hp' : args = [] ∧ tokOK 270 212 h = true ∧ r = .bool true ∧ h' = h := by
    unfold primSmall at hp
    split at hp
    · split at hp
      · rename_i ht
        injection hp with hp; injection hp with h1 h2
        exact ⟨rfl, ht, h1.symm, h2.symm⟩
      · simp at hp
    · simp at hp
  obtain ⟨rfl, ht, rfl, rfl⟩ := hp'
  obtain ⟨hs, n, hn⟩ := small_ans
  refine ⟨(evCall_ok prg1_ok n _ _ _ _ _ hn).1, fun f w args' hw ha => ?_⟩
  have hlt : 212 < 65536 := by decide
  have hc := tok_cell hw hlt ht
  refine (bridge prg1_ok (heap0_R hlt hc) heap0_noOwn (by cases ha; exact .nil) ⟨n, hn⟩).mono fun e w' hr => ?_
  exact RetR.same hw hr.1 (.g (.c (.s (.bool _)))) hr.2
theorem prW_ok : AProgOK Tryz.prog methNames prW := by
  refine ⟨mixed, tbl_ok, fun F af h => Tree.all_get fns_ok h, fun F p h => ?_⟩
  have h' : primsW F = some p := h
  unfold primsW at h'
  split at h'
  · rename_i e; subst e; injection h' with h'; subst h'; exact primSmall_ok
  · simp at h'
end Go.Proofs.YtgnmjfnkibbnkaaGreatDoor
namespace Go.Proofs.YtgnmjfnkibbnkaaGreatDoor
open Go Go.ChangeShapes Go.WideShapes Go.RowKit Go.Proofs.PantryEng

/-! ### the bound -/
theorem bulk_one {H : Type} (d : DataW H) : 1 ≤ Rows.uptoBulk d := by
  cases d with
  | lit l => cases l <;> simp [Rows.uptoBulk]
  | _ => simp [Rows.uptoBulk]
theorem bulk_len {H : Type} (l : List (DataW H)) : l.length ≤ Rows.uptoBulkAll l := by
  induction l with
  | nil => simp [Rows.uptoBulkAll]
  | cons x r ih => have := bulk_one x; simp only [Rows.uptoBulkAll, List.length_cons]; omega
theorem bulk_slice {H : Type} (a b : List (DataW H)) : Rows.uptoBulkAll a + 1 ≤ Rows.uptoBulk (.slice a b) := by simp only [Rows.uptoBulk]; omega
theorem bulk_oneOf {H : Type} {size : Nat} {zs : List Int} {d : DataW H} (h : OneOf size zs d) : zs.length ≤ Rows.uptoBulk d * size := by
  rcases h with ⟨rfl, _⟩ | ⟨ds, rest, n, rfl, h1, h2⟩
  · simp
  · have h3 := bulk_slice ds rest
    have h4 := bulk_len ds
    rw [h2]
    exact Nat.mul_le_mul_right _ (by omega)
theorem bulk_rows {H : Type} {L : List (List Int)} {ds : List (DataW H)} (h : All2 (OneOf 4) L ds) : (L.flatMap itemsP).length ≤ 5 * Rows.uptoBulkAll ds ∧ ∀ p ∈ L, p.length ≤ 4 * Rows.uptoBulkAll ds := by
  induction h with
  | nil => simp [Rows.uptoBulkAll]
  | cons h1 h2 ih =>
    rename_i p d ps ds
    have h3 := bulk_oneOf h1
    have h4 := bulk_one d
    obtain ⟨n, hn⟩ : rowOK p := by
      rcases h1 with ⟨rfl, _⟩ | ⟨_, _, n, _, _, h⟩
      · exact ⟨0, rfl⟩
      · exact ⟨n, h⟩
    have h5 := itemsOps_len hn
    simp only [List.flatMap_cons, List.length_append, itemsP, List.length_cons, h5, Rows.uptoBulkAll]
    refine ⟨by omega, fun q hq => ?_⟩
    rcases List.mem_cons.1 hq with rfl | hq
    · omega
    · have := ih.2 q hq; omega

/-! ### the variable that the row lists -/
theorem ownN : ownKnob Tryz.prog.godebug = none := by kernel_rfl
theorem gErr : Tryz.prog.globalNamed "errors.errorType" = some 0 := by kernel_rfl
theorem rtT : (Tryz.prog.cutTypes.find? (·.1 == "internal/reflectlite.rtype")).map (·.2) = some 270 := by kernel_rfl
theorem oneRow : ((List.range (481 - 100)).filter fun t => Tryz.prog.rowNamed t [101, 114, 114, 111, 114]) = [212] := by kernel_rfl
theorem typesSize : Tryz.prog.types.size = 481 - 100 := by kernel_rfl
def theLaid : List (String × DataW Unit) := [("errors.errorType", Rows.laid_errors_errorType)]
theorem handle_of_laid {W : World} (h : laidMetH Tryz.prog theLaid W) : W.cell? ⟨0, 0, none⟩ = some (.iface 270 (.agg #[.pointer (some ⟨1, 212, none⟩)])) := by
  have h' : laidMet Tryz.prog [] W ∧ handlesMet Tryz.prog theLaid W := h
  obtain ⟨name, u, ty, e1, e2, e3, e4, e5⟩ := h'.2 _ (List.mem_singleton.2 rfl)
  have en : name = [101, 114, 114, 111, 114] := (Option.some.inj e1).symm
  subst en
  obtain rfl := Option.some.inj (rtT.symm.trans e2)
  have hm : ty ∈ (List.range (481 - 100)).filter fun t => Tryz.prog.rowNamed t [101, 114, 114, 111, 114] := List.mem_filter.2 ⟨List.mem_range.2 (by rw [← typesSize]; exact e3), e4⟩
  rw [oneRow] at hm
  obtain rfl := List.mem_singleton.1 hm
  have hh : typeHandle Tryz.prog 212 = .pointer (some ⟨1, 212, none⟩) := by kernel_rfl
  rw [hh] at e5
  simpa using World.var?_cell gErr e5 0

noncomputable def laidWorld (os : Os) : World :=
  let w0 := World.holding Tryz.prog os ⟨#[], #[], []⟩
  { w0 with heap := w0.heap.modify 0 fun
      | .cells _ t frozen => .cells #[.iface 270 (.agg #[.pointer (some ⟨1, 212, none⟩)])] t frozen
      | o => o }
theorem laidWorld_met (os : Os) (args : Array Value) : laidMetH Tryz.prog theLaid ((laidWorld os).forCall (fun _ _ => 0) ⟨#[], args, []⟩).memory :=
  laidMetH_of_parts (laidMet_nil _ _) (by kernel_rfl)

/-! ### the parameters' types -/
theorem uBytes : Tryz.prog.underlying 22 = some (.slice 5) := by kernel_rfl
theorem uInts : Tryz.prog.underlying 26 = some (.slice 3) := by kernel_rfl
theorem uProgs : Tryz.prog.underlying 25 = some (.slice 47) := by kernel_rfl
theorem uOps : Tryz.prog.underlying 47 = some (.slice 49) := by kernel_rfl
theorem fBytes : Flat Tryz.prog .u8 5 := flat_int (by kernel_rfl) (by kernel_rfl)
theorem fInts : Flat Tryz.prog .i64 3 := flat_int (by kernel_rfl) (by kernel_rfl)
theorem int3 : Tryz.prog.underlying 3 = some (.int .i64) := by kernel_rfl
theorem cell3 : Tryz.prog.cellsOf 3 = 1 := by kernel_rfl
theorem cell5 : Tryz.prog.cellsOf 5 = 1 := by kernel_rfl
theorem cellOp : Tryz.prog.cellsOf 49 = 4 := by kernel_rfl
theorem cellOps : Tryz.prog.cellsOf 47 = 1 := by kernel_rfl
theorem cellCfg : Tryz.prog.cellsOf 24 = 6 := by kernel_rfl
noncomputable def opFs : Array Field := match Tryz.prog.underlying 49 with | some (.struct fs) => fs | _ => #[]
noncomputable def cfgFs : Array Field := match Tryz.prog.underlying 24 with | some (.struct fs) => fs | _ => #[]
theorem uOp : Tryz.prog.underlying 49 = some (.struct opFs) := by kernel_rfl
theorem uCfg : Tryz.prog.underlying 24 = some (.struct cfgFs) := by kernel_rfl
theorem opFs_eq : (opFs.toList.map fun f => (f.offset, f.type)) = ((List.range 4).map fun i => (i, 3)) := by kernel_rfl
theorem cfgFs_eq : (cfgFs.toList.map fun f => (f.offset, f.type)) = ((List.range 6).map fun i => (i, 3)) := by kernel_rfl
theorem flat_of {fs : Array Field} {t n : Nat} (hu : Tryz.prog.underlying t = some (.struct fs)) (he : (fs.toList.map fun f => (f.offset, f.type)) = ((List.range n).map fun i => (i, 3))) (hc : Tryz.prog.cellsOf t = n) : Flat Tryz.prog .i64 t := by
  have hs : fs.size = n := by have := congrArg List.length he; simpa using this
  refine flat_struct hu (by rw [hc, hs]) fun i f hf => ?_
  have h1 : (fs.toList.map fun f => (f.offset, f.type))[i]? = some (f.offset, f.type) := by simp [hf]
  rw [he] at h1
  have hi : i < n := by
    have := (Array.getElem?_eq_some_iff.1 hf).1
    omega
  simp [hi] at h1
  rw [← h1.1, ← h1.2]
  exact ⟨rfl, int3, cell3⟩
theorem fOp : Flat Tryz.prog .i64 49 := flat_of (n := 4) uOp opFs_eq cellOp
theorem fCfg : Flat Tryz.prog .i64 24 := flat_of (n := 6) uCfg cfgFs_eq cellCfg
theorem laidOut : laidOutB Tryz.prog = true := by kernel_rfl
theorem Trod_stays' {H : Type} {enc : TypeId × Value → H} {t : TypeId} {W W' : World} {v : Value} {d : DataW H} {ps all : List MemPlace} (hps : ∀ x ∈ ps, x ∈ all) (hlt : ∀ x ∈ all, x.block < W.heap.size) {sp : Nat → Bool} (hsp : ∀ x ∈ all, sp x.block = true) (hb : Below W.heap.size W W')
    (h : DataW.Trod enc Tryz.prog W 0 (fun _ => true) true t v d ps) (hr : Tryz.prog.readableRec t = true := by kernel_rfl) (hrow : decide (t < Tryz.prog.types.size) = true := by kernel_rfl) : DataW.Trod enc Tryz.prog W' 0 sp true t v d ps :=
  WideElems.Trod_stays laidOut hr (of_decide_eq_true hrow) h (fun x hx => hb.same (hlt x (hps x hx))) fun x hx => hsp x (hps x hx)
theorem byte_of {bs : List Int} (h : ∀ z ∈ bs, (Lit.int .u8 z).wf = true) : Bytes bs := by
  intro z hz
  have := h z hz
  simp [Lit.wf] at this
  exact this
end Go.Proofs.YtgnmjfnkibbnkaaGreatDoor

/- ScriptReads: THE CARD: whatever the input, the law answers true, and each argument reads as it did; where the arguments are together of bulk at most 1048576. -/
import Derived.Test.YtgnmjfnkibbnkaaGreatDoorM25
import Derived.Test.YtgnmjfnkibbnkaaGreatDoorM29
set_option linter.unusedSimpArgs false
set_option linter.unusedVariables false
namespace Go.Proofs.YtgnmjfnkibbnkaaGreatDoor
open Go Go.ChangeShapes Go.WideShapes Go.RowKit Go.Proofs.PantryEng
set_option maxRecDepth 100000

theorem scriptReads_contract (H : Type) (enc : TypeId × Value → H) (W : World) (base : Nat) (args : Array Value) (ds gs : List (DataW H)) (before : List MemPlace)
    (hval : ∀ (j : Nat) t v, Tryz.f3.params[j]? = some t → args[j]? = some v → Value.okWide Tryz.prog W .any base t v)
    (hW : DataW.Whole enc Tryz.prog Tryz.f3.params.toList Rows.scriptReadsSpec.vars false W args.toList ds gs before) (hL : laidMetH Tryz.prog theLaid W) (hk : Rows.uptoSmall H (ds ++ gs) = true) :
    Calls Tryz.prog 3 args W fun e W' => ∃ v, e = .returned v ∧ Rows.scriptReadsSpec.post enc Tryz.prog Tryz.f3 false true false false W args v W' := by
  have hW' := hW
  obtain ⟨p, q, hA0, hV, rfl, hfz, hnd⟩ := hW
  have hA : DataW.TrodAll enc Tryz.prog W 0 (fun _ => true) true Tryz.f3.params.toList args.toList ds p := hA0
  rw [Tryz.params3] at hA hval
  obtain ⟨v0, vs0, d0, ds0, p0, q0, hargs, rfl, rfl, h0, r0⟩ := trodAll_cons hA
  obtain ⟨v1, vs1, d1, ds1, p1, q1, rfl, rfl, rfl, h1, r1⟩ := trodAll_cons r0
  obtain ⟨v2, vs2, d2, ds2, p2, q2, rfl, rfl, rfl, h2, r2⟩ := trodAll_cons r1
  obtain ⟨v3, vs3, d3, ds3, p3, q3, rfl, rfl, rfl, h3, r3⟩ := trodAll_cons r2
  obtain ⟨rfl, rfl, rfl⟩ := trodAll_nil r3
  obtain rfl : args = #[v0, v1, v2, v3] := by cases args; simp_all
  obtain ⟨rfl, rfl⟩ := trodVars_none hV
  simp only [List.append_nil] at hW' hk
  have hk' : Rows.uptoBulkAll [d0, d1, d2, d3] ≤ 1048576 := of_decide_eq_true hk
  simp only [Rows.uptoBulkAll] at hk'
  have a0 := Args.zero (w := W) (tR := 270) (tErr := 212) (by decide) (handle_of_laid hL)
  obtain ⟨f1, hh1, x0, bs0, a1, ri1, t0, s0, w0, b0⟩ := a0.slice uBytes fBytes (by rw [cell5]; omega) (hval 0 _ v0 rfl rfl) h0
  rw [cell5] at s0 b0
  have g0 := bulk_oneOf b0
  have hbytes0 : Bytes bs0 := byte_of w0
  obtain ⟨cfg1, rfl, hcl1, _⟩ := Args.struct uCfg fCfg (hval 1 _ v1 rfl rfl) h1
  rw [cellCfg] at hcl1
  obtain ⟨f3, hh3, x2, L2, a3, ri3, t2, s2, w2, b2⟩ := a1.slices uProgs uOps cellOps fOp (by rw [cellOp]; omega) (hval 2 _ v2 rfl rfl) h2
  rw [cellOp] at s2 b2
  have g2 : (L2.flatMap itemsP).length ≤ 5 * Rows.uptoBulk d2 ∧ ∀ p ∈ L2, p.length ≤ 4 * Rows.uptoBulk d2 := by
    rcases b2 with ⟨rfl, _⟩ | ⟨dl, rest, rfl, _, hall⟩
    · simp
    · have := bulk_rows hall
      have h5 := bulk_slice dl rest
      exact ⟨by omega, fun p hp => by have := this.2 p hp; omega⟩
  obtain ⟨f4, hh4, x3, zs3, a4, ri4, t3, s3, w3, b3⟩ := a3.slice uInts fInts (by rw [cell3]; omega) (hval 3 _ v3 rfl rfl) h3
  rw [cell3] at s3 b3
  have g3 := bulk_oneOf b3
  have htok : hh4.get 0 = some tokT := by
    have := heap0_tok 270 212
    rw [← ((ri1.trans (ri3.trans ri4))).old 0 Nat.one_pos |>.1] at this
    exact this
  have hens := reads_ok (R := []) (bs := bs0) (cfg := cfg1) (ps := L2) (l := zs3) (x0 := x0) (x2 := x2) (x3 := x3) a4.sat htok (((ri3.trans ri4).shows s0).view) (((ri3.trans ri4).shows s0).str (cs := [.complex .f64 270 (65536 + 212)]) htok (by simp)) hbytes0 hcl1 ((ri4.showsL s2).view) (s3.view) (by
    simp only [items, List.length_append, List.length_map, List.length_cons]; omega)
  obtain ⟨r, hr, hans, rfl⟩ := hens
  have htr : All2 (TR (Lt hh4.next) f4) [x0, .agg ⟨ints .i64 cfg1⟩, x2, x3] [v0, .agg ⟨ints .i64 cfg1⟩, v2, v3] := .cons ((ri3.trans ri4).tr t0) (.cons (TR.ints cfg1) (.cons (ri4.tr t2) (.cons t3 .nil)))
  refine (bridge prW_ok a4.wr a4.no htr hans).mono fun e W' ⟨he, hb⟩ => ?_
  subst he
  have hlt : ∀ x ∈ p0 ++ (p1 ++ (p2 ++ (p3 ++ []))), x.block < W.heap.size := fun x hx => by simpa using hW'.lt x (by simpa using hx)
  have hold : ∀ x ∈ p0 ++ (p1 ++ (p2 ++ (p3 ++ []))), (fun b => decide (b < W.heap.size)) x.block = true := fun x hx => by simpa using hlt x hx
  refine ⟨_, rfl, _, _, _, [], p0 ++ (p1 ++ (p2 ++ (p3 ++ []))), [], hW', ?_, ?_, ?_, hb.frame _, fun h => by cases h⟩
  · exact trodAll_cons_mk (shut_bool Tryz.underlying4 _) trodAll_mk0
  · exact trodAll_cons_mk (Trod_stays' (fun x hx => by simp [hx]) hlt hold hb h0) (trodAll_cons_mk (Trod_stays' (fun x hx => by simp [hx]) hlt hold hb h1) (trodAll_cons_mk (Trod_stays' (fun x hx => by simp [hx]) hlt hold hb h2) (trodAll_cons_mk (Trod_stays' (fun x hx => by simp [hx]) hlt hold hb h3) trodAll_mk0)))
  · rfl

/-! ### the card -/
def scriptReadsArgs : Array Value := #[.slice none 0 0, .agg #[.int .i64 0, .int .i64 0, .int .i64 0, .int .i64 0, .int .i64 0, .int .i64 0], .slice none 0 0, .slice none 0 0]
theorem scriptReads_reads (os : Os) {H : Type} (enc : TypeId × Value → H) : ∃ places, DataW.whole enc Tryz.prog ((laidWorld os).forCall (fun _ _ => 0) ⟨#[], scriptReadsArgs, []⟩).memory Tryz.f3.params.toList Rows.scriptReadsSpec.vars false scriptReadsArgs.toList 8 =
    some ([.nil, .agg [.lit (.int .i64 0), .lit (.int .i64 0), .lit (.int .i64 0), .lit (.int .i64 0), .lit (.int .i64 0), .lit (.int .i64 0)], .nil, .nil], [], places) :=
  ⟨[], by kernel_rfl⟩
theorem scriptReads_lifted (os : Os) (started : os.Started) (H : Type) (enc : TypeId × Value → H) (F : Stop.Interp) :
    ReturnsInHanded {} Tryz.checked os 3 .any ((Rows.OpenSpec.upto Rows.scriptReadsSpec).preRow enc Tryz.prog Tryz.f3 Rows.scriptReadsUptoRow.domain false Rows.scriptReadsUptoRow.laid) (((Rows.OpenSpec.upto Rows.scriptReadsSpec).at F).post enc Tryz.prog Tryz.f3 false true false false) := by
  obtain ⟨places, hx⟩ := scriptReads_reads os enc
  refine returnsInHanded_of_row (C := Tryz.checked) (s := Rows.OpenSpec.upto Rows.scriptReadsSpec) ownN started (by kernel_rfl) Tryz.func3
    (witness_row_at (enc := enc) (C := Tryz.checked) false (laidWorld os) scriptReadsArgs rfl (by kernel_rfl) (by kernel_rfl) (by kernel_rfl)
      (OpenSpec.preRow_of_cond 8 hx (by kernel_rfl) (fun k hk => by cases hk; kernel_rfl) (by kernel_rfl) (laidWorld_met os _))) ?_
  intro W base args ds gs before hval hW _ hk _ hL _ _
  exact scriptReads_contract H enc W base args ds gs before hval hW hL (hk _ rfl)
theorem scriptReads_said : Rows.ScriptReadsUptoSaid :=
  OpenClaim.holds_of_cond 3 Tryz.f3 rfl rfl rfl rfl rfl rfl rfl ⟨rfl, rfl, rfl, rfl, rfl⟩ rfl rfl rfl rfl rfl (by kernel_rfl) Tryz.func3 (by kernel_rfl)
    (of_decide_eq_true (by kernel_rfl)) (by unfold Func.isWrapper; first | (rw [if_pos (by decide +kernel)]; kernel_rfl) | (rw [if_neg (by decide +kernel)]; exact ⟨rfl, rfl⟩))
    (fun os started H enc _ F => by rw [OpenClaim.pre_eq_preRow]; exact scriptReads_lifted os started H enc F)
theorem scriptReads_plain (f : FuncId) (fn : Func) (hf : Tryz.pinned.checked.prog.funcNamed "pantry/pantrylaw26.ScriptReads" = some f) (hfn : Tryz.pinned.checked.prog.funcs[f]? = some fn) :
    true = Tryz.pinned.checked.prog.looks [] ∧ ∀ (j : Nat) t, fn.params[j]? = some t → Tryz.pinned.checked.prog.wantsStandIn t = false := by
  obtain rfl : f = 3 := Option.some.inj ((show Tryz.prog.funcNamed "pantry/pantrylaw26.ScriptReads" = some 3 by kernel_rfl).symm.trans hf) |>.symm
  obtain rfl : fn = Tryz.f3 := (Option.some.inj (Tryz.func3.symm.trans hfn)).symm
  refine ⟨by kernel_rfl, fun j t ht => ?_⟩
  have hall : (Tryz.f3.params.toList.all fun t => !Tryz.prog.wantsStandIn t) = true := by kernel_rfl
  have hm : t ∈ Tryz.f3.params.toList := by simpa using Array.mem_of_getElem? ht
  have := List.all_eq_true.1 hall t hm
  have h2 : Tryz.prog.wantsStandIn t = false := by simpa using this
  exact h2
/-- THE CARD. -/
theorem scriptReads_holds : Rows.ScriptReadsUptoCardSaid :=
  Claim7.holds_tied_plain_at .later [] _ _ _ _ scriptReads_said (fun _ h => by cases h) (by kernel_rfl) (fun _ h => by cases h) scriptReadsUpto_row_tie rfl ⟨rfl, rfl⟩ (by kernel_rfl) rfl scriptReads_plain (by kernel_rfl)
#print axioms scriptReads_holds
end Go.Proofs.YtgnmjfnkibbnkaaGreatDoor

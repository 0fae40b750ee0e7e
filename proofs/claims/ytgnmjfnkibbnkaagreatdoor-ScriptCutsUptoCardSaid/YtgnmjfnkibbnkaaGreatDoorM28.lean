/- ScriptCuts: THE CARD: whatever the input, the law answers true, and each argument reads as it did; where the arguments are together of bulk at most 1048576. -/
import Derived.Test.YtgnmjfnkibbnkaaGreatDoorM25
import Derived.Test.YtgnmjfnkibbnkaaGreatDoorM27
set_option linter.unusedSimpArgs false
set_option linter.unusedVariables false
namespace Go.Proofs.YtgnmjfnkibbnkaaGreatDoor
open Go Go.ChangeShapes Go.WideShapes Go.RowKit Go.Proofs.PantryEng
set_option maxRecDepth 100000

theorem scriptCuts_contract (H : Type) (enc : TypeId × Value → H) (W : World) (base : Nat) (args : Array Value) (ds gs : List (DataW H)) (before : List MemPlace)
    (hval : ∀ (j : Nat) t v, Tryz.f5.params[j]? = some t → args[j]? = some v → Value.okWide Tryz.prog W .any base t v)
    (hW : DataW.Whole enc Tryz.prog Tryz.f5.params.toList Rows.scriptCutsSpec.vars false W args.toList ds gs before) (hL : laidMetH Tryz.prog theLaid W) (hk : Rows.uptoSmall H (ds ++ gs) = true) :
    Calls Tryz.prog 5 args W fun e W' => ∃ v, e = .returned v ∧ Rows.scriptCutsSpec.post enc Tryz.prog Tryz.f5 false true false false W args v W' := by
  have hW' := hW
  obtain ⟨p, q, hA0, hV, rfl, hfz, hnd⟩ := hW
  have hA : DataW.TrodAll enc Tryz.prog W 0 (fun _ => true) true Tryz.f5.params.toList args.toList ds p := hA0
  rw [Tryz.params5] at hA hval
  obtain ⟨v0, vs0, d0, ds0, p0, q0, hargs, rfl, rfl, h0, r0⟩ := trodAll_cons hA
  obtain ⟨v1, vs1, d1, ds1, p1, q1, rfl, rfl, rfl, h1, r1⟩ := trodAll_cons r0
  obtain ⟨v2, vs2, d2, ds2, p2, q2, rfl, rfl, rfl, h2, r2⟩ := trodAll_cons r1
  obtain ⟨v3, vs3, d3, ds3, p3, q3, rfl, rfl, rfl, h3, r3⟩ := trodAll_cons r2
  obtain ⟨rfl, rfl, rfl⟩ := trodAll_nil r3
  obtain rfl : args = #[v0, v1, v2, v3] := by cases args; simp_all
  obtain ⟨rfl, rfl⟩ := trodVars_none hV
  simp only [List.append_nil] at hW' hk
  have hk' : Rows.uptoBulkAll [d0, d1, d2, d3] ≤ 1048576 := of_decide_eq_true hk
  simp only [Rows.uptoBulkAll] at hk'
  have a0 := Args.zero (w := W) (tR := 270) (tErr := 212) (by decide) (handle_of_laid hL)
  obtain ⟨cfg0, rfl, hcl0, _⟩ := Args.struct uCfg fCfg (hval 0 _ v0 rfl rfl) h0
  rw [cellCfg] at hcl0
  obtain ⟨f2, hh2, x1, L1, a2, ri2, t1, s1, w1, b1⟩ := a0.slices uProgs uOps cellOps fOp (by rw [cellOp]; omega) (hval 1 _ v1 rfl rfl) h1
  rw [cellOp] at s1 b1
  have g1 : (L1.flatMap itemsP).length ≤ 5 * Rows.uptoBulk d1 ∧ ∀ p ∈ L1, p.length ≤ 4 * Rows.uptoBulk d1 := by
    rcases b1 with ⟨rfl, _⟩ | ⟨dl, rest, rfl, _, hall⟩
    · simp
    · have := bulk_rows hall
      have h5 := bulk_slice dl rest
      exact ⟨by omega, fun p hp => by have := this.2 p hp; omega⟩
  obtain ⟨f3, hh3, x2, zs2, a3, ri3, t2, s2, w2, b2⟩ := a2.slice uInts fInts (by rw [cell3]; omega) (hval 2 _ v2 rfl rfl) h2
  rw [cell3] at s2 b2
  have g2 := bulk_oneOf b2
  obtain ⟨f4, hh4, x3, bs3, a4, ri4, t3, s3, w3, b3⟩ := a3.slice uBytes fBytes (by rw [cell5]; omega) (hval 3 _ v3 rfl rfl) h3
  rw [cell5] at s3 b3
  have g3 := bulk_oneOf b3
  have hbytes3 : Bytes bs3 := byte_of w3
  have htok : hh4.get 0 = some tokT := by
    have := heap0_tok 270 212
    rw [← ((ri2.trans (ri3.trans ri4))).old 0 Nat.one_pos |>.1] at this
    exact this
  have hens := cuts_ok (R := []) (more := bs3) (cfg := cfg0) (ps := L1) (l := zs2) (x1 := x1) (x2 := x2) (x3 := x3) a4.sat htok hcl0 (((ri3.trans ri4).showsL s1).view) ((ri4.shows s2).view) (s3.view) hbytes3 (by
    simp only [items, List.length_append, List.length_map, List.length_cons]; omega) (fun p hp => by have := g1.2 p hp; omega)
  obtain ⟨r, hr, hans, rfl⟩ := hens
  have htr : All2 (TR (Lt hh4.next) f4) [.agg ⟨ints .i64 cfg0⟩, x1, x2, x3] [.agg ⟨ints .i64 cfg0⟩, v1, v2, v3] := .cons (TR.ints cfg0) (.cons ((ri3.trans ri4).tr t1) (.cons (ri4.tr t2) (.cons t3 .nil)))
  refine (bridge prW_ok a4.wr a4.no htr hans).mono fun e W' ⟨he, hb⟩ => ?_
  subst he
  have hlt : ∀ x ∈ p0 ++ (p1 ++ (p2 ++ (p3 ++ []))), x.block < W.heap.size := fun x hx => by simpa using hW'.lt x (by simpa using hx)
  have hold : ∀ x ∈ p0 ++ (p1 ++ (p2 ++ (p3 ++ []))), (fun b => decide (b < W.heap.size)) x.block = true := fun x hx => by simpa using hlt x hx
  refine ⟨_, rfl, _, _, _, [], p0 ++ (p1 ++ (p2 ++ (p3 ++ []))), [], hW', ?_, ?_, ?_, hb.frame _, fun h => by cases h⟩
  · exact trodAll_cons_mk (shut_bool Tryz.underlying4 _) trodAll_mk0
  · exact trodAll_cons_mk (Trod_stays' (fun x hx => by simp [hx]) hlt hold hb h0) (trodAll_cons_mk (Trod_stays' (fun x hx => by simp [hx]) hlt hold hb h1) (trodAll_cons_mk (Trod_stays' (fun x hx => by simp [hx]) hlt hold hb h2) (trodAll_cons_mk (Trod_stays' (fun x hx => by simp [hx]) hlt hold hb h3) trodAll_mk0)))
  · rfl

/-! ### the card -/
def scriptCutsArgs : Array Value := #[.agg #[.int .i64 0, .int .i64 0, .int .i64 0, .int .i64 0, .int .i64 0, .int .i64 0], .slice none 0 0, .slice none 0 0, .slice none 0 0]
theorem scriptCuts_reads (os : Os) {H : Type} (enc : TypeId × Value → H) : ∃ places, DataW.whole enc Tryz.prog ((laidWorld os).forCall (fun _ _ => 0) ⟨#[], scriptCutsArgs, []⟩).memory Tryz.f5.params.toList Rows.scriptCutsSpec.vars false scriptCutsArgs.toList 8 =
    some ([.agg [.lit (.int .i64 0), .lit (.int .i64 0), .lit (.int .i64 0), .lit (.int .i64 0), .lit (.int .i64 0), .lit (.int .i64 0)], .nil, .nil, .nil], [], places) :=
  ⟨[], by kernel_rfl⟩
theorem scriptCuts_lifted (os : Os) (started : os.Started) (H : Type) (enc : TypeId × Value → H) (F : Stop.Interp) :
    ReturnsInHanded {} Tryz.checked os 5 .any ((Rows.OpenSpec.upto Rows.scriptCutsSpec).preRow enc Tryz.prog Tryz.f5 Rows.scriptCutsUptoRow.domain false Rows.scriptCutsUptoRow.laid) (((Rows.OpenSpec.upto Rows.scriptCutsSpec).at F).post enc Tryz.prog Tryz.f5 false true false false) := by
  obtain ⟨places, hx⟩ := scriptCuts_reads os enc
  refine returnsInHanded_of_row (C := Tryz.checked) (s := Rows.OpenSpec.upto Rows.scriptCutsSpec) ownN started (by kernel_rfl) Tryz.func5
    (witness_row_at (enc := enc) (C := Tryz.checked) false (laidWorld os) scriptCutsArgs rfl (by kernel_rfl) (by kernel_rfl) (by kernel_rfl)
      (OpenSpec.preRow_of_cond 8 hx (by kernel_rfl) (fun k hk => by cases hk; kernel_rfl) (by kernel_rfl) (laidWorld_met os _))) ?_
  intro W base args ds gs before hval hW _ hk _ hL _ _
  exact scriptCuts_contract H enc W base args ds gs before hval hW hL (hk _ rfl)
theorem scriptCuts_said : Rows.ScriptCutsUptoSaid :=
  OpenClaim.holds_of_cond 5 Tryz.f5 rfl rfl rfl rfl rfl rfl rfl ⟨rfl, rfl, rfl, rfl, rfl⟩ rfl rfl rfl rfl rfl (by kernel_rfl) Tryz.func5 (by kernel_rfl)
    (of_decide_eq_true (by kernel_rfl)) (by unfold Func.isWrapper; first | (rw [if_pos (by decide +kernel)]; kernel_rfl) | (rw [if_neg (by decide +kernel)]; exact ⟨rfl, rfl⟩))
    (fun os started H enc _ F => by rw [OpenClaim.pre_eq_preRow]; exact scriptCuts_lifted os started H enc F)
theorem scriptCuts_plain (f : FuncId) (fn : Func) (hf : Tryz.pinned.checked.prog.funcNamed "pantry/pantrylaw26.ScriptCuts" = some f) (hfn : Tryz.pinned.checked.prog.funcs[f]? = some fn) :
    true = Tryz.pinned.checked.prog.looks [] ∧ ∀ (j : Nat) t, fn.params[j]? = some t → Tryz.pinned.checked.prog.wantsStandIn t = false := by
  obtain rfl : f = 5 := Option.some.inj ((show Tryz.prog.funcNamed "pantry/pantrylaw26.ScriptCuts" = some 5 by kernel_rfl).symm.trans hf) |>.symm
  obtain rfl : fn = Tryz.f5 := (Option.some.inj (Tryz.func5.symm.trans hfn)).symm
  refine ⟨by kernel_rfl, fun j t ht => ?_⟩
  have hall : (Tryz.f5.params.toList.all fun t => !Tryz.prog.wantsStandIn t) = true := by kernel_rfl
  have hm : t ∈ Tryz.f5.params.toList := by simpa using Array.mem_of_getElem? ht
  have := List.all_eq_true.1 hall t hm
  have h2 : Tryz.prog.wantsStandIn t = false := by simpa using this
  exact h2
/-- THE CARD. -/
theorem scriptCuts_holds : Rows.ScriptCutsUptoCardSaid :=
  Claim7.holds_tied_plain_at .later [] _ _ _ _ scriptCuts_said (fun _ h => by cases h) (by kernel_rfl) (fun _ h => by cases h) scriptCutsUpto_row_tie rfl ⟨rfl, rfl⟩ (by kernel_rfl) rfl scriptCuts_plain (by kernel_rfl)
#print axioms scriptCuts_holds
end Go.Proofs.YtgnmjfnkibbnkaaGreatDoor

/- The engine, part 7d: a region that draws its order: the order that was reckoned with. -/
import Derived.Test.YtgnmjfnkibbnkaaGreatDoorM4
import Derived.Orders
set_option linter.unusedSimpArgs false
set_option linter.unusedVariables false
namespace Go.Proofs.PantryEng
open Go

/-- What a call leaves. -/
def RetR (f : Inj) (h : AHeap) (w : World) (r : Value) (h' : AHeap) : Ending → World → Prop :=
  fun e w' => ∃ f' r', e = .returned r' ∧ TR (Lt h'.next) f' r r' ∧ WR (Lt h'.next) f' h' w' ∧ Ext f h w f' h' w'

/-- What the interpreter says of a function is what every run of it answers. -/
def CallOK (P : Program) (call : CallF) : Prop :=
  ∀ F args h r h', call F args h = some (r, h') → (∀ args w, (callFunc F args).run P w = .ok (.enter F args) w) ∧
    ∀ f w args', WR (Lt h.next) f h w → All2 (TR (Lt h.next) f) args args' → Calls P F ⟨args'⟩ w (RetR f h w r h')

/-- The table of methods is the program's. -/
def TblOK (P : Program) (ms : List String) (tbl : List (List (TypeId × FuncId))) : Prop :=
  ∀ m name, ms.idxOf? name = some m → ∀ t F, (tbl.getD m []).lookup t = some F → ∀ v w, (method (P.types.size + Made.depth) t v name).run P w = .ok (F, v) w

section
variable {P : Program} {ms : List String} {N : Nat} {tbl : List (List (TypeId × FuncId))} {call : CallF} {f : Inj} {h h' : AHeap} {w : World} {e : Env} {a : Act} {ops : Array Oper} {Q : Exit → Act → World → Prop}

theorem TR.bool_left {D : Dom} {v : Value} {b : Bool} (h : TR D f v (.bool b)) : v = .bool b := by
  cases h with
  | g h => cases h with | c h => cases h with | s h => cases h; rfl

theorem wanted_eq {o : Oper} {D : Dom} (he : EnvR D f N e a) (hb : cOper P ms N ops o ≠ badOper) : wantedA (cOper P ms N ops o) e = Region.wanted o (yielded ops a.tmps) := by
  unfold cOper at hb ⊢
  split at hb
  · rename_i hd
    rw [if_pos hd]
    split at hb
    · rename_i hg; simp [wantedA, Region.wanted, hg]
    · rename_i j want hg
      split at hb
      · rename_i t ht
        split at hb
        · rename_i htn
          simp only [ht, htn, if_true, wantedA, Region.wanted, hg]
          have hR := he.2.2 t htn
          have hsz : t < a.tmps.size := by rw [he.1]; exact htn
          have hgd : a.tmps.getD t undef = a.tmps[t] := by simp [Array.getD, hsz]
          rw [hgd] at hR
          have hy : yielded ops a.tmps j = match a.tmps[t] with | .bool b => some b | _ => none := by
            unfold yielded
            simp only [ht, Option.bind_some]
            rw [Array.getElem?_eq_getElem hsz]
            cases a.tmps[t] <;> rfl
          rw [hy]
          unfold yieldedA
          cases hv : e.get t with
          | none =>
            have : e.at t = noValue := by simp [Env.at, hv]
            rw [this] at hR
            obtain ⟨l, _, h2⟩ := hR.tuple_inv
            rw [h2]; rfl
          | some v =>
            have : e.at t = v := by simp [Env.at, hv]
            rw [this] at hR
            cases hat : a.tmps[t] with
            | bool b =>
              rw [hat] at hR
              rw [hR.bool_left]
              cases b <;> cases want <;> rfl
            | _ =>
              rw [hat] at hR
              have hnb : ∀ b, v ≠ .bool b := by
                intro b e1; subst e1; have := hR.bool_inv; simp at this
              cases v <;> first | rfl | exact absurd rfl (hnb _)
        · exact absurd rfl hb
      · exact absurd rfl hb
  · exact absurd rfl hb

/-- The parts of an operation that is compiled. -/
theorem cOper_parts {o : Oper} (hb : cOper P ms N ops o ≠ badOper) : (cOper P ms N ops o).dst = o.dst ∧ (cOper P ms N ops o).op = cOp P ms N o.op ∧ cDst N o.dst = true := by
  unfold cOper at hb ⊢
  split at hb
  · rename_i hd
    rw [if_pos hd]
    split at hb
    · rename_i hg; exact ⟨rfl, rfl, hd⟩
    · rename_i j want hg
      split at hb
      · rename_i t ht
        split at hb
        · rename_i htn; rw [if_pos htn]; exact ⟨rfl, rfl, hd⟩
        · exact absurd rfl hb
      · exact absurd rfl hb
  · exact absurd rfl hb

theorem sim_call (hc : CallOK P call) (ht : TblOK P ms tbl) {o : Oper} {c : ACallee} {as : List Opd} {v : Value} (hq : cOp P ms N o.op = .e (.call c as)) (he : EnvR (Lt h.next) f N e a) (hw : WR (Lt h.next) f h w)
    (hv : evE tbl call e h (.call c as) = some (v, h')) : ∃ F args', (execOp a.eval o).run P w = .ok (.enter F args') w ∧ Calls P F args' w (RetR f h w v h') := by
  obtain ⟨dst, op, ty, pos, after, guard⟩ := o
  simp only at hq
  cases op with
  | call cl =>
    obtain ⟨callee, args, ts⟩ := cl
    have harr : args.map a.eval = ⟨args.toList.map a.eval⟩ := by apply Array.toList_inj.1; simp
    cases callee with
    | value g =>
      obtain ⟨g', hg, hq⟩ := get1_e hq
      obtain ⟨l, hl, hq⟩ := get1_e hq
      injection hq with hq; injection hq with h1 h2; subst h1; subst h2
      have hR := cOpd_R he hg
      have hRs := cOpds_R he hl
      simp only [evE] at hv
      split at hv
      · rename_i F first cap e1
        rw [e1] at hR
        obtain ⟨a', c', k1, k2, k3⟩ := hR.func_inv
        obtain ⟨hen, hcl⟩ := hc _ _ _ _ _ hv
        have hall : All2 (TR (Lt h.next) f) (first ++ l.map (·.ev e) ++ cap) (a' ++ args.toList.map a.eval ++ c') := ((k1.mono fun _ _ => TR.sr).append hRs).append (k2.mono fun _ _ => TR.sr)
        refine ⟨F, ⟨a' ++ args.toList.map a.eval ++ c'⟩, ?_, hcl f w _ hw hall⟩
        have e2 : (⟨a'⟩ : Array Value) ++ ⟨args.toList.map a.eval⟩ ++ ⟨c'⟩ = ⟨a' ++ args.toList.map a.eval ++ c'⟩ := by apply Array.toList_inj.1; simp
        simp only [execOp, resolve, k3, Deferred.ofValue, pure_bind, invoke, harr, e2, hen]
      · simp at hv
    | invoke g name =>
      obtain ⟨g', hg, hq⟩ := get1_e hq
      obtain ⟨l, hl, hq⟩ := get1_e hq
      split at hq
      · rename_i m hm
        injection hq with hq; injection hq with h1 h2; subst h1; subst h2
        have hR := cOpd_R he hg
        have hRs := cOpds_R he hl
        simp only [evE] at hv
        split at hv
        · rename_i t u e1
          split at hv
          · rename_i F hF
            rw [e1] at hR
            obtain ⟨u', k1, k2⟩ := hR.iface_inv
            obtain ⟨hen, hcl⟩ := hc _ _ _ _ _ hv
            have hall : All2 (TR (Lt h.next) f) (u :: l.map (·.ev e)) (u' :: args.toList.map a.eval) := .cons (.sr k1) hRs
            refine ⟨F, ⟨u' :: args.toList.map a.eval⟩, ?_, hcl f w _ hw hall⟩
            have hm' := ht m name hm t F hF u' w
            have e2 : (#[Value.iface t u'] ++ (⟨args.toList.map a.eval⟩ : Array Value))[0]? = some (.iface t u') := by simp
            have e3 : (#[Value.iface t u'] ++ (⟨args.toList.map a.eval⟩ : Array Value)).extract 1 (#[Value.iface t u'] ++ (⟨args.toList.map a.eval⟩ : Array Value)).size = ⟨args.toList.map a.eval⟩ := by
              apply Array.toList_inj.1; simp
              exact List.take_of_length_le (by simp)
            have e4 : #[u'] ++ (⟨args.toList.map a.eval⟩ : Array Value) = ⟨u' :: args.toList.map a.eval⟩ := by apply Array.toList_inj.1; simp
            simp only [execOp, resolve, k2, pure_bind, invoke, harr, e2, e3, callMethod, Sem.run_bind, run_program, Result.andThen_ok, hm', e4, hen]
          · simp at hv
        · simp at hv
      · simp at hq
    | builtin b =>
      obtain ⟨l, hl, hq⟩ := get1_e hq
      unfold cBuiltin at hq
      split at hq <;> (repeat' split at hq) <;> simp at hq
  | store t x y => obtain ⟨_, _, hq⟩ := get1_e hq; obtain ⟨_, _, hq⟩ := get1_e hq; obtain ⟨_, _, hq⟩ := get1_e hq; simp at hq
  | mapUpdate t m k x =>
    simp only [cOp] at hq
    split at hq
    · split at hq
      · obtain ⟨_, _, hq⟩ := get1_e hq; obtain ⟨_, _, hq⟩ := get1_e hq; obtain ⟨_, _, hq⟩ := get1_e hq; simp at hq
      · simp at hq
    · simp at hq
  | alloc t => obtain ⟨_, _, hq⟩ := get1_e hq; simp at hq
  | box t x => obtain ⟨_, _, hq⟩ := get1_e hq; simp at hq
  | buildSlice t len parts =>
    simp only [cOp] at hq
    split at hq
    · obtain ⟨_, _, hq⟩ := get1_e hq
      obtain ⟨_, _, hq⟩ := get1_e hq
      obtain ⟨_, hq⟩ := get1_ife hq
      obtain ⟨_, _, hq⟩ := get1_e hq
      simp at hq
    · simp at hq
  | makeMap t r => cases r <;> simp [cOp] at hq
  | makeSlice t l c =>
    simp only [cOp] at hq
    split at hq
    · obtain ⟨_, _, hq⟩ := get1_e hq
      obtain ⟨_, _, hq⟩ := get1_e hq
      obtain ⟨_, _, hq⟩ := get1_e hq
      obtain ⟨_, _, hq⟩ := get1_e hq
      obtain ⟨_, _, hq⟩ := get1_e hq
      obtain ⟨_, hq⟩ := get1_ife hq
      simp at hq
    · simp at hq
  | move x => obtain ⟨_, _, hq⟩ := get1_e hq; simp at hq
  | assign x => obtain ⟨_, _, hq⟩ := get1_e hq; simp at hq
  | pick c x y =>
    obtain ⟨_, _, hq⟩ := get1_e hq
    obtain ⟨_, _, hq⟩ := get1_e hq
    obtain ⟨_, _, hq⟩ := get1_e hq
    simp at hq
  | build t parts =>
    obtain ⟨_, _, hq⟩ := get1_e hq
    split at hq
    · obtain ⟨_, _, hq⟩ := get1_e hq; obtain ⟨_, _, hq⟩ := get1_e hq; simp at hq
    · obtain ⟨_, _, hq⟩ := get1_e hq; obtain ⟨_, _, hq⟩ := get1_e hq; simp at hq
    · simp at hq
  | load t x => obtain ⟨_, _, hq⟩ := get1_e hq; obtain ⟨_, _, hq⟩ := get1_e hq; obtain ⟨_, _, hq⟩ := get1_e hq; simp at hq
  | nilCheck x => obtain ⟨_, _, hq⟩ := get1_e hq; simp at hq
  | binOp op t x y yt => obtain ⟨_, _, hq⟩ := get1_e hq; obtain ⟨_, _, hq⟩ := get1_e hq; simp at hq
  | unOp op t x => cases op <;> first | (simp [cOp] at hq; done) | (obtain ⟨_, _, hq⟩ := get1_e hq; simp at hq)
  | convert s d x => obtain ⟨_, _, hq⟩ := get1_e hq; simp at hq
  | makeInterface t x => obtain ⟨_, _, hq⟩ := get1_e hq; split at hq <;> simp at hq
  | makeFunc fn x y => cases fn <;> first | (simp [cOp] at hq; done) | (obtain ⟨_, _, hq⟩ := get1_e hq; obtain ⟨_, _, hq⟩ := get1_e hq; simp at hq)
  | slice t x lo hi mx =>
    obtain ⟨_, _, hq⟩ := get1_e hq; obtain ⟨_, _, hq⟩ := get1_e hq; obtain ⟨_, _, hq⟩ := get1_e hq; obtain ⟨_, _, hq⟩ := get1_e hq
    split at hq
    · obtain ⟨_, _, hq⟩ := get1_e hq; split at hq <;> simp at hq
    · simp at hq
    · simp at hq
  | fieldAddr t x i =>
    simp only [cOp] at hq
    split at hq
    · obtain ⟨_, _, hq⟩ := get1_e hq; obtain ⟨_, _, hq⟩ := get1_e hq; split at hq <;> simp at hq
    · simp at hq
  | field t x i =>
    simp only [cOp] at hq
    split at hq
    · obtain ⟨_, _, hq⟩ := get1_e hq; obtain ⟨_, _, hq⟩ := get1_e hq; obtain ⟨_, _, hq⟩ := get1_e hq; obtain ⟨_, _, hq⟩ := get1_e hq; simp at hq
    · simp at hq
  | indexAddr t x i =>
    obtain ⟨_, _, hq⟩ := get1_e hq; obtain ⟨_, _, hq⟩ := get1_e hq
    split at hq
    · obtain ⟨_, _, hq⟩ := get1_e hq; simp at hq
    · obtain ⟨_, _, hq⟩ := get1_e hq; simp at hq
    · simp at hq
  | index t x i =>
    obtain ⟨_, _, hq⟩ := get1_e hq; obtain ⟨_, _, hq⟩ := get1_e hq
    split at hq
    · obtain ⟨_, _, hq⟩ := get1_e hq; obtain ⟨_, _, hq⟩ := get1_e hq; simp at hq
    · simp at hq
    · simp at hq
  | lookup t m k ok =>
    simp only [cOp] at hq
    split at hq
    · split at hq
      · obtain ⟨_, _, hq⟩ := get1_e hq; obtain ⟨_, _, hq⟩ := get1_e hq; obtain ⟨_, _, hq⟩ := get1_e hq; split at hq <;> simp at hq
      · simp at hq
    · simp at hq
  | extract x i => obtain ⟨_, _, hq⟩ := get1_e hq; simp at hq
  | _ => simp [cOp] at hq

/-- A write or a call, in a region. -/
theorem wp_eff (hc : CallOK P call) (ht : TblOK P ms tbl) {o : Oper} {q : EOp} {v : Value} {a2 : Act} (hx : execOp a2.eval o = execOp a.eval o) (hq : cOp P ms N o.op = .e q) (hd : cDst N o.dst = true) (he : EnvR (Lt h.next) f N e a) (hw : WR (Lt h.next) f h w)
    (hv : evE tbl call e h q = some (v, h')) {next : Act → World → Prop}
    (hn : ∀ v' w' f', TR (Lt h'.next) f' v v' → WR (Lt h'.next) f' h' w' → Ext f h w f' h' w' → next (a2.put o.dst v') w') : o.wp P a2 w next Q := by
  by_cases hcall : ∃ c as, q = .call c as
  · obtain ⟨c, as, rfl⟩ := hcall
    obtain ⟨F, args', k1, k2⟩ := sim_call hc ht hq he hw hv
    unfold Oper.wp
    rw [hx, k1]
    refine Calls.mono k2 fun e w' hr => ?_
    obtain ⟨f', r', rfl, r1, r2, r3⟩ := hr
    exact hn r' w' f' r1 r2 r3
  · obtain ⟨nx, w', f', v', k1, k2, k3, k4, k5⟩ := simE (P := P) hq (fun c as e => hcall ⟨c, as, e⟩) he hw hv
    unfold Oper.wp
    rw [hx, k1]
    rcases k2 with rfl | ⟨rfl, rfl⟩
    · exact hn _ _ _ k3 k4 k5
    · exact hn _ _ _ k3 k4 k5

/-- An operation, in a region. -/
theorem wp_oper (hc : CallOK P call) (ht : TblOK P ms tbl) {o : Oper} {ao : AOp} {v : Value} (hq : cOp P ms N o.op = ao) (hd : cDst N o.dst = true) (he : EnvR (Lt h.next) f N e a) (hw : WR (Lt h.next) f h w)
    (hv : evOp tbl call e h ao = some (v, h')) {next : Act → World → Prop}
    (hn : ∀ a' w' f', EnvR (Lt h'.next) f' N (e.put o.dst v) a' → WR (Lt h'.next) f' h' w' → Ext f h w f' h' w' → next a' w') : o.wp P a w next Q := by
  cases ao with
  | p op =>
    simp only [evOp] at hv
    cases hp : evP e h op with
    | none => rw [hp] at hv; simp at hv
    | some u =>
      rw [hp] at hv
      simp only [Option.map_some, Option.some.injEq, Prod.mk.injEq] at hv
      obtain ⟨rfl, rfl⟩ := hv
      obtain ⟨v', k1, k2⟩ := simP (P := P) hq he hw hp
      unfold Oper.wp
      rw [k1]
      exact hn _ _ f (he.put hd k2) hw (Ext.refl _ _ _)
  | l op =>
    simp only [evOp] at hv
    cases hl : evL e op with
    | none => rw [hl] at hv; simp at hv
    | some x =>
      obtain ⟨ob, mk⟩ := x
      rw [hl] at hv
      simp only [Option.map_some, Option.some.injEq, Prod.mk.injEq] at hv
      obtain ⟨rfl, rfl⟩ := hv
      obtain ⟨O, v', k1, k2⟩ := simL (P := P) (w := w) hq he hl
      obtain ⟨f', r1, r2, r3⟩ := hw.lay k2
      unfold Oper.wp
      rw [k1]
      exact hn _ _ f' ((he.mono r3.le).put hd r1) r2 r3
  | e op =>
    simp only [evOp] at hv
    exact wp_eff hc ht rfl hq hd he hw hv fun v' w' f' r1 r2 r3 => hn _ _ f' ((he.mono r3.le).put hd r1) r2 r3

/-- A REGION WHOSE ORDER IS THE TEXT's. -/
theorem sim_ops (hc : CallOK P call) (ht : TblOK P ms tbl) : ∀ (l : List Oper) (e : Env) (h : AHeap) (a : Act) (w : World) (f : Inj) (e' : Env) (h' : AHeap), EnvR (Lt h.next) f N e a → WR (Lt h.next) f h w →
    evOps tbl call (l.map (cOper P ms N ops)) e h = some (e', h') →
    (∀ a' w' f', EnvR (Lt h'.next) f' N e' a' → WR (Lt h'.next) f' h' w' → Ext f h w f' h' w' → Q .normal a' w') → wpList P ops Q l a w := by
  intro l
  induction l with
  | nil =>
    intro e h a w f e' h' he hw hv hq
    simp only [List.map_nil, evOps, Option.some.injEq, Prod.mk.injEq] at hv
    obtain ⟨rfl, rfl⟩ := hv
    exact hq a w f he hw (Ext.refl _ _ _)
  | cons o l ih =>
    intro e h a w f e' h' he hw hv hq
    simp only [List.map_cons, evOps] at hv
    by_cases hb : cOper P ms N ops o = badOper
    · rw [hb] at hv
      simp [badOper, wantedA, evOp, evP] at hv
    · obtain ⟨p1, p2, p3⟩ := cOper_parts hb
      have hwt := wanted_eq he hb
      unfold wpList
      cases hwa : wantedA (cOper P ms N ops o) e with
      | true =>
        rw [hwa] at hwt hv
        rw [if_pos hwt.symm]
        simp only [cond_true] at hv
        rw [p2] at hv
        cases hop : evOp tbl call e h (cOp P ms N o.op) with
        | none => rw [hop] at hv; simp at hv
        | some x =>
          obtain ⟨v, h1⟩ := x
          rw [hop] at hv
          simp only at hv
          rw [p1] at hv
          refine .inl (wp_oper hc ht rfl p3 he hw hop fun a' w' f' r1 r2 r3 => ?_)
          exact ih _ _ _ _ _ _ _ r1 r2 hv fun a2 w2 f2 q1 q2 q3 => hq a2 w2 f2 q1 q2 (r3.trans q3)
      | false =>
        rw [hwa] at hwt hv
        rw [if_neg (by rw [← hwt]; simp)]
        simp only [cond_false] at hv
        rw [p1] at hv
        exact ih _ _ _ _ _ _ _ (he.put p3 (TR.undef _ _)) hw hv hq

end
end Go.Proofs.PantryEng
namespace Go.Proofs.PantryEng
open Go

/-! ### on its operands -/
section
variable {e e' : Env} {h : AHeap}

theorem map_ev : ∀ {l : List Opd}, (∀ y ∈ l, y.ev e = y.ev e') → l.map (·.ev e) = l.map (·.ev e') := by
  intro l hl
  exact List.map_congr_left hl

theorem fillC_congr : ∀ {ps : List (Nat × Nat × Opd)} (cs : List Value), (∀ y ∈ ps.map (·.2.2), y.ev e = y.ev e') → fillC e cs ps = fillC e' cs ps := by
  intro ps
  induction ps with
  | nil => intro cs _; rfl
  | cons p ps ih =>
    obtain ⟨o, n, x⟩ := p
    intro cs hy
    have hx : x.ev e = x.ev e' := hy x (by simp)
    simp only [fillC, hx]
    split
    · exact ih _ fun y hm => hy y (by simp only [List.map_cons, List.mem_cons]; exact .inr hm)
    · rfl

theorem optL_ev {x : Option Opd} (h : ∀ y ∈ optL x, y.ev e = y.ev e') : x.map (·.ev e) = x.map (·.ev e') := by
  cases x with
  | none => rfl
  | some x => simp [h x (by simp [optL])]

theorem evP_congr {q : POp} (hy : ∀ y ∈ q.opds, y.ev e = y.ev e') : evP e h q = evP e' h q := by
  cases q <;> simp only [POp.opds] at hy
  case build z ps => simp only [evP, fillC_congr z hy]
  case makeFunc f a b =>
    have h1 : a.map (·.ev e) = a.map (·.ev e') := map_ev fun y hm => hy y (by simp [hm])
    have h2 : b.map (·.ev e) = b.map (·.ev e') := map_ev fun y hm => hy y (by simp [hm])
    simp only [evP, h1, h2]
  case max l => simp only [evP, map_ev hy]
  case min l => simp only [evP, map_ev hy]
  case slice str size x lo hi mx =>
    have h0 : x.ev e = x.ev e' := hy x (by simp)
    have h1 := optL_ev (x := lo) fun y hm => hy y (by simp [hm])
    have h2 := optL_ev (x := hi) fun y hm => hy y (by simp [hm])
    have h3 := optL_ev (x := mx) fun y hm => hy y (by simp [hm])
    simp only [evP, h0, h1, h2, h3]
  all_goals (first | rfl | (simp only [List.mem_cons, List.not_mem_nil, or_false, forall_eq_or_imp, forall_eq] at hy; simp only [evP, hy]))

theorem fillS_congr {size : Nat} {ps : List (Nat × Opd)} {cs : List Value} (hy : ∀ y ∈ ps.map (·.2), y.ev e = y.ev e') : fillS e size cs ps = fillS e' size cs ps := by
  rw [fillS_eq, fillS_eq]
  refine fillC_congr _ fun y hm => hy y ?_
  simp only [List.map_map, List.mem_map, Function.comp] at hm ⊢
  obtain ⟨p, h1, h2⟩ := hm
  exact ⟨p, h1, h2⟩

theorem evL_congr {q : LOp} (hy : ∀ y ∈ q.opds, y.ev e = y.ev e') : evL e q = evL e' q := by
  cases q <;> simp only [LOp.opds] at hy
  case buildSlice z n len ps => simp only [evL, fillS_congr hy]
  all_goals (first | rfl | (simp only [List.mem_cons, List.not_mem_nil, or_false, forall_eq_or_imp, forall_eq] at hy; simp only [evL, hy]))

theorem evE_congr {tbl : List (List (TypeId × FuncId))} {call : CallF} {q : EOp} (hy : ∀ y ∈ q.opds, y.ev e = y.ev e') : evE tbl call e h q = evE tbl call e' h q := by
  cases q
  case call c as =>
    cases c with
    | value f =>
      have h0 : f.ev e = f.ev e' := hy f (by simp [EOp.opds])
      have h1 : as.map (·.ev e) = as.map (·.ev e') := map_ev fun y hm => hy y (by simp [EOp.opds, hm])
      simp only [evE, h0, h1]
    | invoke f m =>
      have h0 : f.ev e = f.ev e' := hy f (by simp [EOp.opds])
      have h1 : as.map (·.ev e) = as.map (·.ev e') := map_ev fun y hm => hy y (by simp [EOp.opds, hm])
      simp only [evE, h0, h1]
  all_goals (simp only [EOp.opds, List.mem_cons, List.not_mem_nil, or_false, forall_eq_or_imp, forall_eq] at hy; simp only [evE, hy])

/-! ### on the heap -/
theorem evP_noheap {q : POp} (hq : readsHeap { dst := none, op := .p q, guard := none } = false) (h h' : AHeap) : evP e h q = evP e h' q := by
  cases q <;> first | rfl | (simp [readsHeap] at hq)

theorem readsHeap_op {o : AOper} {q : POp} (h : o.op = .p q) : readsHeap o = readsHeap { dst := none, op := .p q, guard := none } := by
  obtain ⟨d, op, g⟩ := o
  simp only at h
  subst h
  cases q <;> rfl

/-- A heap holds what another holds, in some blocks. -/
def Holds (D : Dom) (h k : AHeap) : Prop := ∀ b o, D b → h.get b = some o → k.get b = some o

variable {D : Dom} {f : Inj} {k : AHeap}

theorem Holds.cells? (hh : Holds D h k) {b : Nat} (hb : D b) {cs : List Value} (hc : h.cells? b = some cs) : k.cells? b = some cs := by
  unfold AHeap.cells? at *
  cases hg : h.get b with
  | none => simp [hg] at hc
  | some o => rw [hh b o hb hg]; rw [hg] at hc; exact hc

theorem Holds.map? (hh : Holds D h k) {b : Nat} (hb : D b) {es : List (Int × Value)} (hc : h.map? b = some es) : k.map? b = some es := by
  unfold AHeap.map? at *
  cases hg : h.get b with
  | none => simp [hg] at hc
  | some o => rw [hh b o hb hg]; rw [hg] at hc; exact hc

theorem Holds.cellsAt (hh : Holds D h k) {b o n : Nat} (hb : D b) {cs : List Value} (hc : h.cellsAt b o n = some cs) : k.cellsAt b o n = some cs := by
  unfold AHeap.cellsAt at *
  cases hg : h.cells? b with
  | none => simp [hg] at hc
  | some l => rw [hh.cells? hb hg]; rw [hg] at hc; exact hc

theorem Holds.cell (hh : Holds D h k) {b o : Nat} (hb : D b) {v : Value} (hc : h.cell b o = some v) : k.cell b o = some v := by
  unfold AHeap.cell at *
  cases hg : h.cells? b with
  | none => simp [hg] at hc
  | some l => rw [hh.cells? hb hg]; rw [hg] at hc; exact hc

theorem Holds.owns (hh : Holds D h k) {b : Nat} (hb : D b) (hc : h.owns b = true) : k.owns b = true := by
  unfold AHeap.owns at *
  cases hg : h.get b with
  | none => simp [hg] at hc
  | some o => rw [hh b o hb hg]; rw [hg] at hc; exact hc

theorem TR.ptr_dom {b o : Nat} {v' : Value} (h : TR D f (.pointer (some ⟨b, o, none⟩)) v') : D b := by
  cases h with | g h => cases h with | c h => cases h with | s h => cases h with | ptr _ _ _ h => exact h
theorem TR.slice_dom {b o n c : Nat} {v' : Value} (h : TR D f (.slice (some ⟨b, o, none⟩) n c) v') : D b := by
  cases h with | g h => cases h with | c h => cases h with | s h => cases h with | slice _ _ _ _ _ _ h => exact h
theorem TR.map_dom {b : Nat} {v' : Value} (h : TR D f (.map (some b)) v') : D b := by
  cases h with | g h => cases h with | c h => cases h with | s h => cases h with | map _ h => exact h

theorem Holds.ptrEq (hh : Holds D h k) {x y x' y' : Value} (hx : TR D f x x') (hy : TR D f y y') {b : Bool} (hv : ptrEq h x y = some b) : ptrEq k x y = some b := by
  unfold PantryEng.ptrEq at *
  split at hv <;> try exact hv
  rename_i b1 o1 b2 o2
  split
  · rename_i h1; rw [if_pos h1] at hv; exact hv
  · rename_i h1
    rw [if_neg h1] at hv
    split at hv
    · rename_i h2
      simp only [Bool.and_eq_true] at h2
      rw [if_pos (by simp [hh.owns hx.ptr_dom h2.1, hh.owns hy.ptr_dom h2.2])]
      exact hv
    · simp at hv

/-- AN ANSWER STANDS in a heap that holds as much of what the operands name. -/
theorem evP_holds (hh : Holds D h k) {q : POp} (hy : ∀ y ∈ q.opds, ∃ v', TR D f (y.ev e) v') {v : Value} (hv : evP e h q = some v) : evP e k q = some v := by
  cases hr : readsHeap { dst := none, op := .p q, guard := none } with
  | false => rw [evP_noheap hr k h]; exact hv
  | true =>
    cases q <;> simp [readsHeap] at hr
    case load agg n a =>
      obtain ⟨a', ha⟩ := hy a (by simp [POp.opds])
      simp only [evP] at hv ⊢
      split at hv
      · rename_i b o he
        rw [he] at ha
        split at hv
        · rename_i hg
          rw [if_pos hg]
          cases hc : h.cellsAt b o n with
          | none => simp [hc] at hv
          | some cs => rw [hh.cellsAt ha.ptr_dom hc]; rw [hc] at hv; exact hv
        · rename_i hg
          rw [if_neg hg]
          exact hh.cell ha.ptr_dom hv
      · simp at hv
    case eqPtr neg x y =>
      obtain ⟨x', hx⟩ := hy x (by simp [POp.opds])
      obtain ⟨y', hy⟩ := hy y (by simp [POp.opds])
      simp only [evP, PantryEng.flip] at hv ⊢
      cases hc : ptrEq h (x.ev e) (y.ev e) with
      | none => simp [hc] at hv
      | some b => rw [hh.ptrEq hx hy hc]; rw [hc] at hv; exact hv
    case lookup zero ok m k' =>
      obtain ⟨m', hm⟩ := hy m (by simp [POp.opds])
      simp only [evP] at hv ⊢
      unfold lookIn at *
      split at hv
      · rename_i kv he
        cases hc : mapOf h (m.ev e) with
        | none => simp [hc] at hv
        | some es =>
          have : mapOf k (m.ev e) = some es := by
            unfold mapOf at *
            split at hc
            · exact hc
            · rename_i r hr
              rw [hr] at hm
              exact hh.map? hm.map_dom hc
            · simp at hc
          rw [hc] at hv
          simp only [this]
          exact hv
      · simp at hv
    case lenM x =>
      obtain ⟨x', hx⟩ := hy x (by simp [POp.opds])
      simp only [evP] at hv ⊢
      split at hv
      · exact hv
      · rename_i r hr
        rw [hr] at hx
        cases hc : h.map? r with
        | none => simp [hc] at hv
        | some es => rw [hh.map? hx.map_dom hc]; rw [hc] at hv; exact hv
      · simp at hv
    case string x =>
      obtain ⟨x', hx⟩ := hy x (by simp [POp.opds])
      simp only [evP] at hv ⊢
      unfold strOf at *
      split at hv
      · exact hv
      · rename_i _ b o len _ hr
        rw [hr] at hx
        cases hc : h.cellsAt b o len with
        | none => simp [hc] at hv
        | some cs => rw [hc] at hv; simp only [hh.cellsAt hx.slice_dom hc]; exact hv
      · simp at hv

/-! ### that two values are one -/
theorem sameC_eq {u v : Value} (h : sameC u v = true) : u = v := by
  unfold sameC at h
  split at h <;> simp_all

theorem sameL_eq : ∀ {l m : List Value}, sameL l m = true → l = m := by
  intro l
  induction l with
  | nil => intro m h; cases m with | nil => rfl | cons _ _ => simp [sameL] at h
  | cons a l ih =>
    intro m h
    cases m with
    | nil => simp [sameL] at h
    | cons b m =>
      simp only [sameL, Bool.and_eq_true] at h
      rw [sameC_eq h.1, ih h.2]

theorem sameV_eq {u v : Value} (h : sameV u v = true) : u = v := by
  unfold sameV at h
  split at h
  · rw [sameL_eq h]
  · rw [sameL_eq h]
  · exact sameC_eq h

end
end Go.Proofs.PantryEng
namespace Go.Proofs.PantryEng
open Go

/-! ### ancestors -/
def anc (ops : Array Oper) (x y : Nat) : Prop := ((ancs ops.toList).getD x 0).testBit y = true

def ancF (acc : List Nat) (s : Nat) (e : Edge) : Nat := if Region.binds .any e then s ||| 2 ^ e.on ||| acc.getD e.on 0 else s

theorem ancFold_spec {acc : List Nat} {y : Nat} : ∀ {l : List Edge} {s : Nat}, (l.foldl (ancF acc) s).testBit y = true →
    s.testBit y = true ∨ ∃ e ∈ l, Region.binds .any e = true ∧ (y = e.on ∨ (acc.getD e.on 0).testBit y = true) := by
  intro l
  induction l with
  | nil => intro s h; exact .inl h
  | cons e l ih =>
    intro s h
    rcases ih h with h1 | ⟨e', h1, h2⟩
    · unfold ancF at h1
      split at h1
      · rename_i hb
        simp only [Nat.testBit_or, Bool.or_eq_true] at h1
        rcases h1 with (h1 | h1) | h1
        · exact .inl h1
        · rw [Nat.testBit_two_pow] at h1
          exact .inr ⟨e, by simp, hb, .inl (by simpa using h1 : e.on = y).symm⟩
        · exact .inr ⟨e, by simp, hb, .inr h1⟩
      · exact .inl h1
    · exact .inr ⟨e', by simp [h1], h2⟩

def AncI (done : List Oper) (acc : List Nat) : Prop :=
  acc.length = done.length ∧ ∀ x y, (acc.getD x 0).testBit y = true → ∃ o, done[x]? = some o ∧ ∃ e ∈ o.after.toList, Region.binds .any e = true ∧ (y = e.on ∨ (e.on < x ∧ (acc.getD e.on 0).testBit y = true))

theorem ancI_fold : ∀ {l done : List Oper} {acc : List Nat}, AncI done acc → AncI (done ++ l) (l.foldl ancStep acc) := by
  intro l
  induction l with
  | nil => intro done acc h; simpa using h
  | cons o l ih =>
    intro done acc h
    have h1 : AncI (done ++ [o]) (ancStep acc o) := by
      obtain ⟨hl, hs⟩ := h
      refine ⟨by simp [ancStep, hl], fun x y hxy => ?_⟩
      unfold ancStep at hxy ⊢
      by_cases hx : x < done.length
      · have e1 : ∀ z, z < done.length → (acc ++ [o.after.toList.foldl (fun s e => if Region.binds .any e then s ||| 2 ^ e.on ||| acc.getD e.on 0 else s) 0]).getD z 0 = acc.getD z 0 := by
          intro z hz
          simp [List.getD_eq_getElem?_getD, List.getElem?_append_left (show z < acc.length by omega)]
        rw [e1 x hx] at hxy
        obtain ⟨o', h1, e, h2, h3, h4⟩ := hs x y hxy
        refine ⟨o', by rw [List.getElem?_append_left hx]; exact h1, e, h2, h3, ?_⟩
        rcases h4 with h4 | ⟨h4, h5⟩
        · exact .inl h4
        · exact .inr ⟨h4, by rw [e1 _ (by omega)]; exact h5⟩
      · by_cases hx2 : x = done.length
        · subst hx2
          have e1 : (acc ++ [o.after.toList.foldl (fun s e => if Region.binds .any e then s ||| 2 ^ e.on ||| acc.getD e.on 0 else s) 0]).getD done.length 0 = o.after.toList.foldl (ancF acc) 0 := by
            simp [List.getD_eq_getElem?_getD, ← hl]; rfl
          rw [e1] at hxy
          rcases ancFold_spec hxy with h1 | ⟨e, h1, h2, h3⟩
          · simp at h1
          · refine ⟨o, by simp, e, h1, h2, ?_⟩
            rcases h3 with h3 | h3
            · exact .inl h3
            · refine .inr ?_
              have hlt : e.on < acc.length := by
                rcases Nat.lt_or_ge e.on acc.length with h | h
                · exact h
                · simp [List.getD_eq_getElem?_getD, List.getElem?_eq_none h] at h3
              refine ⟨by omega, ?_⟩
              simp only [List.getD_eq_getElem?_getD, List.getElem?_append_left hlt] at h3 ⊢
              exact h3
        · rw [List.getD_eq_getElem?_getD, List.getElem?_eq_none (by simp; omega)] at hxy
          simp at hxy
    have := ih h1
    simpa using this

theorem anc_spec {ops : Array Oper} {x y : Nat} (h : anc ops x y) : ∃ o, ops[x]? = some o ∧ ∃ e ∈ o.after, Region.binds .any e = true ∧ (y = e.on ∨ (e.on < x ∧ anc ops e.on y)) := by
  have h0 : AncI [] [] := ⟨rfl, by simp⟩
  obtain ⟨o, h1, e, h2, h3, h4⟩ := (ancI_fold (l := ops.toList) h0).2 x y h
  exact ⟨o, by simpa using h1, e, by simpa using h2, h3, h4⟩

/-- What is closed under that which must come ahead holds all that comes ahead. -/
theorem anc_closed {ops : Array Oper} {S : Nat → Prop} (hcl : ∀ x o, ops[x]? = some o → S x → ∀ e ∈ o.after, Region.binds .any e = true → S e.on) :
    ∀ x, (∀ o, ops[x]? = some o → ∀ e ∈ o.after, Region.binds .any e = true → S e.on) → ∀ y, anc ops x y → S y := by
  intro x
  induction x using Nat.strongRecOn with
  | ind x ih =>
    intro hx y hy
    obtain ⟨o, ho, e, he, hb, h⟩ := anc_spec hy
    have hs := hx o ho e he hb
    rcases h with rfl | ⟨hlt, h⟩
    · exact hs
    · exact ih e.on hlt (fun o' ho' => hcl _ o' ho' hs) y h

/-! ### what is checked of an order -/
section
variable {ops : Array Oper} {ao : List AOper} {order : List Nat}

structure Good (N : Nat) (ops : Array Oper) (ao : List AOper) (order : List Nat) : Prop where
  len : order.length = ops.size
  lt : ∀ k, k < ops.size → order.getD k 0 < ops.size
  surj : ∀ j, j < ops.size → ∃ k, k < ops.size ∧ order.getD k 0 = j
  inj : ∀ i k, i < k → k < ops.size → order.getD i 0 ≠ order.getD k 0
  eff : ∀ i k, i < k → k < ops.size → isEff (ao.getD (order.getD k 0) badOper) = true → anc ops (order.getD k 0) (order.getD i 0)
  clash : ∀ i k, i < k → k < ops.size → PantryEng.clash ops ao (order.getD i 0) (order.getD k 0) = true → anc ops (order.getD k 0) (order.getD i 0)
  opds : ∀ k, k < ops.size → readsHeap (ao.getD (order.getD k 0) badOper) = true → ∀ y ∈ (ao.getD (order.getD k 0) badOper).op.opds, okOpd N y = true
  after : ∀ k, k < ops.size → ∀ e ∈ (ops.getD (order.getD k 0) default).after, Region.binds .any e = true → ∃ i, i < k ∧ order.getD i 0 = e.on

theorem contains_getD {l : List Nat} {x : Nat} (h : l.contains x = true) : ∃ k, k < l.length ∧ l.getD k 0 = x := by
  have h1 : x ∈ l := by simpa using h
  obtain ⟨k, hk, e⟩ := List.mem_iff_getElem.1 h1
  exact ⟨k, hk, by simp [List.getD_eq_getElem?_getD, hk, e]⟩

theorem orderOK_good {N : Nat} (h : orderOK N ops ao (ancs ops.toList) order = true) : Good N ops ao order := by
  unfold orderOK at h
  simp only [Bool.and_eq_true, beq_iff_eq, List.all_eq_true, List.mem_range, decide_eq_true_eq, Bool.not_eq_true', Bool.or_eq_true] at h
  obtain ⟨⟨h1, h2⟩, h3⟩ := h
  refine ⟨h1, fun k hk => (h3 k hk).1.1.1, fun j hj => ?_, fun i k hi hk => ?_, fun i k hi hk he => ?_, fun i k hi hk hc => ?_, fun k hk hr y hy => ?_, fun k hk e he hb => ?_⟩
  · obtain ⟨k, h4, h5⟩ := contains_getD (h2 j hj)
    exact ⟨k, by omega, h5⟩
  · have := ((h3 k hk).1.2 i hi).1
    intro e
    rw [e] at this
    simp at this
  · rcases ((h3 k hk).1.2 i hi).2 with h | h
    · exact h
    · rw [he] at h; simp at h
  · rcases ((h3 k hk).1.2 i hi).2 with h | h
    · exact h
    · rw [hc] at h; simp at h
  · rcases (h3 k hk).1.1.2 with h | h
    · rw [hr] at h; simp at h
    · exact h y hy
  · have h4 := (h3 k hk).2 e (by simpa using he)
    rcases h4 with h4 | h4
    · rw [hb] at h4; simp at h4
    · obtain ⟨i, h5, h6⟩ := contains_getD h4
      rw [List.length_take] at h5
      refine ⟨i, by omega, ?_⟩
      rw [← h6]
      simp [List.getD_eq_getElem?_getD, List.getElem?_take, show i < k by omega]

end

/-! ### how many are left -/
def unl (n : Nat) (listed : Array Bool) : List Nat := (List.range n).filter fun i => !listed.getD i true

theorem filter_drop {p q : Nat → Bool} {x : Nat} : ∀ {l : List Nat}, x ∈ l → p x = true → (∀ i, q i = (p i && i != x)) → (l.filter q).length < (l.filter p).length := by
  have hle : ∀ l : List Nat, (∀ i, q i = (p i && i != x)) → (l.filter q).length ≤ (l.filter p).length := by
    intro l hq
    induction l with
    | nil => simp
    | cons a l ih =>
      simp only [List.filter_cons, hq a]
      cases p a <;> cases a != x <;> simp <;> omega
  intro l
  induction l with
  | nil => intro h; simp at h
  | cons a l ih =>
    intro h hp hq
    by_cases e : a = x
    · subst e
      have := hle l hq
      simp [List.filter_cons, hq a, hp]
      omega
    · have h1 : x ∈ l := by simpa [Ne.symm e] using h
      have := ih h1 hp hq
      simp only [List.filter_cons, hq a]
      have e2 : (a != x) = true := by simpa using e
      rw [e2]
      cases p a <;> simp <;> omega

theorem unl_set {n x : Nat} {listed : Array Bool} (hs : listed.size = n) (hx : x < n) (h0 : listed.getD x true = false) : (unl n (listed.setIfInBounds x true)).length < (unl n listed).length := by
  refine filter_drop (x := x) (by simpa using hx) (by simp [h0]) fun i => ?_
  by_cases e : x = i
  · subst e
    simp [hs, hx]
  · rw [getD_set_ne true e]
    have : (i != x) = true := by simpa using Ne.symm e
    rw [this]; simp

end Go.Proofs.PantryEng
namespace Go.Proofs.PantryEng
open Go

section
variable {tbl : List (List (TypeId × FuncId))} {call : CallF}

def snapOf (H : Nat → AHeap) (snaps : List AHeap) (k j : Nat) : Option AHeap := if j < k then some (H (k - 1 - j)) else snaps[j - k]?

theorem steady_spec {e : Env} {o : AOper} {v : Value} {snaps : List AHeap} {back : List Nat} {q : POp} (hs : steady e o v snaps back = true) (hq : o.op = .p q) :
    ∀ j ∈ back, ∃ g, snaps[j]? = some g ∧ evP e g q = some v := by
  intro j hj
  unfold steady at hs
  split at hs
  · simp at hj
  · rename_i op _ ho
    rw [hq] at ho
    injection ho with ho
    subst ho
    simp only [List.all_eq_true] at hs
    have := hs j hj
    split at this
    · rename_i g hg
      split at this
      · rename_i u hu
        rw [sameV_eq this] at hu
        exact ⟨g, hg, hu⟩
      · simp at this
    · simp at this
  · rename_i h1
    exact absurd hq (h1 q)

/-- What a reckoning shows, step by step. -/
structure Steps (tbl : List (List (TypeId × FuncId))) (call : CallF) (l : List (AOper × List Nat)) (snaps : List AHeap) (E : Nat → Env) (H : Nat → AHeap) (V : Nat → Value) : Prop where
  step : ∀ (k : Nat) o back, l[k]? = some (o, back) → evStep tbl call o (E k) (H k) = some (V k, H (k + 1))
  env : ∀ (k : Nat) o back, l[k]? = some (o, back) → E (k + 1) = (E k).put o.dst (V k)
  mono : ∀ (k : Nat) o back, l[k]? = some (o, back) → (H k).next ≤ (H (k + 1)).next
  back : ∀ (k : Nat) o back q, l[k]? = some (o, back) → o.op = .p q → wantedA o (E k) = true → ∀ j ∈ back, ∃ g, snapOf H snaps k j = some g ∧ evP (E k) g q = some (V k)

def consF {α : Type} (x : α) (g : Nat → α) : Nat → α := fun k => match k with | 0 => x | k + 1 => g k

theorem snapOf_cons {H : Nat → AHeap} {h : AHeap} {snaps : List AHeap} (k j : Nat) : snapOf H (h :: snaps) k j = snapOf (consF h H) snaps (k + 1) j := by
  unfold snapOf
  by_cases h1 : j < k
  · rw [if_pos h1, if_pos (by omega)]
    have : k + 1 - 1 - j = (k - 1 - j) + 1 := by omega
    rw [this]; rfl
  · rw [if_neg h1]
    by_cases h2 : j = k
    · subst h2
      rw [if_pos (by omega)]
      have : j + 1 - 1 - j = 0 := by omega
      rw [this]; simp [consF]
    · rw [if_neg (by omega)]
      have : j - k = (j - (k + 1)) + 1 := by omega
      rw [this]; simp

theorem draw_steps : ∀ (l : List (AOper × List Nat)) (e : Env) (h : AHeap) (snaps : List AHeap) (e' : Env) (h' : AHeap), evDraw tbl call l e h snaps = some (e', h') →
    ∃ E H V, E 0 = e ∧ H 0 = h ∧ E l.length = e' ∧ H l.length = h' ∧ Steps tbl call l snaps E H V := by
  intro l
  induction l with
  | nil =>
    intro e h snaps e' h' hv
    simp only [evDraw, Option.some.injEq, Prod.mk.injEq] at hv
    refine ⟨fun _ => e, fun _ => h, fun _ => noValue, rfl, rfl, hv.1, hv.2, ?_, ?_, ?_, ?_⟩ <;> (intro k; intros; rename_i hk; simp at *)
  | cons ob l ih =>
    obtain ⟨o, back⟩ := ob
    intro e h snaps e' h' hv
    simp only [evDraw] at hv
    split at hv
    · rename_i v h1 hs
      cases hb : (Nat.ble h.next h1.next && steady e o v snaps (bif wantedA o e then back else [])) with
      | false => rw [hb] at hv; simp at hv
      | true =>
        rw [hb] at hv
        simp only [cond_true] at hv
        simp only [Bool.and_eq_true] at hb
        obtain ⟨E, H, V, k1, k2, k3, k4, k5⟩ := ih _ _ _ _ _ hv
        refine ⟨consF e E, consF h H, consF v V, rfl, rfl, k3, k4, ?_, ?_, ?_, ?_⟩
        · intro k o' bk hk
          cases k with
          | zero =>
            simp only [List.getElem?_cons_zero, Option.some.injEq, Prod.mk.injEq] at hk
            obtain ⟨rfl, rfl⟩ := hk
            show evStep tbl call o e h = some (v, H 0)
            rw [k2]; exact hs
          | succ k => exact k5.step k o' bk (by simpa using hk)
        · intro k o' bk hk
          cases k with
          | zero =>
            simp only [List.getElem?_cons_zero, Option.some.injEq, Prod.mk.injEq] at hk
            obtain ⟨rfl, rfl⟩ := hk
            exact k1
          | succ k => exact k5.env k o' bk (by simpa using hk)
        · intro k o' bk hk
          cases k with
          | zero =>
            show h.next ≤ (H 0).next
            rw [k2]
            exact Nat.le_of_ble_eq_true hb.1
          | succ k => exact k5.mono k o' bk (by simpa using hk)
        · intro k o' bk q hk hq hw j hj
          cases k with
          | zero =>
            simp only [List.getElem?_cons_zero, Option.some.injEq, Prod.mk.injEq] at hk
            obtain ⟨rfl, rfl⟩ := hk
            have hw' : wantedA o e = true := hw
            rw [hw'] at hb
            obtain ⟨g, g1, g2⟩ := steady_spec hb.2 hq j hj
            exact ⟨g, by simpa [snapOf] using g1, g2⟩
          | succ k =>
            obtain ⟨g, g1, g2⟩ := k5.back k o' bk q (by simpa using hk) hq hw j hj
            rw [snapOf_cons] at g1
            exact ⟨g, g1, g2⟩
    · simp at hv

end

/-! ### in positions -/
section
variable (ops : Array Oper) (ao : List AOper) (order : List Nat)
def ordr (k : Nat) : Nat := order.getD k 0
def mop (k : Nat) : Oper := ops.getD (ordr order k) default
def aop (k : Nat) : AOper := ao.getD (ordr order k) badOper

structure Trace (tbl : List (List (TypeId × FuncId))) (call : CallF) (E : Nat → Env) (H : Nat → AHeap) (V : Nat → Value) : Prop where
  step : ∀ k, k < ops.size → evStep tbl call (aop ao order k) (E k) (H k) = some (V k, H (k + 1))
  env : ∀ k, k < ops.size → E (k + 1) = (E k).put (aop ao order k).dst (V k)
  mono : ∀ k, k < ops.size → (H k).next ≤ (H (k + 1)).next
  back : ∀ k i q, i < k → k < ops.size → (aop ao order k).op = .p q → wantedA (aop ao order k) (E k) = true → readsHeap (aop ao order k) = true →
    isEff (aop ao order i) = true → ¬ anc ops (ordr order k) (ordr order i) → evP (E k) (H i) q = some (V k)
end

def bk (ao : List AOper) (an : List Nat) (before : List Nat) (x : Nat) : List Nat :=
  if readsHeap (ao.getD x badOper) then (List.range before.length).filter (fun j => isEff (ao.getD (before.getD j 0) badOper) && !((an.getD x 0).testBit (before.getD j 0))) else []

theorem backs_get {ao : List AOper} {an : List Nat} : ∀ {l before : List Nat} {k x : Nat}, l[k]? = some x → (backs ao an before l)[k]? = some (ao.getD x badOper, bk ao an ((l.take k).reverse ++ before) x) := by
  intro l
  induction l with
  | nil => intro before k x h; simp at h
  | cons y l ih =>
    intro before k x h
    cases k with
    | zero =>
      simp only [List.getElem?_cons_zero, Option.some.injEq] at h
      subst h
      simp [backs, bk]
    | succ k =>
      simp only [List.getElem?_cons_succ] at h
      simp only [backs, List.getElem?_cons_succ, ih h, List.take_succ_cons, List.reverse_cons, List.append_assoc, List.singleton_append]

theorem backs_length {ao : List AOper} {an : List Nat} : ∀ {l before : List Nat}, (backs ao an before l).length = l.length := by
  intro l
  induction l with
  | nil => intro before; rfl
  | cons y l ih => intro before; simp [backs, ih]

theorem draw_trace {tbl : List (List (TypeId × FuncId))} {call : CallF} {ops : Array Oper} {ao : List AOper} {order : List Nat} {N : Nat} (hg : Good N ops ao order) {e e' : Env} {h h' : AHeap}
    (hv : evDraw tbl call (backs ao (ancs ops.toList) [] order) e h [] = some (e', h')) :
    ∃ E H V, E 0 = e ∧ H 0 = h ∧ E ops.size = e' ∧ H ops.size = h' ∧ Trace ops ao order tbl call E H V := by
  obtain ⟨E, H, V, k1, k2, k3, k4, k5⟩ := draw_steps _ _ _ _ _ _ hv
  rw [backs_length, hg.len] at k3 k4
  have hk : ∀ k, k < ops.size → (backs ao (ancs ops.toList) [] order)[k]? = some (aop ao order k, bk ao (ancs ops.toList) ((order.take k).reverse ++ []) (ordr order k)) := by
    intro k hk
    refine backs_get ?_
    have : k < order.length := by rw [hg.len]; exact hk
    simp [ordr, List.getD_eq_getElem?_getD, List.getElem?_eq_getElem this]
  refine ⟨E, H, V, k1, k2, k3, k4, fun k h1 => k5.step k _ _ (hk k h1), fun k h1 => k5.env k _ _ (hk k h1), fun k h1 => k5.mono k _ _ (hk k h1), ?_⟩
  intro k i q hi hkn hq hw hr he ha
  have hj : (k - 1 - i) ∈ bk ao (ancs ops.toList) ((order.take k).reverse ++ []) (ordr order k) := by
    unfold bk
    have hr' : readsHeap (ao.getD (ordr order k) badOper) = true := hr
    rw [if_pos hr']
    have hlen : (order.take k).length = k := by rw [List.length_take, hg.len]; omega
    have hget : ((order.take k).reverse ++ []).getD (k - 1 - i) 0 = ordr order i := by
      have h1 : k - 1 - i < (order.take k).reverse.length := by rw [List.length_reverse, hlen]; omega
      simp only [List.append_nil, List.getD_eq_getElem?_getD]
      rw [List.getElem?_reverse (by rw [hlen]; omega), hlen]
      have : k - 1 - (k - 1 - i) = i := by omega
      rw [this]
      simp [ordr, List.getD_eq_getElem?_getD, List.getElem?_take, hi]
    refine List.mem_filter.2 ⟨by simp only [List.append_nil, List.length_reverse, hlen, List.mem_range]; omega, ?_⟩
    rw [hget]
    have he' : isEff (ao.getD (ordr order i) badOper) = true := he
    rw [he']
    simp only [Bool.true_and, Bool.not_eq_true']
    unfold anc at ha
    simpa using ha
  obtain ⟨g, g1, g2⟩ := k5.back k _ _ q (hk k hkn) hq hw _ hj
  unfold snapOf at g1
  rw [if_pos (by omega)] at g1
  have : k - 1 - (k - 1 - i) = i := by omega
  rw [this] at g1
  injection g1 with g1
  rw [g1]; exact g2

/-! ### the slots that an operation looks at, alone -/
def cutE (e : Env) (U : List Nat) : Env := U.foldr (fun t r => Tree.put r t (e.get t)) .nil
def cutA (a : Act) (N : Nat) (U : List Nat) : Act := { a with tmps := (Array.range N).map fun t => if t ∈ U then a.tmps.getD t undef else undef }

theorem cutE_get (e : Env) (t : Nat) : ∀ U : List Nat, (cutE e U).get t = if t ∈ U then e.get t else none := by
  intro U
  induction U with
  | nil => simp [cutE, Tree.get_nil]
  | cons u U ih =>
    have : cutE e (u :: U) = Tree.put (cutE e U) u (e.get u) := rfl
    rw [this, Tree.get_put, ih]
    by_cases h : u = t
    · subst h; simp
    · rw [if_neg h]
      have : t ∈ u :: U ↔ t ∈ U := by simp [Ne.symm h]
      simp only [this]

theorem cutE_at (e : Env) (t : Nat) (U : List Nat) : (cutE e U).at t = if t ∈ U then e.at t else noValue := by
  unfold Env.at
  rw [cutE_get]
  split <;> rfl

theorem cutE_ev {e : Env} {U : List Nat} {y : Opd} (h : ∀ t, y = .tmp t → t ∈ U) : y.ev (cutE e U) = y.ev e := by
  cases y with
  | tmp t => simp only [Opd.ev]; rw [cutE_at, if_pos (h t rfl)]
  | lit v => rfl

theorem cutA_getD {a : Act} {N t : Nat} {U : List Nat} (hs : a.tmps.size = N) : (cutA a N U).tmps.getD t undef = if t ∈ U then a.tmps.getD t undef else undef := by
  by_cases ht : t < N
  · simp [cutA, Array.getD_eq_getD_getElem?, ht]
  · have : a.tmps.getD t undef = undef := by simp [Array.getD_eq_getD_getElem?, Array.getElem?_eq_none (show a.tmps.size ≤ t by omega)]
    rw [this]
    simp [cutA, Array.getD_eq_getD_getElem?, ht]

theorem cutA_eval {a : Act} {N : Nat} {U : List Nat} {x : Operand} (hs : a.tmps.size = N) (h : ∀ t, x = .tmp t → t ∈ U) : (cutA a N U).eval x = a.eval x := by
  cases x with
  | tmp t => simp only [Act.eval]; rw [cutA_getD hs, if_pos (h t rfl)]
  | _ => rfl

theorem cutA_size {a : Act} {N : Nat} {U : List Nat} : (cutA a N U).tmps.size = N := by simp [cutA]

theorem cutA_get? {a : Act} {N t : Nat} {U : List Nat} (hs : a.tmps.size = N) (ht : t ∈ U) : (cutA a N U).tmps[t]? = a.tmps[t]? := by
  by_cases h : t < N
  · simp [cutA, h, ht, Array.getElem?_eq_getElem (show t < a.tmps.size by omega)]
  · rw [Array.getElem?_eq_none (by rw [cutA_size]; omega), Array.getElem?_eq_none (by omega)]

theorem wanted_cut {o : Oper} {ops : Array Oper} {a : Act} {N : Nat} {U : List Nat} (hs : a.tmps.size = N) (h : ∀ t ∈ looks ops o, t ∈ U) :
    Region.wanted o (yielded ops (cutA a N U).tmps) = Region.wanted o (yielded ops a.tmps) := by
  unfold Region.wanted
  cases hg : o.guard with
  | none => rfl
  | some gw =>
    obtain ⟨g, want⟩ := gw
    have hy : yielded ops (cutA a N U).tmps g = yielded ops a.tmps g := by
      unfold yielded
      cases ht : (ops[g]?).bind (·.dst) with
      | none => rfl
      | some t =>
        have : t ∈ U := h t (by simp [looks, hg, ht])
        simp only [Option.bind_some, cutA_get? hs this]
    simp only [hy]

theorem wantedA_cut {o : AOper} {e : Env} {U : List Nat} (h : ∀ t ∈ o.looks, t ∈ U) : wantedA o (cutE e U) = wantedA o e := by
  unfold wantedA
  cases hg : o.guard with
  | none => rfl
  | some gw =>
    obtain ⟨t, want⟩ := gw
    have : t ∈ U := h t (by simp [AOper.looks, hg])
    simp only [yieldedA, cutE_get, if_pos this]

theorem opds_cut {o : AOper} {e : Env} {U : List Nat} (h : ∀ t ∈ o.looks, t ∈ U) : ∀ y ∈ o.op.opds, y.ev e = y.ev (cutE e U) := by
  intro y hy
  refine (cutE_ev fun t ht => h t ?_).symm
  subst ht
  exact List.mem_append_left _ (List.mem_filterMap.2 ⟨.tmp t, hy, rfl⟩)

theorem eval_cut {o : Oper} {ops : Array Oper} {a : Act} {N : Nat} {U : List Nat} (hs : a.tmps.size = N) (h : ∀ t ∈ looks ops o, t ∈ U) : ∀ x ∈ o.op.operands, a.eval x = (cutA a N U).eval x := by
  intro x hx
  refine (cutA_eval hs fun t ht => h t ?_).symm
  subst ht
  exact List.mem_append_left _ (List.mem_filterMap.2 ⟨.tmp t, by simpa using hx, rfl⟩)

end Go.Proofs.PantryEng

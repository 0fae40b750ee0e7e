/- The engine, part 8: code, functions, calls. -/
import Derived.Test.YtgnmjfnkibbnkaaGreatDoorM5
import Derived.LoopN
set_option linter.unusedSimpArgs false
set_option linter.unusedVariables false
namespace Go.Proofs.PantryEng
open Go

abbrev aos (P : Program) (ms : List String) (N : Nat) (ops : Array Oper) : List AOper := ops.toList.map (cOper P ms N ops)

/-- A region, an order and what was reckoned along it. -/
structure Rg (P : Program) (ms : List String) (N : Nat) (tbl : List (List (TypeId × FuncId))) (call : CallF) where
  ops : Array Oper
  order : List Nat
  E : Nat → Env
  H : Nat → AHeap
  V : Nat → Value
  good : Good N ops (aos P ms N ops) order
  trace : Trace ops (aos P ms N ops) order tbl call E H V

namespace Rg
variable {P : Program} {ms : List String} {N : Nat} {tbl : List (List (TypeId × FuncId))} {call : CallF}
variable (r : Rg P ms N tbl call)
def n : Nat := r.ops.size
def x (k : Nat) : Nat := ordr r.order k
def op (k : Nat) : Oper := mop r.ops r.order k
def ao (k : Nat) : AOper := aop (aos P ms N r.ops) r.order k
def U (k : Nat) : List Nat := allLooks r.ops (aos P ms N r.ops) (r.x k)
def eff (k : Nat) : Prop := isEff (r.ao k) = true
def anc (k i : Nat) : Prop := PantryEng.anc r.ops (r.x k) (r.x i)

variable {r}
theorem get_op {k : Nat} (hk : k < r.n) : r.ops[r.x k]? = some (r.op k) := by
  have := r.good.lt k hk
  have h : r.x k < r.ops.size := this
  have e : r.op k = r.ops.getD (r.x k) default := rfl
  rw [e]
  simp [Array.getD_eq_getD_getElem?, h]

theorem ao_eq {k : Nat} (hk : k < r.n) : r.ao k = cOper P ms N r.ops (r.op k) := by
  have h := get_op hk
  have e : r.ao k = (aos P ms N r.ops).getD (r.x k) badOper := rfl
  rw [e]
  have h2 : r.ops.toList[r.x k]? = some (r.op k) := by simpa using h
  simp [aos, List.getD_eq_getElem?_getD, h2]

theorem ok {k : Nat} (hk : k < r.n) : cOper P ms N r.ops (r.op k) ≠ badOper := by
  intro h
  have := r.trace.step k hk
  have e : aop (aos P ms N r.ops) r.order k = badOper := (ao_eq hk).trans h
  rw [e] at this
  simp [evStep, badOper, wantedA, evOp, evP] at this

theorem dst_eq {k : Nat} (hk : k < r.n) : (r.ao k).dst = (r.op k).dst := by rw [ao_eq hk]; exact (cOper_parts (ok hk)).1
theorem op_eq {k : Nat} (hk : k < r.n) : (r.ao k).op = cOp P ms N (r.op k).op := by rw [ao_eq hk]; exact (cOper_parts (ok hk)).2.1
theorem dst_ok {k : Nat} (hk : k < r.n) : cDst N (r.op k).dst = true := (cOper_parts (ok hk)).2.2

theorem step {k : Nat} (hk : k < r.n) : evStep tbl call (r.ao k) (r.E k) (r.H k) = some (r.V k, r.H (k + 1)) := r.trace.step k hk
theorem env {k : Nat} (hk : k < r.n) : r.E (k + 1) = (r.E k).put (r.op k).dst (r.V k) := by rw [← dst_eq hk]; exact r.trace.env k hk

theorem next_le {i k : Nat} (h : i ≤ k) (hk : k ≤ r.n) : (r.H i).next ≤ (r.H k).next := by
  induction k with
  | zero => have : i = 0 := by omega
            subst this; exact Nat.le_refl _
  | succ k ih =>
    by_cases e : i = k + 1
    · subst e; exact Nat.le_refl _
    · exact Nat.le_trans (ih (by omega) (by omega)) (r.trace.mono k hk)

theorem env_at {t k m : Nat} (h : k ≤ m) (hm : m ≤ r.n) (hd : ∀ i, k ≤ i → i < m → (r.op i).dst ≠ some t) : (r.E m).at t = (r.E k).at t := by
  induction m with
  | zero => have : k = 0 := by omega
            subst this; rfl
  | succ m ih =>
    by_cases e : k = m + 1
    · subst e; rfl
    · rw [env (show m < r.n by omega), Env.at_put, if_neg (hd m (by omega) (by omega))]
      exact ih (by omega) (by omega) fun i h1 h2 => hd i h1 (by omega)

variable (r)
/-- An operation that lays a block. -/
def Lay (k : Nat) (ob : AObj) : Prop := ∃ q mk, (r.ao k).op = .l q ∧ wantedA (r.ao k) (r.E k) = true ∧ evL (r.E k) q = some (ob, mk)
variable {r}

theorem evL_own {e : Env} {q : LOp} {ob : AObj} {mk : Nat → Value} (h : evL e q = some (ob, mk)) : ob.own = true := by
  cases q with
  | box x => simp only [evL] at h; split at h <;> simp at h; rw [← h.1]; rfl
  | alloc cs => simp only [evL, Option.some.injEq, Prod.mk.injEq] at h; rw [← h.1]; rfl
  | buildSlice z s l p =>
    simp only [evL] at h
    cases hf : fillS e s (zeroMany z l) p with
    | none => rw [hf] at h; simp at h
    | some cs => rw [hf] at h; simp only [Option.map_some, Option.some.injEq, Prod.mk.injEq] at h; rw [← h.1]; rfl
  | makeMap => simp only [evL, Option.some.injEq, Prod.mk.injEq] at h; rw [← h.1]; rfl
  | makeSlice z b l c =>
    simp only [evL] at h
    split at h
    · split at h
      · simp only [Option.some.injEq, Prod.mk.injEq] at h; rw [← h.1]; rfl
      · simp at h
    · simp at h

theorem Lay.own {k : Nat} {ob : AObj} (h : r.Lay k ob) : ob.own = true := by obtain ⟨q, mk, _, _, h⟩ := h; exact evL_own h

theorem Lay.heap {k : Nat} {ob : AObj} (hk : k < r.n) (h : r.Lay k ob) : r.H (k + 1) = (r.H k).new ob := by
  obtain ⟨q, mk, h1, h2, h3⟩ := h
  have := step hk
  simp only [evStep, h2, cond_true, evOp, h1, h3, Option.map_some, Option.some.injEq, Prod.mk.injEq] at this
  exact this.2.symm

theorem Lay.uniq {k : Nat} {o o' : AObj} (hk : k < r.n) (h : r.Lay k o) (h' : r.Lay k o') : o = o' := by
  obtain ⟨q, mk, h1, h2, h3⟩ := h
  obtain ⟨q', mk', h1', h2', h3'⟩ := h'
  rw [h1] at h1'
  injection h1' with h1'
  subst h1'
  rw [h3] at h3'
  injection h3' with h3'
  injection h3'

theorem Lay.next {k : Nat} {ob : AObj} (hk : k < r.n) (h : r.Lay k ob) : (r.H (k + 1)).next = (r.H k).next + 1 := by rw [h.heap hk]; rfl

theorem Lay.lt {i k : Nat} {ob : AObj} (hk : k ≤ r.n) (hi : i < k) (h : r.Lay i ob) : (r.H i).next < (r.H k).next := by
  have h1 := h.next (show i < r.n by omega)
  have h2 := next_le (r := r) (show i + 1 ≤ k by omega) hk
  omega

theorem same_heap {k : Nat} (hk : k < r.n) (he : ¬ r.eff k) (hl : ¬ ∃ ob, r.Lay k ob) : r.H (k + 1) = r.H k := by
  have hs := step hk
  unfold evStep at hs
  cases hw : wantedA (r.ao k) (r.E k) with
  | false => rw [hw] at hs; simp at hs; exact hs.2.symm
  | true =>
    rw [hw] at hs
    simp only [cond_true] at hs
    cases ho : (r.ao k).op with
    | p q =>
      rw [ho] at hs
      simp only [evOp] at hs
      cases hp : evP (r.E k) (r.H k) q with
      | none => rw [hp] at hs; simp at hs
      | some v => rw [hp] at hs; simp at hs; exact hs.2.symm
    | l q =>
      rw [ho] at hs
      simp only [evOp] at hs
      cases hp : evL (r.E k) q with
      | none => rw [hp] at hs; simp at hs
      | some v => obtain ⟨ob, mk⟩ := v; exact absurd ⟨ob, q, mk, ho, hw, hp⟩ hl
    | e q =>
      refine absurd ?_ he
      unfold eff
      generalize r.ao k = o at ho
      obtain ⟨d, op, g⟩ := o
      simp only at ho
      subst ho
      rfl

theorem unw_heap {k : Nat} (hk : k < r.n) (hw : wantedA (r.ao k) (r.E k) = false) : r.H (k + 1) = r.H k ∧ r.V k = noValue := by
  have hs := step hk
  unfold evStep at hs
  rw [hw] at hs
  simp only [cond_false, Option.some.injEq, Prod.mk.injEq] at hs
  exact ⟨hs.2.symm, hs.1.symm⟩

/-- Between two writes blocks are only laid. -/
theorem seg_of {p q : Nat} (h : p ≤ q) (hq : q ≤ r.n) (he : ∀ i, p ≤ i → i < q → ¬ r.eff i) {b : Nat} {o : AObj} (hb : (r.H q).get b = some o) :
    (r.H p).get b = some o ∨ ∃ i, p ≤ i ∧ i < q ∧ r.Lay i o ∧ b = (r.H i).next := by
  induction q with
  | zero => have : p = 0 := by omega
            subst this; exact .inl hb
  | succ q ih =>
    by_cases e : p = q + 1
    · subst e; exact .inl hb
    · have ih' := ih (by omega) (by omega) (fun i h1 h2 => he i h1 (by omega))
      have lift : ((r.H p).get b = some o ∨ ∃ i, p ≤ i ∧ i < q ∧ r.Lay i o ∧ b = (r.H i).next) → ((r.H p).get b = some o ∨ ∃ i, p ≤ i ∧ i < q + 1 ∧ r.Lay i o ∧ b = (r.H i).next) := by
        rintro (h | ⟨i, h1, h2, h3⟩)
        · exact .inl h
        · exact .inr ⟨i, h1, by omega, h3⟩
      by_cases hl : ∃ ob, r.Lay q ob
      · obtain ⟨ob, hl⟩ := hl
        rw [hl.heap (by omega), AHeap.get_new] at hb
        split at hb
        · rename_i e2
          injection hb with hb
          subst hb
          exact .inr ⟨q, by omega, by omega, hl, e2.symm⟩
        · exact lift (ih' hb)
      · rw [same_heap (by omega) (he q (by omega) (by omega)) hl] at hb
        exact lift (ih' hb)

theorem seg_keep {p q : Nat} (h : p ≤ q) (hq : q ≤ r.n) (he : ∀ i, p ≤ i → i < q → ¬ r.eff i) {b : Nat} {o : AObj} (hlt : b < (r.H p).next) (hb : (r.H p).get b = some o) : (r.H q).get b = some o := by
  induction q with
  | zero => have : p = 0 := by omega
            subst this; exact hb
  | succ q ih =>
    by_cases e : p = q + 1
    · subst e; exact hb
    · have ih' := ih (by omega) (by omega) (fun i h1 h2 => he i h1 (by omega))
      by_cases hl : ∃ ob, r.Lay q ob
      · obtain ⟨ob, hl⟩ := hl
        rw [hl.heap (by omega), AHeap.get_new, if_neg (by have := next_le (r := r) (show p ≤ q by omega) (by omega); omega)]
        exact ih'
      · rw [same_heap (by omega) (he q (by omega) (by omega)) hl]
        exact ih'

/-! ### what stands at every moment -/
variable (r)
def Pk (L : Nat → Prop) (p i : Nat) : Prop := p ≤ i ∧ i < r.n ∧ L i ∧ ∃ ob, r.Lay i ob
def Dk (L : Nat → Prop) (p k : Nat) : Dom := fun b => (b < (r.H p).next ∨ ∃ i, r.Pk L p i ∧ b = (r.H i).next) ∧ b < (r.H k).next
def Settled (L : Nat → Prop) (t k : Nat) : Prop := ∀ i, i < r.n → (r.op i).dst = some t → (i < k ↔ L i)

structure Inv (L : Nat → Prop) (f0 : Inj) (h0 : AHeap) (w0 : World) (a : Act) (w : World) (p : Nat) (f : Inj) : Prop where
  ple : p ≤ r.n
  below : ∀ k, k < p → L k
  noeff : ∀ k, p ≤ k → k < r.n → r.eff k → ¬ L k
  size : a.tmps.size = N
  defers : a.defers = []
  tmps : ∀ t, t < N → ∀ k, k ≤ r.n → r.Settled L t k → TR (r.Dk L p k) f ((r.E k).at t) (a.tmps.getD t undef)
  wr : WR (Lt (r.H p).next) f (r.H p) w
  parked : ∀ i ob, r.Pk L p i → r.Lay i ob → ObjR (r.Dk L p (i + 1)) f w (f (r.H i).next) ob
  new : ∀ i, r.Pk L p i → w0.heap.size ≤ (f (r.H i).next).1
  off : ∀ i, r.Pk L p i → ∀ b o, (r.H p).get b = some o → (f b).1 ≠ (f (r.H i).next).1
  two : ∀ i j, r.Pk L p i → r.Pk L p j → i ≠ j → (f (r.H i).next).1 ≠ (f (r.H j).next).1
  ext : Ext f0 h0 w0 f (r.H p) w
variable {r}

section
variable {L : Nat → Prop} {f0 f : Inj} {h0 : AHeap} {w0 w : World} {a : Act} {p : Nat}

theorem Le.of {D D' : Dom} (g : Inj) (h : ∀ b, D b → D' b) : Le D D' g g := fun b hb => ⟨h b hb, rfl⟩

/-- All that is laid ahead of a place is there. -/
theorem Inv.unpark (hi : r.Inv L f0 h0 w0 a w p f) {q : Nat} (hpq : p ≤ q) (hq : q ≤ r.n) (hl : ∀ i, i < q → L i) : WR (Lt (r.H q).next) f (r.H q) w ∧ Ext f0 h0 w0 f (r.H q) w ∧ ∀ i, p ≤ i → i < q → ¬ r.eff i := by
  have he : ∀ i, p ≤ i → i < q → ¬ r.eff i := fun i h1 h2 h3 => hi.noeff i h1 (by omega) h3 (hl i h2)
  have hn := next_le (r := r) hpq hq
  have pk : ∀ i o, p ≤ i → i < q → r.Lay i o → r.Pk L p i := fun i o h1 h2 h3 => ⟨h1, by omega, hl i h2, o, h3⟩
  refine ⟨⟨fun b o hb => ?_, fun b o hb => ?_, fun b b' o o' hb hb' ho hne => ?_⟩, ⟨Nat.le_trans hi.ext.next hn, hi.ext.inj, hi.ext.size, hi.ext.keep, fun b o hb ho => ?_, fun b o hb ho => ?_, hi.ext.os, hi.ext.tape, hi.ext.output⟩, he⟩
  · rcases seg_of hpq hq he hb with h | ⟨i, h1, h2, h3, h4⟩
    · exact Nat.lt_of_lt_of_le (hi.wr.dom b o h) hn
    · rw [h4]; exact h3.lt hq h2
  · rcases seg_of hpq hq he hb with h | ⟨i, h1, h2, h3, h4⟩
    · exact (hi.wr.obj b o h).mono (Le.of f fun b hb => Nat.lt_of_lt_of_le hb hn)
    · rw [h4]; exact (hi.parked i o (pk i o h1 h2 h3) h3).mono (Le.of f fun b hb => Nat.lt_of_lt_of_le hb.2 (next_le (by omega) hq))
  · rcases seg_of hpq hq he hb with h | ⟨i, h1, h2, h3, h4⟩
    · rcases seg_of hpq hq he hb' with h' | ⟨j, h1', h2', h3', h4'⟩
      · exact hi.wr.apart b b' o o' h h' ho hne
      · rw [h4']; exact hi.off j (pk j o' h1' h2' h3') b o h
    · rcases seg_of hpq hq he hb' with h' | ⟨j, h1', h2', h3', h4'⟩
      · rw [h4]; exact fun e => hi.off i (pk i o h1 h2 h3) b' o' h' e.symm
      · rw [h4, h4']
        exact hi.two i j (pk i o h1 h2 h3) (pk j o' h1' h2' h3') fun e => by subst e; exact hne (h4.trans h4'.symm)
  · rcases seg_of hpq hq he hb with h | ⟨i, h1, h2, h3, h4⟩
    · exact hi.ext.fresh b o h ho
    · rw [h4]; exact .inl (hi.new i (pk i o h1 h2 h3))
  · rcases seg_of hpq hq he hb with h | ⟨i, h1, h2, h3, h4⟩
    · exact hi.ext.newId b o h ho
    · rw [h3.own] at ho; simp at ho

/-- The slots after a write to one of them. -/
theorem tmps_put {k p' : Nat} {f' : Inj} {v' : Value} (hk : k < r.n) (hnk : ¬ L k)
    (hlater : ∀ i, k < i → i < r.n → ∀ t, (r.op k).dst = some t → (r.op i).dst = some t → ¬ L i)
    (hsize : a.tmps.size = N) (ht : ∀ t, t < N → ∀ m, m ≤ r.n → r.Settled L t m → TR (r.Dk L p m) f ((r.E m).at t) (a.tmps.getD t undef))
    (hle : ∀ m, m ≤ r.n → Le (r.Dk L p m) (r.Dk (fun i => L i ∨ i = k) p' m) f f') (hv : TR (r.Dk (fun i => L i ∨ i = k) p' (k + 1)) f' (r.V k) v') :
    ∀ t, t < N → ∀ m, m ≤ r.n → r.Settled (fun i => L i ∨ i = k) t m → TR (r.Dk (fun i => L i ∨ i = k) p' m) f' ((r.E m).at t) ((a.put (r.op k).dst v').tmps.getD t undef) := by
  intro t htN m hm hs
  by_cases hd : (r.op k).dst = some t
  · have hkm : k < m := (hs k hk hd).2 (.inr rfl)
    have h1 : (r.E m).at t = r.V k := by
      rw [env_at (k := k + 1) (by omega) hm ?_, env hk, Env.at_put, if_pos hd]
      intro i h1 h2 h3
      rcases (hs i (by omega) h3).1 h2 with h4 | h4
      · exact hlater i (by omega) (by omega) t hd h3 h4
      · omega
    have h2 : (a.put (r.op k).dst v').tmps.getD t undef = v' := by
      rw [hd]; simp [Act.put, Array.getD_eq_getD_getElem?, Array.getElem?_setIfInBounds, hsize, htN]
    rw [h1, h2]
    exact hv.mono (Le.of f' fun b hb => ⟨hb.1, Nat.lt_of_lt_of_le hb.2 (next_le (by omega) hm)⟩)
  · have h2 : (a.put (r.op k).dst v').tmps.getD t undef = a.tmps.getD t undef := by
      cases hdd : (r.op k).dst with
      | none => rfl
      | some d =>
        have : d ≠ t := fun e => hd (by rw [hdd, e])
        simp [Act.put, Array.getD_eq_getD_getElem?, Array.getElem?_setIfInBounds, this]
    rw [h2]
    refine (ht t htN m hm fun i hi hdi => ?_).mono (hle m hm)
    have hik : i ≠ k := fun e => by subst e; exact hd hdi
    rw [hs i hi hdi]
    exact ⟨fun h => h.resolve_right hik, .inl⟩

theorem put_size {d : Option Tmp} {v : Value} : (a.put d v).tmps.size = a.tmps.size := by cases d <;> simp [Act.put]
theorem put_defers {d : Option Tmp} {v : Value} : (a.put d v).defers = a.defers := by cases d <;> rfl

/-- An operation that leaves the heap. -/
theorem Inv.stepP (hi : r.Inv L f0 h0 w0 a w p f) {k : Nat} {v' : Value} (hk : k < r.n) (hnk : ¬ L k) (hlater : ∀ i, k < i → i < r.n → ∀ t, (r.op k).dst = some t → (r.op i).dst = some t → ¬ L i)
    (he : ¬ r.eff k) (hl : ¬ ∃ ob, r.Lay k ob) (hv : TR (r.Dk L p k) f (r.V k) v') : r.Inv (fun i => L i ∨ i = k) f0 h0 w0 (a.put (r.op k).dst v') w p f := by
  have hpk : ∀ i, r.Pk (fun i => L i ∨ i = k) p i → r.Pk L p i := fun i h => ⟨h.1, h.2.1, h.2.2.1.resolve_right fun e => by subst e; exact hl h.2.2.2, h.2.2.2⟩
  have hpk' : ∀ i, r.Pk L p i → r.Pk (fun i => L i ∨ i = k) p i := fun i h => ⟨h.1, h.2.1, .inl h.2.2.1, h.2.2.2⟩
  have hD : ∀ m b, r.Dk L p m b → r.Dk (fun i => L i ∨ i = k) p m b := fun m b h => ⟨h.1.imp id fun ⟨i, h1, h2⟩ => ⟨i, hpk' i h1, h2⟩, h.2⟩
  exact {
    ple := hi.ple
    below := fun j hj => .inl (hi.below j hj)
    noeff := fun j h1 h2 h3 h4 => by
      rcases h4 with h4 | h4
      · exact hi.noeff j h1 h2 h3 h4
      · subst h4; exact he h3
    size := put_size.trans hi.size
    defers := put_defers.trans hi.defers
    tmps := tmps_put hk hnk hlater hi.size hi.tmps (fun m hm => Le.of f (hD m)) (by
      refine hv.mono (Le.of f fun b hb => ?_)
      have := hD k b hb
      exact ⟨this.1, Nat.lt_of_lt_of_le this.2 (next_le (by omega) (by omega))⟩)
    wr := hi.wr
    parked := fun i ob h1 h2 => (hi.parked i ob (hpk i h1) h2).mono (Le.of f (hD (i + 1)))
    new := fun i h => hi.new i (hpk i h)
    off := fun i h => hi.off i (hpk i h)
    two := fun i j h h' => hi.two i j (hpk i h) (hpk j h')
    ext := hi.ext }

/-- An operation that lays a block. -/
theorem Inv.stepL (hi : r.Inv L f0 h0 w0 a w p f) {k : Nat} {ob : AObj} {mk : Nat → Value} {O : Obj} {v' : Value} (hk : k < r.n) (hpk0 : p ≤ k) (hnk : ¬ L k) (hlater : ∀ i, k < i → i < r.n → ∀ t, (r.op k).dst = some t → (r.op i).dst = some t → ¬ L i)
    (he : ¬ r.eff k) (hlay : r.Lay k ob) (hV : r.V k = mk (r.H k).next) (hv : Lays (r.Dk L p k) f w ob mk O v') : ∃ f', r.Inv (fun i => L i ∨ i = k) f0 h0 w0 (a.put (r.op k).dst v') (w.alloc O) p f' := by
  obtain ⟨ho, z, hz⟩ := hv
  have hidk : ∀ b, r.Dk L p k b → b ≠ (r.H k).next := fun b hb => Nat.ne_of_lt hb.2
  have hne : ∀ i, r.Pk L p i → (r.H i).next ≠ (r.H k).next := by
    intro i ⟨h1, h2, h3, o, h4⟩
    rcases Nat.lt_trichotomy i k with h | h | h
    · exact Nat.ne_of_lt (h4.lt (by omega) h)
    · subst h; exact absurd h3 hnk
    · exact Nat.ne_of_gt (hlay.lt (by omega) h)
  have hlow : ∀ b, b < (r.H p).next → b ≠ (r.H k).next := fun b hb => by have := next_le (r := r) hpk0 (by omega); omega
  have hD0 : ∀ m b, r.Dk L p m b → b ≠ (r.H k).next := by
    intro m b hb
    rcases hb.1 with h | ⟨i, h1, h2⟩
    · exact hlow b h
    · rw [h2]; exact hne i h1
  have hpk' : ∀ i, r.Pk L p i → r.Pk (fun i => L i ∨ i = k) p i := fun i h => ⟨h.1, h.2.1, .inl h.2.2.1, h.2.2.2⟩
  have hpk : ∀ i, r.Pk (fun i => L i ∨ i = k) p i → i = k ∨ r.Pk L p i := fun i h => by
    rcases h.2.2.1 with h1 | h1
    · exact .inr ⟨h.1, h.2.1, h1, h.2.2.2⟩
    · exact .inl h1
  have hD : ∀ m b, r.Dk L p m b → r.Dk (fun i => L i ∨ i = k) p m b := fun m b h => ⟨h.1.imp id fun ⟨i, h1, h2⟩ => ⟨i, hpk' i h1, h2⟩, h.2⟩
  generalize hf' : upd f (r.H k).next ⟨w.heap.size, 0, z⟩ = f' at *
  have hf1 : ∀ b, b ≠ (r.H k).next → f' b = f b := fun b hb => by rw [← hf']; simp [upd, hb]
  have hf2 : f' (r.H k).next = ⟨w.heap.size, 0, z⟩ := by rw [← hf']; exact upd_same _ _ _
  have hLe : ∀ m, Le (r.Dk L p m) (r.Dk (fun i => L i ∨ i = k) p m) f f' := fun m b hb => ⟨hD m b hb, hf1 b (hD0 m b hb)⟩
  have hkk : r.Pk (fun i => L i ∨ i = k) p k := ⟨hpk0, hk, .inr rfl, ob, hlay⟩
  have hnx := hlay.next hk
  have hin : r.Dk (fun i => L i ∨ i = k) p (k + 1) (r.H k).next := ⟨.inr ⟨k, hkk, rfl⟩, by omega⟩
  have hLe1 : Le (r.Dk L p k) (r.Dk (fun i => L i ∨ i = k) p (k + 1)) f f' := fun b hb => by
    have := hLe k b hb
    exact ⟨⟨this.1.1, by have := hb.2; omega⟩, this.2⟩
  obtain ⟨h1, h2⟩ := hz (r.Dk (fun i => L i ∨ i = k) p (k + 1)) f' (r.H k).next hLe1 hin hf2
  have hold : ∀ j, j < w.heap.size → (w.alloc O).heap[j]? = w.heap[j]? := fun j hj => heap_alloc_old w O j hj
  have hsz : w.heap.size ≤ (w.alloc O).heap.size := by simp
  have hpsz : ∀ i, r.Pk L p i → (f (r.H i).next).1 < w.heap.size := fun i h => by
    obtain ⟨o, h4⟩ := h.2.2.2
    exact (hi.parked i o h h4).lt
  refine ⟨f', {
    ple := hi.ple
    below := fun j hj => .inl (hi.below j hj)
    noeff := fun j h1 h2 h3 h4 => by
      rcases h4 with h4 | h4
      · exact hi.noeff j h1 h2 h3 h4
      · subst h4; exact he h3
    size := put_size.trans hi.size
    defers := put_defers.trans hi.defers
    tmps := tmps_put hk hnk hlater hi.size hi.tmps (fun m hm => hLe m) (by rw [hV]; exact h2)
    wr := ⟨hi.wr.dom, fun b o hb => ?_, fun b b' o o' hb hb' ho hne => ?_⟩
    parked := fun i o h3 h4 => ?_
    new := fun i h3 => ?_
    off := fun i h3 b o hb => ?_
    two := fun i j h3 h4 hij => ?_
    ext := ⟨hi.ext.next, fun b hb => ?_, Nat.le_trans hi.ext.size hsz, fun c hc hn => ?_, fun b o hb ho => ?_, hi.ext.newId, hi.ext.os, hi.ext.tape, hi.ext.output⟩ }⟩
  · have hb1 := hlow b (hi.wr.dom b o hb)
    rw [hf1 b hb1]
    have hob := hi.wr.obj b o hb
    exact ObjR.congr (hold _ hob.lt) hsz (hob.mono fun b hb => ⟨hb, hf1 b (hlow b hb)⟩)
  · rw [hf1 b (hlow b (hi.wr.dom b o hb)), hf1 b' (hlow b' (hi.wr.dom b' o' hb'))]
    exact hi.wr.apart b b' o o' hb hb' ho hne
  · rcases hpk i h3 with h5 | h5
    · subst h5
      rw [Lay.uniq hk h4 hlay, hf2]
      have h6 := h1 _ (heap_alloc_new w O)
      exact h6
    · rw [hf1 _ (hne i h5)]
      have hob := hi.parked i o h5 h4
      exact ObjR.congr (hold _ hob.lt) hsz (hob.mono (hLe (i + 1)))
  · rcases hpk i h3 with h5 | h5
    · subst h5; rw [hf2]; exact hi.ext.size
    · rw [hf1 _ (hne i h5)]; exact hi.new i h5
  · have hb1 := hlow b (hi.wr.dom b o hb)
    rw [hf1 b hb1]
    rcases hpk i h3 with h5 | h5
    · subst h5; rw [hf2]; exact Nat.ne_of_lt (hi.wr.obj b o hb).lt
    · rw [hf1 _ (hne i h5)]; exact hi.off i h5 b o hb
  · rcases hpk i h3 with h5 | h5
    · rcases hpk j h4 with h6 | h6
      · omega
      · subst h5; rw [hf2, hf1 _ (hne j h6)]; exact Nat.ne_of_gt (hpsz j h6)
    · rcases hpk j h4 with h6 | h6
      · subst h6; rw [hf2, hf1 _ (hne i h5)]; exact Nat.ne_of_lt (hpsz i h5)
      · rw [hf1 _ (hne i h5), hf1 _ (hne j h6)]; exact hi.two i j h5 h6 hij
  · have h3 := hi.ext.inj b hb
    rw [hf1 b (hlow b (Nat.lt_of_lt_of_le hb hi.ext.next))]; exact h3
  · exact (hold c (Nat.lt_of_lt_of_le hc hi.ext.size)).trans (hi.ext.keep c hc hn)
  · rw [hf1 b (hlow b (hi.wr.dom b o hb))]; exact hi.ext.fresh b o hb ho
end
end Rg
end Go.Proofs.PantryEng
namespace Go.Proofs.PantryEng
open Go
namespace Rg
variable {P : Program} {ms : List String} {N : Nat} {tbl : List (List (TypeId × FuncId))} {call : CallF}
variable {r : Rg P ms N tbl call} {L : Nat → Prop} {f0 f : Inj} {h0 : AHeap} {w0 w : World} {a : Act} {p : Nat}

/-- A write or a call. -/
theorem Inv.advance (hi : r.Inv L f0 h0 w0 a w p f) {q : Nat} {v' : Value} {w' : World} {f1 : Inj} (hq : q < r.n) (hnq : ¬ L q) (hpq : p ≤ q) (hl : ∀ i, i < q → L i)
    (hlater : ∀ i, q < i → i < r.n → ∀ t, (r.op q).dst = some t → (r.op i).dst = some t → ¬ L i)
    (hT : TR (Lt (r.H (q + 1)).next) f1 (r.V q) v') (hW : WR (Lt (r.H (q + 1)).next) f1 (r.H (q + 1)) w') (hX : Ext f (r.H q) w f1 (r.H (q + 1)) w') :
    ∃ f', r.Inv (fun i => L i ∨ i = q) f0 h0 w0 (a.put (r.op q).dst v') w' (q + 1) f' := by
  obtain ⟨hwq, hxq, hno⟩ := hi.unpark hpq (Nat.le_of_lt hq) hl
  have hnp := next_le (r := r) hpq (Nat.le_of_lt hq)
  have hnq1 := r.trace.mono q hq
  generalize hf' : (fun b => if b < (r.H (q + 1)).next then f1 b else f b : Inj) = f'
  have hf1 : ∀ b, b < (r.H (q + 1)).next → f' b = f1 b := fun b hb => by rw [← hf']; simp [hb]
  have hf2 : ∀ b, (r.H (q + 1)).next ≤ b → f' b = f b := fun b hb => by rw [← hf']; simp [Nat.not_lt.2 hb]
  have hf3 : ∀ b, b < (r.H q).next → f' b = f b := fun b hb => by rw [hf1 b (Nat.lt_of_lt_of_le hb hnq1)]; exact hX.inj b hb
  have hpk : ∀ i, r.Pk (fun i => L i ∨ i = q) (q + 1) i → r.Pk L p i ∧ q < i := fun i h => by
    have h1 := h.1
    exact ⟨⟨by omega, h.2.1, h.2.2.1.resolve_right (by omega), h.2.2.2⟩, by omega⟩
  have hid : ∀ i, i < r.n → q < i → (r.H (q + 1)).next ≤ (r.H i).next := fun i h1 h2 => next_le (by omega) (by omega)
  have hle : ∀ m, Le (r.Dk L p m) (r.Dk (fun i => L i ∨ i = q) (q + 1) m) f f' := by
    intro m b hb
    obtain ⟨h1, h2⟩ := hb
    rcases h1 with h1 | ⟨i, h1, rfl⟩
    · exact ⟨⟨.inl (by omega), h2⟩, hf3 b (by omega)⟩
    · rcases Nat.lt_trichotomy i q with h | h | h
      · obtain ⟨ob, ho⟩ := h1.2.2.2
        have := ho.lt (Nat.le_of_lt hq) h
        exact ⟨⟨.inl (by omega), h2⟩, hf3 _ this⟩
      · subst h; exact absurd h1.2.2.1 hnq
      · exact ⟨⟨.inr ⟨i, ⟨h, h1.2.1, .inl h1.2.2.1, h1.2.2.2⟩, rfl⟩, h2⟩, hf2 _ (hid i h1.2.1 h)⟩
  have hoff : ∀ i, r.Pk L p i → q < i → ∀ b o, (r.H q).get b = some o → (f b).1 ≠ (f (r.H i).next).1 := by
    intro i h1 h2 b o hb
    rcases seg_of hpq (Nat.le_of_lt hq) hno hb with h | ⟨j, h3, h4, h5, h6⟩
    · exact hi.off i h1 b o h
    · rw [h6]
      exact hi.two j i ⟨h3, by omega, hl j h4, o, h5⟩ h1 (by omega)
  have hc : ∀ i, r.Pk L p i → (f (r.H i).next).1 < w.heap.size := fun i h => by
    obtain ⟨o, h4⟩ := h.2.2.2
    exact (hi.parked i o h h4).lt
  refine ⟨f', {
    ple := hq
    below := fun j hj => by
      by_cases e : j = q
      · exact .inr e
      · exact .inl (hl j (by omega))
    noeff := fun j h1 h2 h3 h4 => by
      rcases h4 with h4 | h4
      · exact hi.noeff j (by omega) h2 h3 h4
      · omega
    size := put_size.trans hi.size
    defers := put_defers.trans hi.defers
    tmps := tmps_put hq hnq hlater hi.size hi.tmps (fun m hm => hle m) (hT.mono fun b hb => ⟨⟨.inl hb, hb⟩, hf1 b hb⟩)
    wr := ⟨hW.dom, fun b o hb => ?_, fun b b' o o' hb hb' ho hne => ?_⟩
    parked := fun i o h3 h4 => ?_
    new := fun i h3 => ?_
    off := fun i h3 b o hb => ?_
    two := fun i j h3 h4 hij => ?_
    ext := ?_ }⟩
  · rw [hf1 b (hW.dom b o hb)]
    exact (hW.obj b o hb).mono fun b hb => ⟨hb, hf1 b hb⟩
  · rw [hf1 b (hW.dom b o hb), hf1 b' (hW.dom b' o' hb')]
    exact hW.apart b b' o o' hb hb' ho hne
  · obtain ⟨h5, h6⟩ := hpk i h3
    rw [hf2 _ (hid i h5.2.1 h6)]
    refine ObjR.congr ?_ hX.size ((hi.parked i o h5 h4).mono (hle (i + 1)))
    exact hX.keep _ (hc i h5) fun b o hb _ => hoff i h5 h6 b o hb
  · obtain ⟨h5, h6⟩ := hpk i h3
    rw [hf2 _ (hid i h5.2.1 h6)]
    exact hi.new i h5
  · obtain ⟨h5, h6⟩ := hpk i h3
    rw [hf2 _ (hid i h5.2.1 h6), hf1 b (hW.dom b o hb)]
    cases ho : o.own with
    | true =>
      rcases hX.fresh b o hb ho with h | ⟨b0, o0, h7, h8, h9⟩
      · have := hc i h5; omega
      · rw [h9]; exact hoff i h5 h6 b0 o0 h7
    | false =>
      have h7 := hX.newId b o hb ho
      rw [hX.inj b (hwq.dom b o h7)]
      exact hoff i h5 h6 b o h7
  · obtain ⟨h5, h6⟩ := hpk i h3
    obtain ⟨h7, h8⟩ := hpk j h4
    rw [hf2 _ (hid i h5.2.1 h6), hf2 _ (hid j h7.2.1 h8)]
    exact hi.two i j h5 h7 hij
  · have hx := hxq.trans hX
    exact ⟨hx.next, fun b hb => (hf1 b (Nat.lt_of_lt_of_le hb hx.next)).trans (hx.inj b hb), hx.size, hx.keep, fun b o hb ho => by rw [hf1 b (hW.dom b o hb)]; exact hx.fresh b o hb ho, hx.newId, hx.os, hx.tape, hx.output⟩

/-! ### an operation that is ready -/
theorem first (r : Rg P ms N tbl call) : ∀ (d p k : Nat), p + d = k → ∃ m, p ≤ m ∧ m ≤ k ∧ (m = k ∨ r.eff m) ∧ ∀ i, p ≤ i → i < m → ¬ r.eff i := by
  intro d
  induction d with
  | zero => intro p k h; exact ⟨p, Nat.le_refl _, by omega, .inl (by omega), fun i h1 h2 => by omega⟩
  | succ d ih =>
    intro p k h
    by_cases he : r.eff p
    · exact ⟨p, Nat.le_refl _, by omega, .inr he, fun i h1 h2 => by omega⟩
    · obtain ⟨m, h1, h2, h3, h4⟩ := ih (p + 1) k (by omega)
      refine ⟨m, by omega, h2, h3, fun i h5 h6 => ?_⟩
      by_cases e : i = p
      · subst e; exact he
      · exact h4 i (by omega) h6

/-- The heap of that which is there. -/
theorem Inv.there (hi : r.Inv L f0 h0 w0 a w p f) : ∀ j, j ≤ r.n → ∃ K : AHeap, ∀ b o, K.get b = some o ↔ ((r.H p).get b = some o ∨ ∃ i, i < j ∧ r.Pk L p i ∧ r.Lay i o ∧ b = (r.H i).next) := by
  intro j
  induction j with
  | zero => intro _; exact ⟨r.H p, fun b o => ⟨.inl, fun h => by rcases h with h | ⟨i, h, _⟩; exact h; omega⟩⟩
  | succ j ih =>
    intro hj
    obtain ⟨K, hK⟩ := ih (by omega)
    by_cases hp : r.Pk L p j
    · obtain ⟨ob, hob⟩ := hp.2.2.2
      refine ⟨K.set (r.H j).next ob, fun b o => ?_⟩
      rw [AHeap.get_set]
      by_cases e : (r.H j).next = b
      · rw [if_pos e]
        constructor
        · intro h; injection h with h; subst h; exact .inr ⟨j, by omega, hp, hob, e.symm⟩
        · rintro (h | ⟨i, h1, h2, h3, h4⟩)
          · have := hi.wr.dom b o h
            have := next_le (r := r) hp.1 (by omega)
            simp only [Lt] at *
            omega
          · by_cases e2 : i = j
            · subst e2; rw [hob.uniq (by omega) h3]
            · have := h3.lt (show j ≤ r.n by omega) (by omega)
              omega
      · rw [if_neg e, hK]
        constructor
        · rintro (h | ⟨i, h1, h2⟩)
          · exact .inl h
          · exact .inr ⟨i, by omega, h2⟩
        · rintro (h | ⟨i, h1, h2, h3, h4⟩)
          · exact .inl h
          · by_cases e2 : i = j
            · subst e2; exact absurd h4.symm e
            · exact .inr ⟨i, by omega, h2, h3, h4⟩
    · refine ⟨K, fun b o => ?_⟩
      rw [hK]
      constructor
      · rintro (h | ⟨i, h1, h2⟩)
        · exact .inl h
        · exact .inr ⟨i, by omega, h2⟩
      · rintro (h | ⟨i, h1, h2, h3⟩)
        · exact .inl h
        · by_cases e2 : i = j
          · subst e2; exact absurd h2 hp
          · exact .inr ⟨i, by omega, h2, h3⟩

theorem Inv.heap (hi : r.Inv L f0 h0 w0 a w p f) {k : Nat} (hk : k < r.n) (hpk : p ≤ k) {m : Nat} (h1 : p ≤ m) (h2 : m ≤ k) (h3 : ∀ i, p ≤ i → i < m → ¬ r.eff i) :
    ∃ K, WR (r.Dk L p k) f K w ∧ Holds (r.Dk L p k) (r.H m) K := by
  obtain ⟨K, hK⟩ := hi.there k (by omega)
  have hnp := next_le (r := r) hpk (Nat.le_of_lt hk)
  refine ⟨K, ⟨fun b o hb => ?_, fun b o hb => ?_, fun b b' o o' hb hb' ho hne => ?_⟩, fun b o hd hb => ?_⟩
  · rcases (hK b o).1 hb with h | ⟨i, h4, h5, h6, h7⟩
    · have := hi.wr.dom b o h
      simp only [Lt] at this
      exact ⟨.inl this, by omega⟩
    · exact ⟨.inr ⟨i, h5, h7⟩, by rw [h7]; exact h6.lt (by omega) h4⟩
  · rcases (hK b o).1 hb with h | ⟨i, h4, h5, h6, h7⟩
    · exact (hi.wr.obj b o h).mono (Le.of f fun b hb => ⟨.inl hb, Nat.lt_of_lt_of_le hb hnp⟩)
    · rw [h7]
      exact (hi.parked i o h5 h6).mono (Le.of f fun b hb => ⟨hb.1, Nat.lt_of_lt_of_le hb.2 (next_le (by omega) (by omega))⟩)
  · rcases (hK b o).1 hb with h | ⟨i, h4, h5, h6, h7⟩
    · rcases (hK b' o').1 hb' with h' | ⟨j, h4', h5', h6', h7'⟩
      · exact hi.wr.apart b b' o o' h h' ho hne
      · rw [h7']; exact hi.off j h5' b o h
    · rcases (hK b' o').1 hb' with h' | ⟨j, h4', h5', h6', h7'⟩
      · rw [h7]; exact fun e => hi.off i h5 b' o' h' e.symm
      · rw [h7, h7']
        exact hi.two i j h5 h5' fun e => by subst e; exact hne (h7.trans h7'.symm)
  · rw [hK]
    rcases seg_of h1 (by omega) h3 hb with h | ⟨i, h4, h5, h6, h7⟩
    · exact .inl h
    · refine .inr ⟨i, by omega, ?_, h6, h7⟩
      rcases hd.1 with h8 | ⟨j, h8, h9⟩
      · have := next_le (r := r) h4 (by omega)
        omega
      · have : i = j := by
          obtain ⟨ob, hob⟩ := h8.2.2.2
          rcases Nat.lt_trichotomy i j with h | h | h
          · have := h6.lt (show j ≤ r.n by have := h8.2.1; omega) h; omega
          · exact h
          · have := hob.lt (show i ≤ r.n by omega) h; omega
        rw [this]; exact h8

structure Rdy (r : Rg P ms N tbl call) (L : Nat → Prop) (k : Nat) : Prop where
  lt : k < r.n
  not : ¬ L k
  before : ∀ i, i < k → r.anc k i → L i
  after : ∀ i, k < i → i < r.n → r.anc i k → ¬ L i

theorem clash_l {i k t : Nat} (hd : (r.op i).dst = some t) (ht : t ∈ r.U k ∨ (r.op k).dst = some t) : clash r.ops (aos P ms N r.ops) (r.x i) (r.x k) = true := by
  have hd' : (r.ops.getD (r.x i) default).dst = some t := hd
  unfold clash
  rw [hd']
  rcases ht with h | h
  · have h' : (allLooks r.ops (aos P ms N r.ops) (r.x k)).contains t = true := List.contains_iff_mem.2 h
    simp only [h', Bool.or_true, Bool.true_or]
  · have h' : (r.ops.getD (r.x k) default).dst = some t := h
    simp only [h', beq_self_eq_true, Bool.true_or]

theorem clash_r {i k t : Nat} (hd : (r.op i).dst = some t) (ht : t ∈ r.U k) : clash r.ops (aos P ms N r.ops) (r.x k) (r.x i) = true := by
  have hd' : (r.ops.getD (r.x i) default).dst = some t := hd
  unfold clash
  have h' : (allLooks r.ops (aos P ms N r.ops) (r.x k)).contains t = true := List.contains_iff_mem.2 ht
  simp only [hd', h', Bool.or_true]

theorem Rdy.settled {k : Nat} (hr : r.Rdy L k) : ∀ t ∈ r.U k, r.Settled L t k := by
  intro t ht i hi hd
  constructor
  · intro h
    exact hr.before i h (r.good.clash i k h hr.lt (clash_l hd (.inl ht)))
  · intro h
    rcases Nat.lt_trichotomy i k with h1 | h1 | h1
    · exact h1
    · subst h1; exact absurd h hr.not
    · exact absurd h (hr.after i h1 hi (r.good.clash k i h1 hi (clash_r hd ht)))

theorem Rdy.later {k : Nat} (hr : r.Rdy L k) : ∀ i, k < i → i < r.n → ∀ t, (r.op k).dst = some t → (r.op i).dst = some t → ¬ L i :=
  fun i h1 h2 t h3 h4 => hr.after i h1 h2 (r.good.clash k i h1 h2 (clash_l h3 (.inr h4)))

theorem looks_U {k : Nat} : (∀ t ∈ looks r.ops (r.op k), t ∈ r.U k) ∧ ∀ t ∈ (r.ao k).looks, t ∈ r.U k :=
  ⟨fun t h => List.mem_append_left _ h, fun t h => List.mem_append_right _ h⟩

theorem Inv.cut (hi : r.Inv L f0 h0 w0 a w p f) {k : Nat} (hr : r.Rdy L k) : EnvR (r.Dk L p k) f N (cutE (r.E k) (r.U k)) (cutA a N (r.U k)) := by
  refine ⟨cutA_size, hi.defers, fun t ht => ?_⟩
  rw [cutE_at, cutA_getD hi.size]
  split
  · rename_i h; exact hi.tmps t ht k (Nat.le_of_lt hr.lt) (hr.settled t h)
  · exact TR.undef _ _

theorem Inv.ple' (hi : r.Inv L f0 h0 w0 a w p f) {k : Nat} (hr : r.Rdy L k) : p ≤ k := by
  rcases Nat.lt_or_ge k p with h | h
  · exact absurd (hi.below k h) hr.not
  · exact h

theorem no_select {o : Oper} (h : cOp P ms N o.op ≠ .p .bad) : ∀ cs b, o.op ≠ .select cs b := by
  intro cs b e
  rw [e] at h
  exact h rfl

end Rg
end Go.Proofs.PantryEng
namespace Go.Proofs.PantryEng
open Go
namespace Rg
variable {P : Program} {ms : List String} {N : Nat} {tbl : List (List (TypeId × FuncId))} {call : CallF}
variable {r : Rg P ms N tbl call} {L : Nat → Prop} {f0 f : Inj} {h0 : AHeap} {w0 w : World} {a : Act} {p : Nat} {Q : Exit → Act → World → Prop}

theorem eff_op {k : Nat} (h : r.eff k) : ∃ q, (r.ao k).op = .e q := by
  unfold eff at h
  generalize r.ao k = o at h ⊢
  obtain ⟨d, op, g⟩ := o
  cases op with
  | e q => exact ⟨q, rfl⟩
  | p q => simp [isEff] at h
  | l q => simp [isEff] at h

theorem eff_of {k : Nat} {q : EOp} (h : (r.ao k).op = .e q) : r.eff k := by
  unfold eff
  generalize r.ao k = o at h ⊢
  obtain ⟨d, op, g⟩ := o
  simp only at h
  subst h
  rfl

theorem Inv.wanted (hi : r.Inv L f0 h0 w0 a w p f) {k : Nat} (hr : r.Rdy L k) : wantedA (r.ao k) (r.E k) = Region.wanted (r.op k) (yielded r.ops a.tmps) := by
  have h1 := wanted_eq (hi.cut hr) (ok hr.lt)
  rw [← ao_eq hr.lt, wantedA_cut looks_U.2, wanted_cut hi.size looks_U.1] at h1
  exact h1

theorem Inv.exec (hi : r.Inv L f0 h0 w0 a w p f) {k : Nat} (hb : cOp P ms N (r.op k).op ≠ .p .bad) : execOp a.eval (r.op k) = execOp (cutA a N (r.U k)).eval (r.op k) :=
  execOp_congr _ (no_select hb) (eval_cut hi.size looks_U.1)

theorem opds_R {e : Env} {D : Dom} (he : EnvR D f N e a) {y : Opd} (h : okOpd N y = true) : ∃ v', TR D f (y.ev e) v' := by
  cases y with
  | tmp t => exact ⟨_, he.2.2 t (by simpa [okOpd] using h)⟩
  | lit v => exact ⟨v, .g (litOK_GR D f (show litOK v = true from h))⟩

/-- An operation that is ready goes ahead. -/
theorem Inv.go (hc : CallOK P call) (ht : TblOK P ms tbl) (hi : r.Inv L f0 h0 w0 a w p f) {k : Nat} (hr : r.Rdy L k) {K : Act → World → Prop}
    (hK : ∀ a' w' p' f', r.Inv (fun i => L i ∨ i = k) f0 h0 w0 a' w' p' f' → K a' w') : wpOp P r.ops Q (r.x k) K a w := by
  have hwt := hi.wanted hr
  have hpk := hi.ple' hr
  have hs := step hr.lt
  have hcut := hi.cut hr
  unfold wpOp
  simp only [get_op hr.lt]
  by_cases he : r.eff k
  · have hl : ∀ i, i < k → L i := fun i h => hr.before i h (r.good.eff i k h hr.lt he)
    obtain ⟨hwq, hxq, hno⟩ := hi.unpark hpk (Nat.le_of_lt hr.lt) hl
    obtain ⟨q, hq⟩ := eff_op he
    cases hw : wantedA (r.ao k) (r.E k) with
    | true =>
      rw [hw] at hwt
      rw [if_pos hwt.symm]
      simp only [evStep, hw, cond_true, hq, evOp] at hs
      rw [evE_congr (e' := cutE (r.E k) (r.U k)) (by have := opds_cut (o := r.ao k) (e := r.E k) (U := r.U k) looks_U.2; rw [hq] at this; exact this)] at hs
      have hcq : cOp P ms N (r.op k).op = .e q := by rw [← op_eq hr.lt]; exact hq
      refine .inl (wp_eff hc ht (hi.exec (by rw [hcq]; simp)) hcq (dst_ok hr.lt) (hcut.mono (Le.of f fun b hb => hb.2)) hwq hs fun v' w' f1 r1 r2 r3 => ?_)
      obtain ⟨f', h1⟩ := hi.advance hr.lt hr.not hpk hl hr.later r1 r2 r3
      exact hK _ _ _ _ h1
    | false =>
      rw [hw] at hwt
      rw [if_neg (by rw [← hwt]; simp)]
      obtain ⟨h1, h2⟩ := unw_heap hr.lt hw
      obtain ⟨f', h3⟩ := hi.advance (v' := undef) (w' := w) (f1 := f) hr.lt hr.not hpk hl hr.later (by rw [h2]; exact TR.undef _ _) (by rw [h1]; exact hwq) (by rw [h1]; exact Ext.refl _ _ _)
      exact hK _ _ _ _ h3
  · cases hw : wantedA (r.ao k) (r.E k) with
    | false =>
      rw [hw] at hwt
      rw [if_neg (by rw [← hwt]; simp)]
      obtain ⟨h1, h2⟩ := unw_heap hr.lt hw
      refine hK _ _ _ _ (hi.stepP (v' := undef) hr.lt hr.not hr.later he ?_ (by rw [h2]; exact TR.undef _ _))
      rintro ⟨ob, q, mk, _, h3, _⟩
      rw [hw] at h3
      simp at h3
    | true =>
      rw [hw] at hwt
      rw [if_pos hwt.symm]
      cases hq : (r.ao k).op with
      | e q => exact absurd (eff_of hq) he
      | p q =>
        have hcq : cOp P ms N (r.op k).op = .p q := by rw [← op_eq hr.lt]; exact hq
        simp only [evStep, hw, cond_true, hq, evOp] at hs
        cases hp : evP (r.E k) (r.H k) q with
        | none => rw [hp] at hs; simp at hs
        | some v =>
          rw [hp] at hs
          simp only [Option.map_some, Option.some.injEq, Prod.mk.injEq] at hs
          have hbad : q ≠ .bad := by rintro rfl; simp [evP] at hp
          obtain ⟨m, m1, m2, m3, m4⟩ := r.first (k - p) p k (by omega)
          obtain ⟨Kh, k1, k2⟩ := hi.heap hr.lt hpk m1 m2 m4
          have hread : evP (r.E k) (r.H m) q = some v := by
            rcases m3 with rfl | m3
            · exact hp
            · by_cases e : m = k
              · rw [e]; exact hp
              · cases hrh : readsHeap (r.ao k) with
                | false => rw [evP_noheap (by rw [← readsHeap_op hq]; exact hrh) (r.H m) (r.H k)]; exact hp
                | true =>
                  have hlt : m < k := by omega
                  have hnL : ¬ L m := hi.noeff m m1 (by have := hr.lt; omega) m3
                  rw [hs.1]
                  exact r.trace.back k m q hlt hr.lt hq hw hrh m3 fun ha => hnL (hr.before m hlt ha)
          rw [evP_congr (e' := cutE (r.E k) (r.U k)) (by have := opds_cut (o := r.ao k) (e := r.E k) (U := r.U k) looks_U.2; rw [hq] at this; exact this)] at hread
          have hK2 : evP (cutE (r.E k) (r.U k)) Kh q = some v := by
            cases hrh : readsHeap (r.ao k) with
            | false => rw [evP_noheap (by rw [← readsHeap_op hq]; exact hrh) Kh (r.H m)]; exact hread
            | true =>
              refine evP_holds k2 (fun y hy => opds_R hcut ?_) hread
              refine r.good.opds k hr.lt hrh y ?_
              have : (r.ao k).op.opds = q.opds := by rw [hq]; rfl
              exact this ▸ hy
          obtain ⟨v', s1, s2⟩ := simP hcq hcut k1 hK2
          refine .inl ?_
          unfold Oper.wp
          rw [hi.exec (by rw [hcq]; simpa using hbad), s1]
          refine hK _ _ _ _ (hi.stepP hr.lt hr.not hr.later he ?_ (by rw [← hs.1]; exact s2))
          rintro ⟨ob, q', mk, h3, _⟩
          rw [hq] at h3
          simp at h3
      | l q =>
        have hcq : cOp P ms N (r.op k).op = .l q := by rw [← op_eq hr.lt]; exact hq
        simp only [evStep, hw, cond_true, hq, evOp] at hs
        cases hp : evL (r.E k) q with
        | none => rw [hp] at hs; simp at hs
        | some x =>
          obtain ⟨ob, mk⟩ := x
          have hlay : r.Lay k ob := ⟨q, mk, hq, hw, hp⟩
          rw [hp] at hs
          simp only [Option.map_some, Option.some.injEq, Prod.mk.injEq] at hs
          rw [evL_congr (e' := cutE (r.E k) (r.U k)) (by have := opds_cut (o := r.ao k) (e := r.E k) (U := r.U k) looks_U.2; rw [hq] at this; exact this)] at hp
          obtain ⟨O, v', s1, s2⟩ := simL (w := w) hcq hcut hp
          refine .inl ?_
          unfold Oper.wp
          rw [hi.exec (by rw [hcq]; simp), s1]
          obtain ⟨f', h1⟩ := hi.stepL hr.lt hpk hr.not hr.later he hlay hs.1.symm s2
          exact hK _ _ _ _ h1

/-! ### all of them -/
def Lof (r : Rg P ms N tbl call) (listed : Array Bool) : Nat → Prop := fun k => listed.getD (r.x k) false = true
def Closed (ops : Array Oper) (S : Nat → Prop) : Prop := ∀ x o, ops[x]? = some o → S x → ∀ e ∈ o.after, Region.binds .any e = true → S e.on

theorem getD_tf {listed : Array Bool} {i : Nat} (h : i < listed.size) (d d' : Bool) : listed.getD i d = listed.getD i d' := by
  simp [Array.getD_eq_getD_getElem?, h]

theorem Inv.congr {L' : Nat → Prop} (h : ∀ k, k < r.n → (L k ↔ L' k)) (hi : r.Inv L f0 h0 w0 a w p f) : r.Inv L' f0 h0 w0 a w p f := by
  have hpk : ∀ i, r.Pk L' p i ↔ r.Pk L p i := fun i => ⟨fun ⟨h1, h2, h3, h4⟩ => ⟨h1, h2, (h i h2).2 h3, h4⟩, fun ⟨h1, h2, h3, h4⟩ => ⟨h1, h2, (h i h2).1 h3, h4⟩⟩
  have hD : ∀ m b, r.Dk L p m b → r.Dk L' p m b := fun m b hb => ⟨hb.1.imp id fun ⟨i, h1, h2⟩ => ⟨i, (hpk i).2 h1, h2⟩, hb.2⟩
  exact {
    ple := hi.ple
    below := fun k hk => (h k (Nat.lt_of_lt_of_le hk hi.ple)).1 (hi.below k hk)
    noeff := fun k h1 h2 h3 h4 => hi.noeff k h1 h2 h3 ((h k h2).2 h4)
    size := hi.size
    defers := hi.defers
    tmps := fun t ht k hk hs => (hi.tmps t ht k hk fun i h1 h2 => by rw [h i h1]; exact hs i h1 h2).mono (Le.of f (hD k))
    wr := hi.wr
    parked := fun i ob h1 h2 => (hi.parked i ob ((hpk i).1 h1) h2).mono (Le.of f (hD (i + 1)))
    new := fun i h1 => hi.new i ((hpk i).1 h1)
    off := fun i h1 => hi.off i ((hpk i).1 h1)
    two := fun i j h1 h2 => hi.two i j ((hpk i).1 h1) ((hpk j).1 h2)
    ext := hi.ext }

theorem least {S : Nat → Prop} : ∀ n, (∃ k, k < n ∧ ¬ S k) → ∃ k, k < n ∧ ¬ S k ∧ ∀ i, i < k → S i := by
  intro n
  induction n with
  | zero => rintro ⟨k, h, _⟩; omega
  | succ n ih =>
    rintro ⟨k, h1, h2⟩
    by_cases h : ∃ j, j < n ∧ ¬ S j
    · obtain ⟨j, h3, h4, h5⟩ := ih h
      exact ⟨j, by omega, h4, h5⟩
    · have hall : ∀ i, i < n → S i := fun i hi => Classical.byContradiction fun hn => h ⟨i, hi, hn⟩
      have : k = n := by
        rcases Nat.lt_or_ge k n with h3 | h3
        · exact absurd (hall k h3) h2
        · omega
      subst this
      exact ⟨k, by omega, h2, hall⟩

/-- Where none is ready, all are listed. -/
theorem all_of_none {listed : Array Bool} (hsz : listed.size = r.n) (h : Region.ready .any r.ops listed = []) : ∀ k, k < r.n → r.Lof listed k := by
  intro k hk
  refine Classical.byContradiction fun hn => ?_
  obtain ⟨j, h1, h2, h3⟩ := least (S := r.Lof listed) r.n ⟨k, hk, hn⟩
  have hx : r.x j < r.n := r.good.lt j h1
  have : r.x j ∈ Region.ready .any r.ops listed := by
    rw [mem_ready]
    refine ⟨?_, r.op j, get_op h1, fun e he hb => ?_⟩
    · unfold Lof at h2
      rw [getD_tf (by omega) true false]
      simpa using h2
    · obtain ⟨i, h4, h5⟩ := r.good.after j h1 e he hb
      have := h3 i h4
      unfold Lof at this
      have e2 : r.x i = e.on := h5
      rw [e2] at this
      exact this
  rw [h] at this
  cases this

theorem main (hc : CallOK P call) (ht : TblOK P ms tbl) (hQ : ∀ a' w' f', EnvR (Lt (r.H r.n).next) f' N (r.E r.n) a' → WR (Lt (r.H r.n).next) f' (r.H r.n) w' → Ext f0 h0 w0 f' (r.H r.n) w' → Q .normal a' w') :
    ∀ (fuel : Nat) (listed : Array Bool) (a : Act) (w : World) (p : Nat) (f : Inj), listed.size = r.n → (unl r.n listed).length ≤ fuel → Closed r.ops (fun x => listed.getD x false = true) →
      r.Inv (r.Lof listed) f0 h0 w0 a w p f → wpAny P .any r.ops Q fuel listed a w := by
  have hfin : ∀ (listed : Array Bool) (a : Act) (w : World) (p : Nat) (f : Inj), (∀ k, k < r.n → r.Lof listed k) → r.Inv (r.Lof listed) f0 h0 w0 a w p f → Q .normal a w := by
    intro listed a w p f hall hi
    obtain ⟨h1, h2, _⟩ := hi.unpark hi.ple (Nat.le_refl _) hall
    refine hQ a w f ⟨hi.size, hi.defers, fun t htN => ?_⟩ h1 h2
    exact (hi.tmps t htN r.n (Nat.le_refl _) fun i h3 _ => ⟨fun _ => hall i h3, fun _ => h3⟩).mono (Le.of f fun b hb => hb.2)
  intro fuel
  induction fuel with
  | zero =>
    intro listed a w p f hsz hlen hcl hi
    have hnil : unl r.n listed = [] := List.length_eq_zero_iff.1 (by omega)
    have hall : ∀ x, x < r.n → listed.getD x true = true := by
      intro x hx
      cases h : listed.getD x true with
      | true => rfl
      | false =>
        have : x ∈ unl r.n listed := List.mem_filter.2 ⟨List.mem_range.2 hx, by simp [h]⟩
        rw [hnil] at this; cases this
    have hrdy : Region.ready .any r.ops listed = [] := by
      rw [List.eq_nil_iff_forall_not_mem]
      intro j hj
      obtain ⟨h1, o, h2, _⟩ := mem_ready.1 hj
      have hjn : j < r.n := (Array.getElem?_eq_some_iff.1 h2).1
      rw [hall j hjn] at h1
      cases h1
    exact ⟨hrdy, hfin listed a w p f (all_of_none hsz hrdy) hi⟩
  | succ fuel ih =>
    intro listed a w p f hsz hlen hcl hi
    refine ⟨fun h => hfin listed a w p f (all_of_none hsz h) hi, fun j hj => ?_⟩
    obtain ⟨h1, o, h2, h3⟩ := mem_ready.1 hj
    have hjn : j < r.n := (Array.getElem?_eq_some_iff.1 h2).1
    obtain ⟨k, hk, hkj⟩ := r.good.surj j hjn
    have hxk : r.x k = j := hkj
    have hf : listed.getD j false = false := by rw [getD_tf (by omega) false true]; exact h1
    have hop : o = r.op k := by
      have := get_op (r := r) hk
      rw [hxk, h2] at this
      injection this
    have hrd : r.Rdy (r.Lof listed) k := by
      refine ⟨hk, by unfold Lof; rw [hxk, hf]; simp, fun i hi' ha => ?_, fun i h4 h5 ha hL => ?_⟩
      · refine anc_closed (S := fun x => listed.getD x false = true) hcl (r.x k) (fun o' ho' e he hb => ?_) (r.x i) ha
        rw [hxk, h2] at ho'
        injection ho' with ho'
        subst ho'
        exact h3 e he hb
      · have := anc_closed (S := fun x => listed.getD x false = true) hcl (r.x i) (fun o' ho' e he hb => hcl _ o' ho' hL e he hb) (r.x k) ha
        rw [hxk, hf] at this
        cases this
    have hgo := hi.go (Q := Q) hc ht hrd (K := wpAny P .any r.ops Q fuel (listed.setIfInBounds j true)) fun a' w' p' f' hi' => ?_
    · rw [hxk] at hgo; exact hgo
    · have hlt := unl_set (listed := listed) hsz hjn h1
      refine ih (listed.setIfInBounds j true) a' w' p' f' (by simp [hsz]) (by omega) ?_ (hi'.congr fun i hi2 => ?_)
      · intro y o' ho' hy e he hb
        by_cases e2 : j = y
        · subst e2
          rw [h2] at ho'
          injection ho' with ho'
          subst ho'
          exact getD_set_true (h3 e he hb)
        · have hy' : listed.getD y false = true := by
            have := getD_set_ne (listed := listed) false e2
            rw [this] at hy
            exact hy
          exact getD_set_true (hcl y o' ho' hy' e he hb)
      · show (r.Lof listed i ∨ i = k) ↔ (listed.setIfInBounds j true).getD (r.x i) false = true
        by_cases e2 : i = k
        · subst e2
          rw [hxk]
          simp [hsz, hjn]
        · have hne : j ≠ r.x i := by
            intro e3
            rcases Nat.lt_or_gt_of_ne e2 with h4 | h4
            · exact r.good.inj i k h4 hk (e3.symm.trans hxk.symm)
            · exact r.good.inj k i h4 hi2 (hxk.trans e3)
          rw [getD_set_ne false hne]
          simp [e2, Lof]

end Rg

/-- A REGION THAT DRAWS ITS ORDER. -/
theorem sim_draw {P : Program} {ms : List String} {N : Nat} {tbl : List (List (TypeId × FuncId))} {call : CallF} (hc : CallOK P call) (ht : TblOK P ms tbl) (hm : P.follows .mixedOrders = true) {ops : Array Oper} {order : List Nat} (hok : orderOK N ops (aos P ms N ops) (ancs ops.toList) order = true)
    {e e' : Env} {h h' : AHeap} {a : Act} {w : World} {f : Inj} {id : Nat} {Q : Exit → Act → World → Prop} (he : EnvR (Lt h.next) f N e a) (hw : WR (Lt h.next) f h w)
    (hv : evDraw tbl call (backs (aos P ms N ops) (ancs ops.toList) [] order) e h [] = some (e', h'))
    (hq : ∀ a' w' f', EnvR (Lt h'.next) f' N e' a' → WR (Lt h'.next) f' h' w' → Ext f h w f' h' w' → Q .normal a' w') : (Code.region id ops true).wp P Q a w := by
  have hg := orderOK_good hok
  obtain ⟨E, H, V, k1, k2, k3, k4, k5⟩ := draw_trace hg hv
  let r : Rg P ms N tbl call := ⟨ops, order, E, H, V, hg, k5⟩
  refine wp_region_any hm ?_
  refine Rg.main (r := r) (f0 := f) (h0 := h) (w0 := w) hc ht ?_ ops.size (Array.replicate ops.size false) a w.drew 0 f (by simp; rfl) ?_ ?_ ?_
  · intro a' w' f' h1 h2 h3
    have e1 : r.H r.n = h' := k4
    have e2 : r.E r.n = e' := k3
    rw [e1] at h1 h2 h3
    rw [e2] at h1
    exact hq a' w' f' h1 h2 h3
  · refine Nat.le_trans (List.length_filter_le _ _) ?_
    simp [Rg.n, r]
  · intro x o ho hx
    simp [Array.getD_eq_getD_getElem?, Array.getElem?_replicate] at hx
    split at hx <;> simp at hx
  · have hno : ∀ k, ¬ r.Lof (Array.replicate ops.size false) k := by
      intro k hk
      unfold Rg.Lof at hk
      simp [Array.getD_eq_getD_getElem?, Array.getElem?_replicate] at hk
      split at hk <;> simp at hk
    have e1 : r.H 0 = h := k2
    have e2 : r.E 0 = e := k1
    have hpk : ∀ i, ¬ r.Pk (r.Lof (Array.replicate ops.size false)) 0 i := fun i hi => hno i hi.2.2.1
    refine ⟨Nat.zero_le _, fun k hk => by omega, fun k _ _ _ => hno k, he.1, he.2.1, fun t htN k hk hs => ?_, by rw [e1]; exact hw.drew, fun i ob hi => absurd hi (hpk i), fun i hi => absurd hi (hpk i), fun i hi => absurd hi (hpk i), fun i j hi => absurd hi (hpk i), by rw [e1]; exact Ext.drew f h w⟩
    have h3 : (r.E k).at t = e.at t := by
      rw [Rg.env_at (k := 0) (Nat.zero_le _) hk ?_, e2]
      intro i _ hik hd
      exact hno i ((hs i (by omega) hd).1 hik)
    rw [h3]
    refine (he.2.2 t htN).mono (Rg.Le.of f fun b hb => ?_)
    have hb' : b < (r.H 0).next := by rw [e1]; exact hb
    exact ⟨.inl hb', Nat.lt_of_lt_of_le hb' (Rg.next_le (Nat.zero_le _) hk)⟩

end Go.Proofs.PantryEng
namespace Go.Proofs.PantryEng
open Go

section
variable {P : Program} {ms : List String} {N : Nat} {tbl : List (List (TypeId × FuncId))} {call : CallF}

def exitOf : AExit → Exit
  | .normal => .normal
  | .exit i => .exit i
  | .ret => .ret

/-- What code leaves. -/
def Left (N : Nat) (f : Inj) (h : AHeap) (w : World) (x : AExit) (e' : Env) (h' : AHeap) (Q : Exit → Act → World → Prop) : Prop :=
  ∀ a' w' f', EnvR (Lt h'.next) f' N e' a' → WR (Lt h'.next) f' h' w' → Ext f h w f' h' w' → Q (exitOf x) a' w'

def SimC (P : Program) (ms : List String) (N : Nat) (tbl : List (List (TypeId × FuncId))) (call : CallF) (fuel : Nat) (c : Code) : Prop :=
  ∀ e h x e' h', evCode tbl call fuel (cCode P ms N c) e h = some (x, e', h') → ∀ a w f Q, EnvR (Lt h.next) f N e a → WR (Lt h.next) f h w → Left N f h w x e' h' Q → c.wp P Q a w

theorem sim_region {fuel : Nat} (hc : CallOK P call) (ht : TblOK P ms tbl) (hm : P.follows .mixedOrders = true) (id : Nat) (ops : Array Oper) (draw : Bool) : SimC P ms N tbl call fuel (.region id ops draw) := by
  intro e h x e' h' hv a w f Q he hw hq
  simp only [cCode, cRegion] at hv
  cases draw with
  | false =>
    simp only [Bool.false_eq_true, if_false, evCode] at hv
    cases ho : evOps tbl call (ops.toList.map (cOper P ms N ops)) e h with
    | none => rw [ho] at hv; simp at hv
    | some r =>
      obtain ⟨e1, h1⟩ := r
      rw [ho] at hv
      simp only [Option.map_some, Option.some.injEq, Prod.mk.injEq] at hv
      obtain ⟨rfl, rfl, rfl⟩ := hv
      exact wp_region_list (sim_ops hc ht _ _ _ _ _ _ _ _ he hw ho hq)
  | true =>
    simp only [if_true] at hv
    split at hv
    · rename_i hok
      simp only [evCode] at hv
      cases ho : evDraw tbl call (backs (ops.toList.map (cOper P ms N ops)) (ancs ops.toList) [] (orderGo ops.size (ancs ops.toList) ((List.range ops.size).filter fun i => isEff ((ops.toList.map (cOper P ms N ops)).getD i badOper)) [])) e h [] with
      | none => rw [ho] at hv; simp at hv
      | some r =>
        obtain ⟨e1, h1⟩ := r
        rw [ho] at hv
        simp only [Option.map_some, Option.some.injEq, Prod.mk.injEq] at hv
        obtain ⟨rfl, rfl, rfl⟩ := hv
        exact sim_draw hc ht hm hok he hw ho hq
    · simp [evCode] at hv

theorem sim_code (hc : CallOK P call) (ht : TblOK P ms tbl) (hm : P.follows .mixedOrders = true) (fuel : Nat) : ∀ c : Code, SimC P ms N tbl call fuel c := by
  intro c
  induction c with
  | skip =>
    intro e h x e' h' hv a w f Q he hw hq
    simp only [cCode, evCode, Option.some.injEq, Prod.mk.injEq] at hv
    obtain ⟨rfl, rfl, rfl⟩ := hv
    exact wp_skip (hq a w f he hw (Ext.refl _ _ _))
  | region id ops draw => exact sim_region hc ht hm id ops draw
  | seq x y ihx ihy =>
    intro e h z e' h' hv a w f Q he hw hq
    simp only [cCode, evCode] at hv
    refine wp_seq ?_
    split at hv
    · rename_i e1 h1 hx
      refine ihx _ _ _ _ _ hx _ _ _ _ he hw fun a1 w1 f1 r1 r2 r3 => ?_
      exact ihy _ _ _ _ _ hv _ _ _ _ r1 r2 fun a2 w2 f2 q1 q2 q3 => hq a2 w2 f2 q1 q2 (r3.trans q3)
    · rename_i hn
      refine ihx _ _ _ _ _ hv _ _ _ _ he hw fun a1 w1 f1 r1 r2 r3 => ?_
      cases z with
      | normal => exact absurd hv (hn _ _)
      | exit i => exact hq a1 w1 f1 r1 r2 r3
      | ret => exact hq a1 w1 f1 r1 r2 r3
  | cond c x y ihx ihy =>
    intro e h z e' h' hv a w f Q he hw hq
    simp only [cCode] at hv
    split at hv
    · rename_i c' hc'
      have hR := cOpd_R he hc'
      simp only [evCode] at hv
      split at hv
      · rename_i e1
        rw [e1] at hR
        exact wp_cond_true hR.bool_inv (ihx _ _ _ _ _ hv _ _ _ _ he hw hq)
      · rename_i e1
        rw [e1] at hR
        exact wp_cond_false hR.bool_inv (ihy _ _ _ _ _ hv _ _ _ _ he hw hq)
      · simp at hv
    · simp [evCode] at hv
  | block id b ih =>
    intro e h z e' h' hv a w f Q he hw hq
    simp only [cCode, evCode] at hv
    refine wp_block ?_
    split at hv
    · rename_i i e1 h1 hb
      refine ih _ _ _ _ _ hb _ _ _ _ he hw fun a1 w1 f1 r1 r2 r3 => ?_
      simp only [exitOf, Exit.inBlock]
      split at hv
      · rename_i hi
        simp only [Option.some.injEq, Prod.mk.injEq] at hv
        obtain ⟨rfl, rfl, rfl⟩ := hv
        rw [if_pos hi]
        exact hq a1 w1 f1 r1 r2 r3
      · rename_i hi
        simp only [Option.some.injEq, Prod.mk.injEq] at hv
        obtain ⟨rfl, rfl, rfl⟩ := hv
        rw [if_neg hi]
        exact hq a1 w1 f1 r1 r2 r3
    · rename_i hn
      refine ih _ _ _ _ _ hv _ _ _ _ he hw fun a1 w1 f1 r1 r2 r3 => ?_
      cases z with
      | normal => exact hq a1 w1 f1 r1 r2 r3
      | exit i => exact absurd hv (hn _ _ _)
      | ret => exact hq a1 w1 f1 r1 r2 r3
  | loop b ih =>
    intro e h z e' h' hv a w f Q he hw hq
    simp only [cCode, evCode] at hv
    refine wp_loop_rounds fuel ?_
    have key : ∀ n e h a w f Q, loopN (evCode tbl call fuel (cCode P ms N b)) n e h = some (z, e', h') → EnvR (Lt h.next) f N e a → WR (Lt h.next) f h w → Left N f h w z e' h' Q → Code.rounds P b Q n a w := by
      intro n
      induction n with
      | zero => intro e h a w f Q hv; simp [loopN] at hv
      | succ n ihn =>
        intro e h a w f Q hv he hw hq
        simp only [loopN] at hv
        rw [rounds_succ]
        split at hv
        · rename_i e1 h1 hb
          refine ih _ _ _ _ _ hb _ _ _ _ he hw fun a1 w1 f1 r1 r2 r3 => ?_
          exact ihn _ _ _ _ _ _ hv r1 r2 fun a2 w2 f2 q1 q2 q3 => hq a2 w2 f2 q1 q2 (r3.trans q3)
        · rename_i hn
          refine ih _ _ _ _ _ hv _ _ _ _ he hw fun a1 w1 f1 r1 r2 r3 => ?_
          cases z with
          | normal => exact absurd hv (hn _ _)
          | exit i => exact hq a1 w1 f1 r1 r2 r3
          | ret => exact hq a1 w1 f1 r1 r2 r3
    exact key _ _ _ _ _ _ _ hv he hw hq
  | exit id =>
    intro e h x e' h' hv a w f Q he hw hq
    simp only [cCode, evCode, Option.some.injEq, Prod.mk.injEq] at hv
    obtain ⟨rfl, rfl, rfl⟩ := hv
    exact wp_exit (hq a w f he hw (Ext.refl _ _ _))
  | ret =>
    intro e h x e' h' hv a w f Q he hw hq
    simp only [cCode, evCode, Option.some.injEq, Prod.mk.injEq] at hv
    obtain ⟨rfl, rfl, rfl⟩ := hv
    exact wp_ret (hq a w f he hw (Ext.refl _ _ _))
  | _ => intro e h x e' h' hv; simp [cCode, evCode] at hv

/-! ### what a function hands back -/
def resF (a : Act) : ResultVar → Sem Value
  | .tmp t => pure (a.tmps.getD t undef)
  | .cell b t => do loadVar t (← asAddr (a.tmps.getD b undef))
theorem sim_res {e : Env} {h : AHeap} {f : Inj} {a : Act} {w : World} (he : EnvR (Lt h.next) f N e a) (hw : WR (Lt h.next) f h w) :
    ∀ {rs : List ResultVar} {l : List ARes} {vs : List Value}, cRes P N rs = some l → evRes e h l = some vs →
    ∃ vs', (rs.mapM (resF a)).run P w = .ok vs' w ∧ All2 (GR (Lt h.next) f) vs vs' := by
  intro rs
  induction rs with
  | nil =>
    intro l vs hl hv
    simp only [cRes, Option.some.injEq] at hl
    subst hl
    simp only [evRes, Option.some.injEq] at hv
    subst hv
    exact ⟨[], by simp, .nil⟩
  | cons r rs ih =>
    intro l vs hl hv
    cases r with
    | tmp t =>
      simp only [cRes] at hl
      split at hl
      · rename_i ht
        cases hr : cRes P N rs with
        | none => rw [hr] at hl; simp at hl
        | some l' =>
          rw [hr] at hl
          simp only [Option.map_some, Option.some.injEq] at hl
          subst hl
          simp only [evRes, ARes.ev] at hv
          split at hv
          · rename_i v vs1 h1 h2
            split at hv
            · simp at hv
            · rename_i htup
              injection hv with hv
              subst hv
              injection h1 with h1
              subst h1
              obtain ⟨vs', k1, k2⟩ := ih hr h2
              refine ⟨a.tmps.getD t undef :: vs', ?_, .cons ((he.2.2 t ht).gr (by simpa using htup)) k2⟩
              simp only [List.mapM_cons, resF, Sem.run_bind, Sem.run_pure, Result.andThen_ok, k1]
          · simp at hv
      · simp at hl
    | cell b t =>
      simp only [cRes] at hl
      split at hl
      · rename_i hb
        split at hl
        · rename_i g n l' h1 h2 h3
          injection hl with hl
          subst hl
          simp only [evRes, ARes.ev] at hv
          split at hv
          · rename_i v vs1 h4 h5
            split at hv
            · simp at hv
            · rename_i htup
              injection hv with hv
              subst hv
              obtain ⟨vs', k1, k2⟩ := ih h3 h5
              obtain ⟨v', q1, q2⟩ := sim_load (t := t) (x := .tmp b) (y := .tmp b) he hw (by simp [cOpd, hb]) h1 h2 h4
              have q3 : (resF a (.cell b t)).run P w = .ok v' w := by
                have h6 : ∃ bb o, e.at b = .pointer (some ⟨bb, o, none⟩) := by
                  simp only [evP, Opd.ev] at h4
                  split at h4
                  · rename_i bb o hbb; exact ⟨bb, o, hbb⟩
                  · simp at h4
                obtain ⟨bb, o, h6⟩ := h6
                have hR := he.2.2 b hb
                rw [h6] at hR
                obtain ⟨_, hx'⟩ := hR.ptr_inv
                simp only [Act.eval, hx', Instr.loadAt, Instr.sureAddr, Sem.run_bind, Sem.run_pure, Result.andThen_ok] at q1
                simp only [resF, hx', asAddr, Sem.run_bind, Sem.run_pure, Result.andThen_ok]
                exact q1
              refine ⟨v' :: vs', ?_, .cons (q2.gr (by simpa using htup)) k2⟩
              simp only [List.mapM_cons, Sem.run_bind, Sem.run_pure, q3, Result.andThen_ok, k1]
          · simp at hv
        · simp at hl
      · simp at hl

theorem All2.len1 {α β : Type} {R : α → β → Prop} {l : List α} {l' : List β} (h : All2 R l l') : l.length = l'.length := h.length

theorem sim_pack {D : Dom} {f : Inj} {vs vs' : List Value} (h : All2 (GR D f) vs vs') : TR D f (packV vs) (if h : vs'.length = 1 then vs'[0] else .tuple ⟨vs'⟩) := by
  cases h with
  | nil => exact .tuple .nil
  | cons h1 h2 =>
    cases h2 with
    | nil => exact .g h1
    | cons h3 h4 => exact .tuple (.cons h1 (.cons h3 h4))

theorem sim_results {fn : Func} {l : List ARes} {vs : List Value} {e : Env} {h : AHeap} {f : Inj} {a : Act} {w : World} (he : EnvR (Lt h.next) f N e a) (hw : WR (Lt h.next) f h w)
    (hl : cRes P N fn.results.toList = some l) (hv : evRes e h l = some vs) : ∃ v', (results fn a.tmps).run P w = .ok v' w ∧ TR (Lt h.next) f (packV vs) v' := by
  obtain ⟨vs', k1, k2⟩ := sim_res he hw hl hv
  refine ⟨_, ?_, sim_pack k2⟩
  have e1 : results fn a.tmps = (do let vs ← fn.results.mapM (resF a); pure (if h : vs.size = 1 then vs[0] else .tuple vs)) := rfl
  rw [e1, Array.mapM_eq_mapM_toList]
  simp only [Sem.run_bind, Sem.run_map, k1, Result.andThen_ok, Sem.run_pure, map_eq_pure_bind]
  rfl

/-- The slots as a call finds them. -/
theorem argsEnv_at : ∀ (vs : List Value) (i : Nat) (e : Env) (t : Nat), (argsEnv i vs e).at t = if t < i then e.at t else (vs[t - i]?).getD (e.at t) := by
  intro vs
  induction vs with
  | nil => intro i e t; simp [argsEnv]
  | cons v vs ih =>
    intro i e t
    simp only [argsEnv]
    rw [ih]
    have hat : Env.at (Tree.put e i (some v)) t = if i = t then v else e.at t := by
      unfold Env.at; rw [Tree.get_put]; split <;> rfl
    rw [hat]
    by_cases h1 : t < i
    · rw [if_pos (by omega), if_neg (by omega), if_pos h1]
    · by_cases h2 : i = t
      · subst h2; simp
      · rw [if_neg (by omega), if_neg h2, if_neg h1]
        have : t - i = (t - (i + 1)) + 1 := by omega
        rw [this]; simp

theorem env0_at (t : Nat) : Env.at (.nil : Env) t = noValue := by simp [Env.at, Tree.get_nil]

theorem args_env {D : Dom} {f : Inj} {vs vs' : List Value} (h : All2 (TR D f) vs vs') (hn : vs.length ≤ N) : EnvR D f N (argsEnv 0 vs .nil) { tmps := (⟨vs'⟩ : Array Value) ++ Array.replicate (N - (⟨vs'⟩ : Array Value).size) undef, defers := [] } := by
  have hl := h.length
  refine ⟨by simp; omega, rfl, fun t ht => ?_⟩
  rw [argsEnv_at, if_neg (by omega), env0_at]
  simp only [Nat.sub_zero, Array.getD_eq_getD_getElem?]
  by_cases h1 : t < vs.length
  · obtain ⟨v', h2, h3⟩ := h.get (List.getElem?_eq_getElem h1)
    rw [List.getElem?_eq_getElem h1, Array.getElem?_append_left (by simp; omega)]
    have : (⟨vs'⟩ : Array Value)[t]? = some v' := by simpa using h2
    rw [this]
    exact h3
  · rw [List.getElem?_eq_none (by omega), Array.getElem?_append_right (by simp; omega)]
    simp only [Option.getD_none, Array.getElem?_replicate]
    split <;> exact TR.undef _ _

/-- A function that is reckoned with. -/
theorem sim_body (hc : CallOK P call) (ht : TblOK P ms tbl) (hm : P.follows .mixedOrders = true) {fuel : Nat} {F : FuncId} {fn : Func} {af : AFunc} (hF : P.funcs[F]? = some fn) (hf : cFunc P ms fn = some af) {args : List Value} {h h' : AHeap} {r : Value}
    (hn : args.length ≤ af.ntmps) (hv : evBody tbl call fuel af args h = some (r, h')) : (∀ args w, (callFunc F args).run P w = .ok (.enter F args) w) ∧
    ∀ f w args', WR (Lt h.next) f h w → All2 (TR (Lt h.next) f) args args' → Calls P F ⟨args'⟩ w (RetR f h w r h') := by
  unfold cFunc at hf
  split at hf
  · rename_i b rs hb hrs
    split at hf
    · simp at hf
    · rename_i hname
      injection hf with hf
      subst hf
      refine ⟨fun args w => ?_, fun f w args' hw ha => ?_⟩
      · have hname' : (fn.name == "runtime.NumGoroutine") = false := by simpa using hname
        have hn2 : ¬ fn.name = "runtime.NumGoroutine" := by simpa using hname
        simp [callFunc, hF, hn2, hb]
      · refine calls_of_wp hF hb ?_
        simp only at hn hv
        have he := args_env (N := fn.ntmps) ha hn
        unfold evBody at hv
        have hfin : ∀ (e1 : Env) (h1 : AHeap) (x : AExit), (x = .normal ∨ x = .ret) → (evRes e1 h1 rs).map (fun vs => (packV vs, h1)) = some (r, h') → Left fn.ntmps f h w x e1 h1 (bodyPost P fn (RetR f h w r h')) := by
          intro e1 h1 x hx hr a' w' f' r1 r2 r3
          cases hres : evRes e1 h1 rs with
          | none => rw [hres] at hr; simp at hr
          | some vs =>
            rw [hres] at hr
            simp only [Option.map_some, Option.some.injEq, Prod.mk.injEq] at hr
            obtain ⟨rfl, rfl⟩ := hr
            obtain ⟨v', k1, k2⟩ := sim_results r1 r2 hrs hres
            rcases hx with rfl | rfl
            · exact bodyPost_end k1 r1.2.1 ⟨f', v', rfl, k2, r2, r3⟩
            · exact bodyPost_ret k1 r1.2.1 ⟨f', v', rfl, k2, r2, r3⟩
        split at hv
        · rename_i e1 h1 hcode
          exact sim_code hc ht hm fuel b _ _ _ _ _ hcode _ _ _ _ he hw (hfin _ _ _ (.inl rfl) hv)
        · rename_i e1 h1 hcode
          exact sim_code hc ht hm fuel b _ _ _ _ _ hcode _ _ _ _ he hw (hfin _ _ _ (.inr rfl) hv)
        · simp at hv
  · simp at hf

/-- What is said of a function outright. -/
def PrimOK (P : Program) (F : FuncId) (p : List Value → AHeap → Option (Value × AHeap)) : Prop :=
  ∀ args h r h', p args h = some (r, h') → (∀ args w, (callFunc F args).run P w = .ok (.enter F args) w) ∧
    ∀ f w args', WR (Lt h.next) f h w → All2 (TR (Lt h.next) f) args args' → Calls P F ⟨args'⟩ w (RetR f h w r h')

structure AProgOK (P : Program) (ms : List String) (A : AProg) : Prop where
  mixed : P.follows .mixedOrders = true
  tbl : TblOK P ms A.tbl
  fn : ∀ F af, A.fn.get F = some af → ∃ fn, P.funcs[F]? = some fn ∧ cFunc P ms fn = some af
  prim : ∀ F p, A.prim F = some p → PrimOK P F p

/-- WHAT THE INTERPRETER TELLS OF A CALL IS WHAT EVERY RUN OF IT DOES. -/
theorem evCall_ok {A : AProg} (hA : AProgOK P ms A) : ∀ n, CallOK P (evCall A n) := by
  intro n
  induction n with
  | zero => intro F args h r h' hv; simp [evCall] at hv
  | succ n ih =>
    intro F args h r h' hv
    simp only [evCall] at hv
    split at hv
    · rename_i p hp
      exact hA.prim F p hp args h r h' hv
    · split at hv
      · rename_i af haf
        obtain ⟨fn, h1, h2⟩ := hA.fn F af haf
        split at hv
        · rename_i hlen
          exact sim_body ih hA.tbl hA.mixed h1 h2 hlen hv
        · simp at hv
      · simp at hv

end
end Go.Proofs.PantryEng

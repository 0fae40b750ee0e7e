/- The engine, part 17: slices of one's own, and what is appended to them. -/
import Derived.Test.YtgnmjfnkibbnkaaGreatDoorM7
set_option linter.unusedSimpArgs false
set_option linter.unusedVariables false
namespace Go.Proofs.PantryEng
open Go Go.RowKit

/-! ### are two heaps one? -/
mutual
def eqV : Value → Value → Bool
  | .bool a, .bool b => a == b
  | .int k a, .int j b => k == j && a == b
  | .complex k a c, .complex j b d => k == j && a == b && c == d
  | .pointer a, .pointer b => a == b
  | .slice a n c, .slice b m d => a == b && n == m && c == d
  | .map a, .map b => a == b
  | .nilIface, .nilIface => true
  | .nilFunc, .nilFunc => true
  | .iface t a, .iface u b => t == u && eqV a b
  | .agg ⟨a⟩, .agg ⟨b⟩ => eqVs a b
  | .tuple ⟨a⟩, .tuple ⟨b⟩ => eqVs a b
  | _, _ => false
def eqVs : List Value → List Value → Bool
  | [], [] => true
  | a :: as, b :: bs => eqV a b && eqVs as bs
  | _, _ => false
end

mutual
theorem eqV_eq : ∀ {u v : Value}, eqV u v = true → u = v := by
  intro u v h
  unfold eqV at h
  split at h
  case h_9 t a s b =>
    simp only [Bool.and_eq_true, beq_iff_eq] at h
    rw [h.1, eqV_eq h.2]
  case h_10 a b => rw [eqVs_eq h]
  case h_11 a b => rw [eqVs_eq h]
  all_goals simp_all
theorem eqVs_eq : ∀ {l m : List Value}, eqVs l m = true → l = m := by
  intro l m h
  unfold eqVs at h
  split at h
  · rfl
  · simp only [Bool.and_eq_true] at h
    rw [eqV_eq h.1, eqVs_eq h.2]
  · simp at h
end

/-- A block, but for the first one. -/
def eqO : AObj → AObj → Bool
  | .cells a, .cells b => eqVs a b
  | .ro a, .ro b => eqVs a b
  | _, _ => false
theorem eqO_eq {a b : AObj} (h : eqO a b = true) : a = b := by
  unfold eqO at h
  split at h
  · rw [eqVs_eq h]
  · rw [eqVs_eq h]
  · simp at h

def eqT : Tree AObj → Tree AObj → Bool
  | .nil, .nil => true
  | .node l v r, .node l' v' r' => (match v, v' with | some a, some b => eqO a b | none, none => true | _, _ => false) && eqT l l' && eqT r r'
  | _, _ => false
theorem eqT_eq : ∀ {t u : Tree AObj}, eqT t u = true → t = u := by
  intro t
  induction t with
  | nil => intro u h; cases u with | nil => rfl | node => simp [eqT] at h
  | node l v r ihl ihr =>
    intro u h
    cases u with
    | nil => simp [eqT] at h
    | node l' v' r' =>
      simp only [eqT, Bool.and_eq_true] at h
      obtain ⟨⟨h1, h2⟩, h3⟩ := h
      rw [ihl h2, ihr h3]
      split at h1
      · rw [eqO_eq h1]
      · rfl
      · simp at h1

/-- Does a heap hold what another does, in blocks 0 to n - 1? -/
def agreeGo (h k : AHeap) : Nat → Bool
  | 0 => true
  | n + 1 => (match h.get n, k.get n with | some a, some b => eqO a b | none, none => true | _, _ => false) && agreeGo h k n

theorem agreeGo_spec {h k : AHeap} : ∀ {n : Nat}, agreeGo h k n = true → ∀ b, b < n → h.get b = k.get b := by
  intro n
  induction n with
  | zero => intro _ b h1; omega
  | succ n ih =>
    intro h b h1
    simp only [agreeGo, Bool.and_eq_true] at h
    by_cases e : b = n
    · subst e
      have := h.1
      split at this
      · rename_i a b h3 h4; rw [h3, h4, eqO_eq this]
      · rename_i h3 h4; rw [h3, h4]
      · simp at this
    · exact ih h.2 b (by omega)

/-! ### an answer that names nothing new -/
section
variable {D D' : Dom} {f f' : Inj}
theorem SR.restrict {v v' v'' : Value} (h : SR D f v v') (h' : SR D' f' v v'') : SR D f' v v'' := by
  cases h with
  | ptr b o o' hb ho => cases h' with | ptr _ _ o2 hb2 ho2 => exact .ptr b o o2 hb ho2
  | slice0 => cases h' with | slice0 => exact .slice0
  | slice b o a' len c c' hb hc ho => cases h' with | slice _ _ a2 _ _ c2 hb2 hc2 ho2 => exact .slice b o a2 len c c2 hb hc2 ho2
  | map b hb => cases h' with | map _ hb2 => exact .map b hb
  | bool => cases h'; exact .bool _
  | int => cases h'; exact .int _ _
  | string => cases h'; exact .string _
  | ptr0 => cases h'; exact .ptr0
  | map0 => cases h'; exact .map0
  | nilFunc => cases h'; exact .nilFunc
  | nilIface => cases h'; exact .nilIface

theorem All2.restrict {R S T : Value → Value → Prop} (hR : ∀ a b c, R a b → S a c → T a c) : ∀ {l m n : List Value}, All2 R l m → All2 S l n → All2 T l n := by
  intro l
  induction l with
  | nil => intro m n h1 h2; cases h2; exact .nil
  | cons a l ih => intro m n h1 h2; cases h1 with | cons h3 h4 => cases h2 with | cons h5 h6 => exact .cons (hR _ _ _ h3 h5) (ih h4 h6)

theorem CR.restrict {v v' v'' : Value} (h : CR D f v v') (h' : CR D' f' v v'') : CR D f' v v'' := by
  cases h with
  | s h => cases h' with
    | s h' => exact .s (h.restrict h')
    | func => cases h
    | iface => cases h
    | tok => cases h
  | func g h1 h2 => cases h' with
    | s h' => cases h'
    | func _ h3 h4 => exact .func g (All2.restrict (R := SR D f) (S := SR D' f') (T := SR D f') (fun _ _ _ a b => SR.restrict a b) h1 h3) (All2.restrict (R := SR D f) (S := SR D' f') (T := SR D f') (fun _ _ _ a b => SR.restrict a b) h2 h4)
  | iface t h => cases h' with
    | s h' => cases h'
    | iface _ h' => exact .iface t (h.restrict h')
  | tok k n m => cases h' with
    | s h' => cases h'
    | tok => exact .tok k n m

theorem GR.restrict {v v' v'' : Value} (h : GR D f v v') (h' : GR D' f' v v'') : GR D f' v v'' := by
  cases h with
  | c h => cases h' with
    | c h' => exact .c (h.restrict h')
    | agg => cases h with | s h => cases h
  | agg h => cases h' with
    | c h' => cases h' with | s h' => cases h'
    | agg h' => exact .agg (All2.restrict (R := CR D f) (S := CR D' f') (T := CR D f') (fun _ _ _ a b => CR.restrict a b) h h')

theorem ObjR.restrict {w w' : World} {p : Spot} {o : AObj} (h : ObjR D f w p o) (h' : ObjR D' f' w' p o) : ObjR D f' w' p o := by
  cases o with
  | cells cs =>
    refine ⟨h'.1, h'.2.1, fun i v hv => ?_⟩
    obtain ⟨a, _, h1⟩ := h.2.2 i v hv
    obtain ⟨b, h2, h3⟩ := h'.2.2 i v hv
    exact ⟨b, h2, h1.restrict h3⟩
  | ro cs =>
    refine ⟨h'.1, fun i v hv => ?_, h'.2.2⟩
    obtain ⟨a, _, h1⟩ := h.2.1 i v hv
    obtain ⟨b, h2, h3⟩ := h'.2.1 i v hv
    exact ⟨b, h2, h1.restrict h3⟩
  | map es =>
    obtain ⟨e1, c1, _, h1, _⟩ := h
    obtain ⟨e2, c2, h2, h3, h4⟩ := h'
    refine ⟨e2, c2, h2, ?_, h4⟩
    have : ∀ {es : List (Int × Value)} {l m : List MapEntry}, All2 (EntR D f) es l → All2 (EntR D' f') es m → All2 (EntR D f') es m := by
      intro es
      induction es with
      | nil => intro l m h1 h2; cases h2; exact .nil
      | cons x es ih => intro l m h1 h2; cases h1 with | cons h3 h4 => cases h2 with | cons h5 h6 => exact .cons ⟨h5.1, h3.2.restrict h5.2⟩ (ih h4 h6)
    exact this h1 h3
end

/-- A value that names no block. -/
def bare : Value → Bool
  | .bool _ => true
  | .int _ _ => true
  | .nilIface => true
  | .pointer none => true
  | .slice none 0 0 => true
  | _ => false
def bareAgg : Value → Bool
  | .agg ⟨l⟩ => l.all bare
  | v => bare v
def bareV : Value → Bool
  | .tuple ⟨l⟩ => l.all bareAgg
  | v => bareAgg v

section
variable {D D' : Dom} {f : Inj}
theorem bare_SR {v v' : Value} (h : SR D f v v') (hb : bare v = true) : SR D' f v v' := by
  cases h <;> simp [bare] at hb
  · exact .bool _
  · exact .int _ _
  · exact .ptr0
  · exact .slice0
  · exact .nilIface
theorem bare_CR {v v' : Value} (h : CR D f v v') (hb : bare v = true) : CR D' f v v' := by
  cases h with
  | s h => exact .s (bare_SR h hb)
  | func => simp [bare] at hb
  | iface => simp [bare] at hb
  | tok => simp [bare] at hb
theorem bare_GR {v v' : Value} (h : GR D f v v') (hb : bareAgg v = true) : GR D' f v v' := by
  cases h with
  | c h =>
    have hb' : bare v = true := by
      cases v <;> first | exact hb | (simp [bareAgg, bare] at hb; done) | (cases h with | s h => cases h)
    exact .c (bare_CR h hb')
  | agg h =>
    have : ∀ {l m : List Value}, All2 (CR D f) l m → l.all bare = true → All2 (CR D' f) l m := by
      intro l
      induction l with
      | nil => intro m h1 _; cases h1; exact .nil
      | cons a l ih => intro m h1 h2; simp at h2; cases h1 with | cons h3 h4 => exact .cons (bare_CR h3 h2.1) (ih h4 (by simpa using h2.2))
    exact .agg (this h hb)
theorem bare_TR {v v' : Value} (h : TR D f v v') (hb : bareV v = true) : TR D' f v v' := by
  cases h with
  | g h =>
    have hb' : bareAgg v = true := by
      cases v <;> first | exact hb | (exact absurd h.notTup (by simp [isTup]))
    exact .g (bare_GR h hb')
  | tuple h =>
    have : ∀ {l m : List Value}, All2 (GR D f) l m → l.all bareAgg = true → All2 (GR D' f) l m := by
      intro l
      induction l with
      | nil => intro m h1 _; cases h1; exact .nil
      | cons a l ih => intro m h1 h2; simp at h2; cases h1 with | cons h3 h4 => exact .cons (bare_GR h3 h2.1) (ih h4 (by simpa using h2.2))
    exact .tuple (this h hb)
end

/-- A call was reckoned: its answer is r, which names no block, and what was there is as it was. -/
def memoB (h0 : AHeap) (r : Value) : Option (Value × AHeap) → Bool
  | some (v, h) => eqV v r && bareV v && agreeGo h h0 h0.next
  | none => false

/-- The same call again. -/
def memo (args0 : List Value) (h0 : AHeap) (r : Value) (args : List Value) (h : AHeap) : Option (Value × AHeap) :=
  if eqVs args args0 && Nat.beq h.next h0.next && eqT h.t h0.t then some (r, h) else none

theorem memo_ok {P : Program} {ms : List String} {A : AProg} (hA : AProgOK P ms A) {F : FuncId} {n : Nat} {args0 : List Value} {h0 : AHeap} {r : Value} (hev : memoB h0 r (evCall A n F args0 h0) = true) : PrimOK P F (memo args0 h0 r) := by
  intro args h r1 h1 hp
  unfold memo at hp
  split at hp
  · rename_i hc
    simp only [Option.some.injEq, Prod.mk.injEq] at hp
    obtain ⟨rfl, rfl⟩ := hp
    simp only [Bool.and_eq_true] at hc
    obtain ⟨⟨c1, c2⟩, c3⟩ := hc
    have e1 := eqVs_eq c1
    subst e1
    have e2 : h = h0 := by
      have h2 := Nat.eq_of_beq_eq_true c2
      have h3 := eqT_eq c3
      cases h; cases h0; simp_all
    subst e2
    unfold memoB at hev
    split at hev
    · rename_i v hb hv
      simp only [Bool.and_eq_true] at hev
      obtain ⟨⟨d1, d2⟩, d3⟩ := hev
      have e3 := eqV_eq d1
      subst e3
      have hag := agreeGo_spec d3
      obtain ⟨k1, k2⟩ := evCall_ok hA n F args h v hb hv
      refine ⟨k1, fun f w args' hw ha => (k2 f w args' hw ha).mono fun e w' hr => ?_⟩
      obtain ⟨f', r', rfl, q1, q2, q3⟩ := hr
      have hget : ∀ b o, h.get b = some o → hb.get b = some o := fun b o hbo => by rw [hag b (hw.dom b o hbo)]; exact hbo
      refine ⟨f', r', rfl, bare_TR q1 d2, ⟨hw.dom, fun b o hbo => ?_, fun b b' o o' hbo hbo' ho hne => q2.apart b b' o o' (hget b o hbo) (hget b' o' hbo') ho hne⟩, ⟨Nat.le_refl _, q3.inj, q3.size, q3.keep, fun b o hbo ho => q3.fresh b o (hget b o hbo) ho, fun b o hbo _ => hbo, q3.os, q3.tape, q3.output⟩⟩
      have o1 := hw.obj b o hbo
      have o2 := q2.obj b o (hget b o hbo)
      rw [q3.inj b (hw.dom b o hbo)] at o2 ⊢
      exact o1.restrict o2
    · simp at hev
  · simp at hp

end Go.Proofs.PantryEng
namespace Go.Proofs.PantryEng
open Go

def Tree.All {α : Type} (Q : Nat → α → Prop) : Tree α → (Nat → Nat) → Prop
  | .nil, _ => True
  | .node l v r, p => Tree.All Q l (fun j => p (2 * j + 1)) ∧ (match v with | some x => Q (p 0) x | none => True) ∧ Tree.All Q r (fun j => p (2 * j + 2))

theorem Tree.all_get {α : Type} {Q : Nat → α → Prop} : ∀ {t : Tree α} {p : Nat → Nat} {k : Nat} {x : α}, Tree.All Q t p → t.get k = some x → Q (p k) x := by
  intro t
  induction t with
  | nil => intro p k x _ h; simp [Tree.get] at h
  | node l v r ihl ihr =>
    intro p k x ha h
    obtain ⟨h1, h2, h3⟩ := ha
    simp only [Tree.get] at h
    rcases Nat.eq_zero_or_pos k with rfl | hk
    · have : v = some x := h
      subst this
      exact h2
    · have h0 : Nat.beq k 0 = false := by cases k with | zero => omega | succ k => rfl
      rw [h0] at h
      simp only [cond_false] at h
      by_cases ho : k % 2 = 1
      · have hb : Nat.beq (k % 2) 1 = true := by rw [ho]; rfl
        rw [hb] at h
        have := ihl h1 h
        have e : 2 * (k / 2) + 1 = k := by omega
        simp only [e] at this
        exact this
      · have hb : Nat.beq (k % 2) 1 = false := by
          have : k % 2 = 0 := by omega
          rw [this]; rfl
        rw [hb] at h
        have := ihr h3 h
        have e : 2 * (k / 2 - 1) + 2 = k := by omega
        simp only [e] at this
        exact this

def FnOK (P : Program) (ms : List String) (F : Nat) (af : AFunc) : Prop := ∃ fn, P.funcs[F]? = some fn ∧ cFunc P ms fn = some af

def TblG (P : Program) : List String → List (List (TypeId × FuncId)) → Prop
  | name :: ns, es :: rest => (∀ p ∈ es, ∀ v w, (method (P.types.size + Made.depth) p.1 v name).run P w = .ok (p.2, v) w) ∧ TblG P ns rest
  | _, _ => True

theorem lookup_mem {t : TypeId} {F : FuncId} : ∀ {l : List (TypeId × FuncId)}, l.lookup t = some F → (t, F) ∈ l := by
  intro l
  induction l with
  | nil => intro h; simp at h
  | cons p l ih =>
    obtain ⟨a, b⟩ := p
    intro h
    rw [List.lookup_cons] at h
    split at h
    · rename_i e
      have : t = a := by simpa using e
      subst this
      simp at h
      subst h
      simp
    · exact List.mem_cons_of_mem _ (ih h)

theorem TblG.ok {P : Program} : ∀ {ms : List String} {tbl : List (List (TypeId × FuncId))}, TblG P ms tbl → TblOK P ms tbl := by
  intro ms
  induction ms with
  | nil => intro tbl _ m name h; simp at h
  | cons n ns ih =>
    intro tbl hg m name h t F hF v w
    cases tbl with
    | nil => simp at hF
    | cons es rest =>
      obtain ⟨h1, h2⟩ := hg
      rw [List.idxOf?_cons] at h
      split at h
      · rename_i e
        have : n = name := by simpa using e
        subst this
        injection h with h
        subst h
        exact h1 (t, F) (lookup_mem (by simpa using hF)) v w
      · cases hi : ns.idxOf? name with
        | none => rw [hi] at h; simp at h
        | some j =>
          rw [hi] at h
          simp at h
          subst h
          exact ih h2 j name hi t F (by simpa using hF) v w

end Go.Proofs.PantryEng
namespace Go.Proofs.PantryEng
open Go

section
variable {A : AProg} {e : Env} {h : AHeap} {K : Env → AHeap → Prop}

theorem at_put_same (e : Env) (d : Nat) (v : Value) : (e.put (some d) v).at d = v := by rw [Env.at_put, if_pos rfl]
theorem at_put_ne (e : Env) {d t : Nat} (v : Value) (h : Nat.beq d t = false) : (e.put (some d) v).at t = e.at t := by
  rw [Env.at_put, if_neg]
  intro h'
  injection h' with h'
  subst h'
  simp at h
theorem at_put (e : Env) (d t : Nat) (v : Value) : (e.put (some d) v).at t = if d = t then v else e.at t := by
  rw [Env.at_put]; simp
theorem put_none (e : Env) (v : Value) : e.put none v = e := rfl

theorem yielded_at {e : Env} {t : Nat} {b : Bool} (h : e.at t = .bool b) : yieldedA e t = some b := by
  unfold Env.at at h
  unfold yieldedA
  cases hg : e.get t with
  | none => rw [hg] at h; simp [noValue] at h
  | some v => rw [hg] at h; simp at h; subst h; rfl

theorem wpO_p {d : Option Nat} {q : POp} {v : Value} {l : List AOper} (hq : evP e h q = some v) (hk : wpO A l (e.put d v) h K) : wpO A (⟨d, .p q, none⟩ :: l) e h K :=
  wpO_cons rfl (wpP_p hq hk)
theorem wpO_l {d : Option Nat} {q : LOp} {ob : AObj} {mk : Nat → Value} {l : List AOper} (hq : evL e q = some (ob, mk)) (hk : wpO A l (e.put d (mk h.next)) (h.new ob) K) : wpO A (⟨d, .l q, none⟩ :: l) e h K :=
  wpO_cons rfl (wpP_l hq hk)
theorem wpO_e {d : Option Nat} {q : EOp} {v : Value} {h' : AHeap} {l : List AOper} (hq : evE A.tbl (evCall A 0) e h q = some (v, h')) (hk : wpO A l (e.put d v) h' K) : wpO A (⟨d, .e q, none⟩ :: l) e h K :=
  wpO_cons rfl (wpP_e hq hk)
theorem wpO_g {d : Option Nat} {op : AOp} {t : Nat} {b c : Bool} {l : List AOper} (ht : e.at t = .bool c) (h1 : c = b → wpO A (⟨d, op, none⟩ :: l) e h K) (h2 : c = (!b) → wpO A l (e.put d noValue) h K) : wpO A (⟨d, op, some (t, b)⟩ :: l) e h K := by
  by_cases hc : c = b
  · obtain ⟨n, e', h', k1, k2⟩ := h1 hc
    refine ⟨n, e', h', ?_, k2⟩
    have hw : wantedA ⟨d, op, some (t, b)⟩ e = true := by simp only [wantedA, yielded_at ht]; simpa using hc
    have hw' : wantedA ⟨d, op, none⟩ e = true := rfl
    simp only [evOps, hw, hw', cond_true] at k1 ⊢
    exact k1
  · refine wpO_skip ?_ (h2 (by cases c <;> cases b <;> simp_all))
    simp only [wantedA, yielded_at ht]; simpa using hc
end
end Go.Proofs.PantryEng
namespace Go.Proofs.PantryEng
open Go

/-! ### heaps -/
/-- No block from 'next' on. -/
def Fine (h : AHeap) : Prop := ∀ b o, h.get b = some o → b < h.next
/-- What was there is as it was. -/
structure Grows (h h' : AHeap) : Prop where
  next : h.next ≤ h'.next
  old : ∀ b, b < h.next → h'.get b = h.get b
  fine : Fine h → Fine h'

theorem Grows.refl (h : AHeap) : Grows h h := ⟨Nat.le_refl _, fun _ _ => rfl, fun f => f⟩
theorem Grows.trans {a b c : AHeap} (x : Grows a b) (y : Grows b c) : Grows a c :=
  ⟨Nat.le_trans x.next y.next, fun k hk => (y.old k (Nat.lt_of_lt_of_le hk x.next)).trans (x.old k hk), fun f => y.fine (x.fine f)⟩
theorem Grows.new (h : AHeap) (o : AObj) : Grows h (h.new o) :=
  ⟨Nat.le_succ _, fun b hb => by rw [AHeap.get_new, if_neg (by omega)], fun f b o' hb => by
    rw [AHeap.get_new] at hb
    split at hb
    · rename_i e; subst e; exact Nat.lt_succ_self _
    · exact Nat.lt_succ_of_lt (f b o' hb)⟩

theorem new_next (h : AHeap) (o : AObj) : (h.new o).next = h.next + 1 := rfl
theorem set_next (h : AHeap) (b : Nat) (o : AObj) : (h.set b o).next = h.next := rfl
theorem del_next (h : AHeap) (b : Nat) : (h.del b).next = h.next := rfl
theorem get_new_same (h : AHeap) (o : AObj) : (h.new o).get h.next = some o := by rw [AHeap.get_new, if_pos rfl]
theorem get_new_ne (h : AHeap) (o : AObj) {b : Nat} (hb : b < h.next) : (h.new o).get b = h.get b := by rw [AHeap.get_new, if_neg (by omega)]
theorem get_set_same (h : AHeap) (o : AObj) (b : Nat) : (h.set b o).get b = some o := by rw [AHeap.get_set, if_pos rfl]
theorem get_set_ne (h : AHeap) (o : AObj) {b j : Nat} (hb : b ≠ j) : (h.set b o).get j = h.get j := by rw [AHeap.get_set, if_neg hb]

/-- As before, but for some blocks, and what is new. -/
structure But (S : Nat → Prop) (h h' : AHeap) : Prop where
  next : h.next ≤ h'.next
  old : ∀ b, b < h.next → ¬ S b → h'.get b = h.get b
  fine : Fine h → Fine h'

theorem But.refl (S : Nat → Prop) (h : AHeap) : But S h h := ⟨Nat.le_refl _, fun _ _ _ => rfl, fun f => f⟩
theorem But.trans {S : Nat → Prop} {a b c : AHeap} (x : But S a b) (y : But S b c) : But S a c :=
  ⟨Nat.le_trans x.next y.next, fun k hk hs => (y.old k (Nat.lt_of_lt_of_le hk x.next) hs).trans (x.old k hk hs), fun f => y.fine (x.fine f)⟩
theorem Grows.but {h h' : AHeap} (x : Grows h h') (S : Nat → Prop) : But S h h' := ⟨x.next, fun b hb _ => x.old b hb, x.fine⟩
theorem But.mono {S T : Nat → Prop} {h h' : AHeap} (x : But S h h') (hST : ∀ b, b < h.next → S b → T b) : But T h h' := ⟨x.next, fun b hb hs => x.old b hb fun h => hs (hST b hb h), x.fine⟩
theorem But.grows {S : Nat → Prop} {h h' : AHeap} (x : But S h h') (hS : ∀ b, S b → h.next ≤ b) : Grows h h' := ⟨x.next, fun b hb => x.old b hb fun h => by have := hS b h; omega, x.fine⟩
theorem But.set {S : Nat → Prop} {h : AHeap} {b : Nat} {o o' : AObj} (hb : h.get b = some o') (hS : S b) : But S h (h.set b o) :=
  ⟨Nat.le_refl _, fun j _ hj => by rw [AHeap.get_set, if_neg (fun (e : b = j) => hj (e ▸ hS))], fun f j o2 hj => by
    rw [AHeap.get_set] at hj
    split at hj
    · rename_i e; subst e; exact f _ _ hb
    · exact f _ _ hj⟩
theorem But.del {S : Nat → Prop} {h : AHeap} {b : Nat} (hS : S b) : But S h (h.del b) :=
  ⟨Nat.le_refl _, fun j _ hj => by rw [AHeap.get_del, if_neg (fun (e : b = j) => hj (e ▸ hS))], fun f j o2 hj => by
    rw [AHeap.get_del] at hj
    split at hj
    · simp at hj
    · exact f _ _ hj⟩

theorem cell_of_get {h h' : AHeap} {b : Nat} (hg : h'.get b = h.get b) (o : Nat) : h'.cell b o = h.cell b o := by simp only [AHeap.cell, AHeap.cells?, hg]
theorem cells?_of_get {h h' : AHeap} {b : Nat} (hg : h'.get b = h.get b) : h'.cells? b = h.cells? b := by simp only [AHeap.cells?, hg]
theorem cell_lt {h : AHeap} (hf : Fine h) {b o : Nat} {v : Value} (hc : h.cell b o = some v) : b < h.next := by
  unfold AHeap.cell AHeap.cells? at hc
  cases hg : h.get b with
  | none => rw [hg] at hc; simp at hc
  | some x => exact hf b x hg

/-! ### numbers -/
theorem wr_small {n : Int} (h0 : 0 ≤ n) (h1 : n ≤ 9223372036854775807) : wr .i64 n = n := by
  obtain ⟨m, rfl⟩ := Int.eq_ofNat_of_zero_le h0
  have hm : Nat.ble m 9223372036854775807 = true := by rw [Nat.ble_eq]; omega
  show (bif Nat.ble m 9223372036854775807 then _ else _) = _
  rw [hm]; rfl

/-- A slice that shows numbers. -/
def Sees (h : AHeap) (k : IntKind) (size : Nat) (zs : List Int) (v : Value) : Prop :=
  ∃ a n c, v = .slice a n c ∧ zs.length = n * size ∧ ∀ (i : Nat) z, zs[i]? = some z → ∃ b o, a = some ⟨b, o, none⟩ ∧ h.cell b (o + i) = some (.int k z)

theorem Sees.but {S : Nat → Prop} {h h' : AHeap} {k : IntKind} {size : Nat} {zs : List Int} {v : Value} (hs : Sees h k size zs v) (hb : But S h h') (hf : Fine h) (hS : ∀ b o n c, v = .slice (some ⟨b, o, none⟩) n c → S b → zs = []) : Sees h' k size zs v := by
  obtain ⟨a, n, c, rfl, h1, h2⟩ := hs
  refine ⟨a, n, c, rfl, h1, fun i z hz => ?_⟩
  obtain ⟨b, o, rfl, h3⟩ := h2 i z hz
  refine ⟨b, o, rfl, ?_⟩
  rw [cell_of_get (hb.old b (cell_lt hf h3) fun hs => ?_)]
  · exact h3
  · have := hS b o n c rfl hs
    rw [this] at hz
    simp at hz

theorem Sees.grows {h h' : AHeap} {k : IntKind} {size : Nat} {zs : List Int} {v : Value} (hs : Sees h k size zs v) (hb : Grows h h') (hf : Fine h) : Sees h' k size zs v :=
  hs.but (hb.but fun _ => False) hf fun _ _ _ _ _ h => h.elim

theorem Shows.sees {h : AHeap} {k : IntKind} {size : Nat} {zs : List Int} {v : Value} (hs : Shows h k size zs v) : Sees h k size zs v := by
  rcases hs with ⟨rfl, rfl⟩ | ⟨rfl, rfl⟩ | ⟨b, len, rfl, _, hg, hl, _⟩
  · exact ⟨none, 0, 0, rfl, by simp, by simp⟩
  · exact ⟨_, 0, 1, rfl, by simp, by simp⟩
  · refine ⟨_, len, 1, rfl, hl, fun i z hz => ⟨b, 0, rfl, ?_⟩⟩
    simp [AHeap.cell, AHeap.cells?, hg, ints, hz]

/-- Reading one. -/
theorem Sees.cell {h : AHeap} {k : IntKind} {zs : List Int} {a : Option Addr} {n c : Nat} (hs : Sees h k 1 zs (.slice a n c)) {i : Nat} (hi : i < n) : ∃ b o z, a = some ⟨b, o, none⟩ ∧ zs[i]? = some z ∧ h.cell b (o + i) = some (.int k z) := by
  obtain ⟨a', n', c', e, h1, h2⟩ := hs
  injection e with e1 e2 e3
  subst e1; subst e2; subst e3
  have hz := List.getElem?_eq_getElem (l := zs) (i := i) (by omega)
  obtain ⟨b, o, h3, h4⟩ := h2 i _ hz
  exact ⟨b, o, _, h3, hz, h4⟩

theorem Sees.len {h : AHeap} {k : IntKind} {size : Nat} {zs : List Int} {a : Option Addr} {n c : Nat} (hs : Sees h k size zs (.slice a n c)) : zs.length = n * size := by
  obtain ⟨_, _, _, e, h1, _⟩ := hs
  injection e with _ e2 _
  subst e2
  exact h1

/-! ### loops, round by round -/
theorem wpC_loop1 {A : AProg} {e : Env} {h : AHeap} {Q : AExit → Env → AHeap → Prop} {b : ACode} (hb : wpC A b e h (loopQ (fun e h => wpC A (.loop b) e h Q) Q)) : wpC A (.loop b) e h Q := by
  obtain ⟨n, x, e1, h1, k1, k2⟩ := hb
  cases x with
  | normal =>
    obtain ⟨m, y, e2, h2, k3, k4⟩ := k2
    refine ⟨max n m + 1, y, e2, h2, ?_, k4⟩
    simp only [evCode] at k3 ⊢
    have hn := evCode_mono (evCall_mono (A := A) (show n ≤ max n m + 1 by omega)) (show n ≤ max n m + 1 by omega) k1
    simp only [loopN, hn]
    exact loopN_mono (fun e h r hr => evCode_mono (evCall_mono (by omega)) (by omega) hr) (by omega) k3
  | exit i => exact ⟨n + 1, .exit i, e1, h1, by simp only [evCode, loopN, evCode_mono (evCall_mono (A := A) (Nat.le_succ n)) (Nat.le_succ n) k1], k2⟩
  | ret => exact ⟨n + 1, .ret, e1, h1, by simp only [evCode, loopN, evCode_mono (evCall_mono (A := A) (Nat.le_succ n)) (Nat.le_succ n) k1], k2⟩
end Go.Proofs.PantryEng
namespace Go.Proofs.PantryEng
open Go

/-- A slice of one's own: nil, or the whole of a block of its own. -/
def Own (h : AHeap) (size : Nat) (cs : List Value) (v : Value) : Prop :=
  (v = .slice none 0 0 ∧ cs = []) ∨ ∃ b n, v = .slice (some ⟨b, 0, none⟩) n (size + 1) ∧ h.get b = some (.cells cs) ∧ cs.length = n * size ∧ 0 < n

/-- The block that a slice lies in. -/
def inB (v : Value) (b : Nat) : Prop := ∃ o n c, v = .slice (some ⟨b, o, none⟩) n c

theorem Own.nil (h : AHeap) (size : Nat) : Own h size [] (.slice none 0 0) := .inl ⟨rfl, rfl⟩

theorem Own.but {S : Nat → Prop} {h h' : AHeap} {size : Nat} {cs : List Value} {v : Value} (ho : Own h size cs v) (hb : But S h h') (hf : Fine h) (hS : ∀ b, inB v b → ¬ S b) : Own h' size cs v := by
  rcases ho with h1 | ⟨b, n, rfl, h2, h3⟩
  · exact .inl h1
  · exact .inr ⟨b, n, rfl, by rw [hb.old b (hf b _ h2) (hS b ⟨_, _, _, rfl⟩)]; exact h2, h3⟩

theorem Own.grows {h h' : AHeap} {size : Nat} {cs : List Value} {v : Value} (ho : Own h size cs v) (hb : Grows h h') (hf : Fine h) : Own h' size cs v :=
  ho.but (hb.but fun _ => False) hf fun _ _ h => h

theorem Own.lt {h : AHeap} {size : Nat} {cs : List Value} {v : Value} (ho : Own h size cs v) (hf : Fine h) {b : Nat} (hb : inB v b) : b < h.next := by
  obtain ⟨o, n, c, rfl⟩ := hb
  rcases ho with ⟨h1, _⟩ | ⟨b', n', h1, h2, _⟩
  · simp at h1
  · injection h1 with h1; injection h1 with h1; injection h1 with h1; subst h1; exact hf _ _ h2

theorem takeN_self {n : Nat} {l : List Value} (h : l.length = n) : takeN n l = some l := by
  unfold takeN
  rw [List.take_of_length_le (by omega), if_pos h]

/-- One more. -/
theorem own_append {h : AHeap} (hf : Fine h) {size bytes : Nat} {cs new : List Value} {s : Value} {b2 c2 : Nat} {m : Nat} (hs : Own h size cs s) (h0 : 0 < size) (hnew : h.get b2 = some (.cells new)) (hl : new.length = m * size) (hm : 0 < m)
    (hbd : ∀ a n c, s = .slice a n c → (n + m) * bytes ≤ 1099511627776 ∧ n + m ≤ 1099511627776) (hne : ¬ inB s b2) :
    ∃ v h', appendV h size bytes s (.slice (some ⟨b2, 0, none⟩) m c2) = some (v, h') ∧ Own h' size (cs ++ new) v ∧ inB v h.next ∧ But (inB s) h h' ∧ h'.next = h.next + 1 ∧ ∀ b, inB v b → b = h.next := by
  have hfirst : firstOf h size m (.slice (some ⟨b2, 0, none⟩) m c2) = some new := by
    simp only [firstOf]
    rw [if_neg (by omega)]
    have : h.cells? b2 = some new := by simp [AHeap.cells?, hnew]
    simp only [AHeap.cellsAt, this, Option.bind_some, List.drop_zero]
    exact takeN_self hl
  rcases hs with ⟨rfl, rfl⟩ | ⟨b, n, rfl, hg, hlen, hn⟩
  · have := hbd _ _ _ rfl
    refine ⟨.slice (some ⟨h.next, 0, none⟩) m (size + 1), h.new (.cells new), ?_, .inr ⟨h.next, m, rfl, get_new_same _ _, by simpa using hl, hm⟩, ⟨_, _, _, rfl⟩, (Grows.new _ _).but _, rfl, fun b hb => by obtain ⟨_, _, _, hb⟩ := hb; injection hb with hb; injection hb with hb; injection hb with hb; exact hb.symm⟩
    simp only [appendV, hfirst]
    rw [if_neg (by omega), if_pos this]
    simp only [if_true, Nat.zero_add]
  · have := hbd _ _ _ rfl
    refine ⟨.slice (some ⟨h.next, 0, none⟩) (n + m) (size + 1), (h.del b).new (.cells (cs ++ new)), ?_, .inr ⟨h.next, n + m, rfl, ?_, by rw [List.length_append, hlen, hl, Nat.add_mul], by omega⟩, ⟨_, _, _, rfl⟩, ?_, rfl, fun b hb => by obtain ⟨_, _, _, hb⟩ := hb; injection hb with hb; injection hb with hb; injection hb with hb; exact hb.symm⟩
    · simp only [appendV, hfirst]
      rw [if_neg (by omega), if_pos this, if_neg (by omega)]
      simp only [and_self, if_true, hg]
      rw [if_pos (by omega), List.take_of_length_le (by omega)]
    · have := get_new_same (h.del b) (.cells (cs ++ new)); exact this
    · exact (But.del (S := inB _) ⟨_, _, _, rfl⟩).trans ((Grows.new _ _).but _)

theorem Grows.thenBut {S : Nat → Prop} {a b c : AHeap} (x : Grows a b) (y : But S b c) (hS : ∀ k, S k → a.next ≤ k) : Grows a c :=
  ⟨Nat.le_trans x.next y.next, fun k hk => (y.old k (Nat.lt_of_lt_of_le hk x.next) fun h => by have := hS k h; omega).trans (x.old k hk), fun f => y.fine (x.fine f)⟩

theorem blockQ_exit {id : Nat} {Q : AExit → Env → AHeap → Prop} {e : Env} {h : AHeap} (hq : Q .normal e h) : blockQ id Q (.exit id) e h := by
  simp only [blockQ, if_true]; exact hq

theorem seqQ_exit {A : AProg} {b : ACode} {i : Nat} {Q : AExit → Env → AHeap → Prop} {e : Env} {h : AHeap} (hq : Q (.exit i) e h) : seqQ A b Q (.exit i) e h := hq
theorem loopQ_exit {K : Env → AHeap → Prop} {i : Nat} {Q : AExit → Env → AHeap → Prop} {e : Env} {h : AHeap} (hq : Q (.exit i) e h) : loopQ K Q (.exit i) e h := hq
/-- Out of a loop. -/
theorem wpC_out {A : AProg} {b : ACode} {K : Env → AHeap → Prop} {i : Nat} {Q : AExit → Env → AHeap → Prop} {e : Env} {h : AHeap} (hq : Q .normal e h) : wpC A (.exit i) e h (seqQ A b (loopQ K (blockQ i Q))) := wpC_exit (seqQ_exit (loopQ_exit (blockQ_exit hq)))

/-- The end of a region: the slots and the heap by a name. -/
theorem wpO_nilg {A : AProg} {e : Env} {h : AHeap} {K : Env → AHeap → Prop} (hk : ∀ e' h', e' = e → h' = h → K e' h') : wpO A [] e h K := wpO_nil (hk e h rfl rfl)
end Go.Proofs.PantryEng

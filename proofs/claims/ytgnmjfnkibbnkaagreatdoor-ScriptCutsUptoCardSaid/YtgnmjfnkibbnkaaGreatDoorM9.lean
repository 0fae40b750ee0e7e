/- The engine, part 19: code as a proposition. -/
import Derived.Test.YtgnmjfnkibbnkaaGreatDoorM8
set_option linter.unusedSimpArgs false
set_option linter.unusedVariables false
namespace Go.Proofs.PantryEng
open Go

/-! ### slots, as bits -/
def usesOpd : Opd → Nat
  | .tmp t => 1 <<< t
  | .lit _ => 0
def usesL : List Opd → Nat
  | [] => 0
  | x :: l => usesOpd x ||| usesL l
def usesG : Option (Nat × Bool) → Nat
  | none => 0
  | some (t, _) => 1 <<< t
def usesO (o : AOper) : Nat := usesL o.op.opds ||| usesG o.guard
def rmD : Option Nat → Nat → Nat
  | none, s => s
  | some d, s => bif s.testBit d then s ^^^ (1 <<< d) else s
def liveOps : List AOper → Nat → Nat
  | [], s => s
  | o :: l, s => usesO o ||| rmD o.dst (liveOps l s)
/-- The slots that are asked for ahead of code: N: behind it, S: behind its other ways out. -/
def live : ACode → Nat → Nat → Nat
  | .skip, N, _ => N
  | .region ops, N, _ => liveOps ops N
  | .draw ops, N, _ => liveOps (ops.map (·.1)) N
  | .seq a b, N, S => live a (live b N S) S
  | .cond c a b, N, S => usesOpd c ||| live a N S ||| live b N S
  | .block _ b, N, S => live b N (S ||| N)
  | .loop b, _, S => live b 0 S
  | .exit _, _, S => S
  | .ret, _, S => S
  | .bad, _, _ => 0
def defD : Option Nat → Nat
  | none => 0
  | some d => 1 <<< d
def defsOps : List AOper → Nat
  | [] => 0
  | o :: l => defD o.dst ||| defsOps l
/-- The slots that code may fill. -/
def defs : ACode → Nat
  | .region ops => defsOps ops
  | .draw ops => defsOps (ops.map (·.1))
  | .seq a b => defs a ||| defs b
  | .cond _ a b => defs a ||| defs b
  | .block _ b => defs b
  | .loop b => defs b
  | _ => 0

theorem bit_self (t : Nat) : (1 <<< t).testBit t = true := by rw [Nat.one_shiftLeft, Nat.testBit_two_pow_self]
theorem bit_ne {t d : Nat} (h : d ≠ t) : (1 <<< d).testBit t = false := by rw [Nat.one_shiftLeft, Nat.testBit_two_pow]; simp [h]

def Agree (s : Nat) (e e' : Env) : Prop := ∀ t, s.testBit t = true → e.at t = e'.at t
theorem Agree.l {a b : Nat} {e e' : Env} (h : Agree (a ||| b) e e') : Agree a e e' := fun t ht => h t (by rw [Nat.testBit_or, ht]; rfl)
theorem Agree.r {a b : Nat} {e e' : Env} (h : Agree (a ||| b) e e') : Agree b e e' := fun t ht => h t (by rw [Nat.testBit_or, ht]; simp)
theorem Agree.sub {a b : Nat} {e e' : Env} (h : Agree b e e') (hs : ∀ t, a.testBit t = true → b.testBit t = true) : Agree a e e' := fun t ht => h t (hs t ht)
theorem Agree.refl (s : Nat) (e : Env) : Agree s e e := fun _ _ => rfl
theorem Agree.symm {s : Nat} {e e' : Env} (h : Agree s e e') : Agree s e' e := fun t ht => (h t ht).symm
theorem testBit_rmD {d : Nat} {s t : Nat} (h : d ≠ t) : (rmD (some d) s).testBit t = s.testBit t := by
  simp only [rmD]
  cases s.testBit d with
  | true => simp only [cond_true, Nat.testBit_xor, bit_ne h, Bool.xor_false]
  | false => simp only [cond_false]
theorem rmD_sub {d : Option Nat} {s t : Nat} (h : (rmD d s).testBit t = true) : s.testBit t = true := by
  cases d with
  | none => exact h
  | some d =>
    by_cases hd : d = t
    · subst hd
      simp only [rmD] at h
      cases hs : s.testBit d with
      | true => rfl
      | false => rw [hs] at h; simp only [cond_false] at h; rw [hs] at h; exact h
    · rwa [testBit_rmD hd] at h
theorem Agree.put {d : Option Nat} {s : Nat} {e e' : Env} (v : Value) (h : Agree (rmD d s) e e') : Agree s (e.put d v) (e'.put d v) := by
  intro t ht
  rw [Env.at_put, Env.at_put]
  split
  · rfl
  · rename_i hd
    refine h t ?_
    cases d with
    | none => exact ht
    | some d => rw [testBit_rmD (fun e => hd (by rw [e]))]; exact ht

theorem agree_opds {l : List Opd} {e e' : Env} (h : Agree (usesL l) e e') : ∀ y ∈ l, y.ev e = y.ev e' := by
  induction l with
  | nil => intro y hy; simp at hy
  | cons x l ih =>
    intro y hy
    simp only [usesL] at h
    rcases List.mem_cons.1 hy with rfl | hy
    · cases y with
      | tmp t => exact h.l t (bit_self t)
      | lit v => rfl
    · exact ih h.r y hy

theorem yieldedA_eq (e : Env) (t : Nat) : yieldedA e t = match e.at t with | .bool b => some b | _ => none := by
  unfold yieldedA Env.at
  cases e.get t with
  | none => rfl
  | some v => cases v <;> rfl

theorem wantedA_agree {o : AOper} {e e' : Env} (h : Agree (usesO o) e e') : wantedA o e = wantedA o e' := by
  unfold wantedA
  obtain ⟨d, op, g⟩ := o
  cases g with
  | none => rfl
  | some p =>
    obtain ⟨t, b⟩ := p
    have : e.at t = e'.at t := h.r t (bit_self t)
    simp only [yieldedA_eq, this]

section
variable {tbl : List (List (TypeId × FuncId))} {call : CallF}
theorem evOp_agree {o : AOper} {e e' : Env} {h : AHeap} (ha : Agree (usesO o) e e') : evOp tbl call e h o.op = evOp tbl call e' h o.op := by
  have hy := agree_opds ha.l
  obtain ⟨d, op, g⟩ := o
  cases op with
  | p q => simp only [evOp, evP_congr hy]
  | l q => simp only [evOp, evL_congr hy]
  | e q => simp only [evOp, evE_congr hy]

theorem evOps_agree : ∀ {l : List AOper} {s : Nat} {e e' e1 : Env} {h h1 : AHeap}, Agree (liveOps l s) e e' → evOps tbl call l e h = some (e1, h1) → ∃ e2, evOps tbl call l e' h = some (e2, h1) ∧ Agree s e1 e2 := by
  intro l
  induction l with
  | nil => intro s e e' e1 h h1 ha hr; simp only [evOps, Option.some.injEq, Prod.mk.injEq] at hr; obtain ⟨rfl, rfl⟩ := hr; exact ⟨e', rfl, ha⟩
  | cons o l ih =>
    intro s e e' e1 h h1 ha hr
    simp only [liveOps] at ha
    simp only [evOps, ← wantedA_agree ha.l] at hr ⊢
    cases hw : wantedA o e with
    | true =>
      rw [hw] at hr
      simp only [cond_true] at hr ⊢
      rw [← evOp_agree ha.l]
      cases ho : evOp tbl call e h o.op with
      | none => rw [ho] at hr; simp at hr
      | some x => rw [ho] at hr; exact ih (ha.r.put _) hr
    | false =>
      rw [hw] at hr
      simp only [cond_false] at hr ⊢
      exact ih (ha.r.put _) hr

theorem steady_agree {o : AOper} {e e' : Env} {v : Value} {snaps : List AHeap} {back : List Nat} (ha : Agree (usesO o) e e') : steady e o v snaps back = steady e' o v snaps back := by
  have hy := agree_opds ha.l
  obtain ⟨d, op, g⟩ := o
  cases op with
  | p q =>
    have : ∀ h, evP e h q = evP e' h q := fun h => evP_congr hy
    cases back with
    | nil => rfl
    | cons j js => simp only [steady, this]
  | l q => cases back <;> rfl
  | e q => cases back <;> rfl

theorem evDraw_agree : ∀ {l : List (AOper × List Nat)} {s : Nat} {e e' e1 : Env} {h h1 : AHeap} {sn : List AHeap}, Agree (liveOps (l.map (·.1)) s) e e' → evDraw tbl call l e h sn = some (e1, h1) → ∃ e2, evDraw tbl call l e' h sn = some (e2, h1) ∧ Agree s e1 e2 := by
  intro l
  induction l with
  | nil => intro s e e' e1 h h1 sn ha hr; simp only [evDraw, Option.some.injEq, Prod.mk.injEq] at hr; obtain ⟨rfl, rfl⟩ := hr; exact ⟨e', rfl, ha⟩
  | cons p l ih =>
    obtain ⟨o, back⟩ := p
    intro s e e' e1 h h1 sn ha hr
    simp only [List.map_cons, liveOps] at ha
    have hst : evStep tbl call o e' h = evStep tbl call o e h := by simp only [evStep, ← wantedA_agree ha.l, ← evOp_agree ha.l]
    simp only [evDraw, hst, ← steady_agree ha.l, ← wantedA_agree ha.l] at hr ⊢
    cases ho : evStep tbl call o e h with
    | none => rw [ho] at hr; simp at hr
    | some x =>
      obtain ⟨v, h2⟩ := x
      rw [ho] at hr
      simp only at hr ⊢
      cases hb : (Nat.ble h.next h2.next && steady e o v sn (bif wantedA o e then back else [])) with
      | false => rw [hb] at hr; simp at hr
      | true => rw [hb] at hr; simp only [cond_true] at hr ⊢; exact ih (ha.r.put _) hr

theorem liveOps_le : ∀ {l : List AOper} {N X Y : Nat}, (∀ t, N.testBit t = true → X.testBit t = true ∨ Y.testBit t = true) → ∀ t, (liveOps l N).testBit t = true → (liveOps l X).testBit t = true ∨ Y.testBit t = true := by
  intro l
  induction l with
  | nil => intro N X Y h; exact h
  | cons o l ih =>
    intro N X Y h t ht
    simp only [liveOps, Nat.testBit_or, Bool.or_eq_true] at ht ⊢
    rcases ht with ht | ht
    · exact .inl (.inl ht)
    · rcases ih h t (rmD_sub ht) with h1 | h1
      · by_cases hd : o.dst = some t
        · rw [hd] at ht
          exfalso
          simp only [rmD] at ht
          cases hs : (liveOps l N).testBit t with
          | true => rw [hs] at ht; simp only [cond_true, Nat.testBit_xor, bit_self, hs] at ht; simp at ht
          | false => rw [hs] at ht; simp only [cond_false] at ht; rw [hs] at ht; simp at ht
        · refine .inl (.inr ?_)
          cases hh : o.dst with
          | none => exact h1
          | some d => rw [testBit_rmD (fun e => hd (by rw [hh, e]))]; exact h1
      · exact .inr h1

theorem live_le : ∀ {c : ACode} {N X S T Y : Nat}, (∀ t, N.testBit t = true → X.testBit t = true ∨ Y.testBit t = true) → (∀ t, S.testBit t = true → T.testBit t = true ∨ Y.testBit t = true) → ∀ t, (live c N S).testBit t = true → (live c X T).testBit t = true ∨ Y.testBit t = true := by
  intro c
  induction c with
  | skip => intro N X S T Y h _; exact h
  | region ops => intro N X S T Y h _; exact liveOps_le h
  | draw ops => intro N X S T Y h _; exact liveOps_le h
  | seq a b iha ihb => intro N X S T Y h k; exact iha (ihb h k) k
  | cond c a b iha ihb =>
    intro N X S T Y h k t ht
    simp only [live, Nat.testBit_or, Bool.or_eq_true] at ht ⊢
    rcases ht with (ht | ht) | ht
    · exact .inl (.inl (.inl ht))
    · rcases iha h k t ht with h1 | h1
      · exact .inl (.inl (.inr h1))
      · exact .inr h1
    · rcases ihb h k t ht with h1 | h1
      · exact .inl (.inr h1)
      · exact .inr h1
  | block id b ih =>
    intro N X S T Y h k
    refine ih h fun t ht => ?_
    simp only [Nat.testBit_or, Bool.or_eq_true] at ht ⊢
    rcases ht with ht | ht
    · rcases k t ht with h1 | h1
      · exact .inl (.inl h1)
      · exact .inr h1
    · rcases h t ht with h1 | h1
      · exact .inl (.inr h1)
      · exact .inr h1
  | loop b ih => intro N X S T Y h k; exact ih (fun t ht => .inl ht) k
  | exit id => intro N X S T Y h k; exact k
  | ret => intro N X S T Y h k; exact k
  | bad => intro N X S T Y h k t ht; exact .inl ht

/-- Ahead of a loop's body no more is asked for than ahead of the loop. -/
theorem live_loop {b : ACode} {S t : Nat} (ht : (live b (live b 0 S) S).testBit t = true) : (live b 0 S).testBit t = true := by
  rcases live_le (c := b) (N := live b 0 S) (X := 0) (S := S) (T := S) (Y := live b 0 S) (fun t ht => .inr ht) (fun t ht => .inl ht) t ht with h | h <;> exact h

/-- What is asked for behind an end. -/
def outB (N S : Nat) : AExit → Nat
  | .normal => N
  | _ => S

theorem loopN_agree {f : Env → AHeap → Outc} {L S : Nat} (hf : ∀ {e e' h x e1 h1}, Agree L e e' → f e h = some (x, e1, h1) → ∃ e2, f e' h = some (x, e2, h1) ∧ Agree (outB L S x) e1 e2) :
    ∀ {n : Nat} {e e' e1 : Env} {h h1 : AHeap} {x : AExit}, Agree L e e' → loopN f n e h = some (x, e1, h1) → ∃ e2, loopN f n e' h = some (x, e2, h1) ∧ Agree S e1 e2 ∧ x ≠ .normal := by
  intro n
  induction n with
  | zero => intro e e' e1 h h1 x _ hr; simp [loopN] at hr
  | succ n ih =>
    intro e e' e1 h h1 x ha hr
    simp only [loopN] at hr ⊢
    cases hb : f e h with
    | none => rw [hb] at hr; simp at hr
    | some y =>
      obtain ⟨y, e3, h3⟩ := y
      rw [hb] at hr
      obtain ⟨e4, k1, k2⟩ := hf ha hb
      rw [k1]
      cases y with
      | normal => exact ih k2 hr
      | exit i => simp only [Option.some.injEq, Prod.mk.injEq] at hr; obtain ⟨rfl, rfl, rfl⟩ := hr; exact ⟨e4, rfl, k2, by simp⟩
      | ret => simp only [Option.some.injEq, Prod.mk.injEq] at hr; obtain ⟨rfl, rfl, rfl⟩ := hr; exact ⟨e4, rfl, k2, by simp⟩

theorem evCode_agree {fuel : Nat} : ∀ {c : ACode} {N S : Nat} {e e' e1 : Env} {h h1 : AHeap} {x : AExit}, Agree (live c N S) e e' → evCode tbl call fuel c e h = some (x, e1, h1) → ∃ e2, evCode tbl call fuel c e' h = some (x, e2, h1) ∧ Agree (outB N S x) e1 e2 := by
  intro c
  induction c with
  | skip => intro N S e e' e1 h h1 x ha hr; simp only [evCode, Option.some.injEq, Prod.mk.injEq] at hr; obtain ⟨rfl, rfl, rfl⟩ := hr; exact ⟨e', rfl, ha⟩
  | region ops =>
    intro N S e e' e1 h h1 x ha hr
    simp only [evCode] at hr ⊢
    cases ho : evOps tbl call ops e h with
    | none => rw [ho] at hr; simp at hr
    | some y =>
      obtain ⟨e3, h3⟩ := y
      rw [ho] at hr
      simp only [Option.map_some, Option.some.injEq, Prod.mk.injEq] at hr
      obtain ⟨rfl, rfl, rfl⟩ := hr
      obtain ⟨e2, k1, k2⟩ := evOps_agree ha ho
      exact ⟨e2, by rw [k1]; rfl, k2⟩
  | draw ops =>
    intro N S e e' e1 h h1 x ha hr
    simp only [evCode] at hr ⊢
    cases ho : evDraw tbl call ops e h [] with
    | none => rw [ho] at hr; simp at hr
    | some y =>
      obtain ⟨e3, h3⟩ := y
      rw [ho] at hr
      simp only [Option.map_some, Option.some.injEq, Prod.mk.injEq] at hr
      obtain ⟨rfl, rfl, rfl⟩ := hr
      obtain ⟨e2, k1, k2⟩ := evDraw_agree ha ho
      exact ⟨e2, by rw [k1]; rfl, k2⟩
  | seq a b iha ihb =>
    intro N S e e' e1 h h1 x ha hr
    simp only [evCode] at hr ⊢
    cases ho : evCode tbl call fuel a e h with
    | none => rw [ho] at hr; simp at hr
    | some y =>
      obtain ⟨y, e3, h3⟩ := y
      rw [ho] at hr
      obtain ⟨e4, k1, k2⟩ := iha ha ho
      rw [k1]
      cases y with
      | normal => exact ihb k2 hr
      | exit i => simp only [Option.some.injEq, Prod.mk.injEq] at hr; obtain ⟨rfl, rfl, rfl⟩ := hr; exact ⟨e4, rfl, k2⟩
      | ret => simp only [Option.some.injEq, Prod.mk.injEq] at hr; obtain ⟨rfl, rfl, rfl⟩ := hr; exact ⟨e4, rfl, k2⟩
  | cond c a b iha ihb =>
    intro N S e e' e1 h h1 x ha hr
    simp only [live] at ha
    have hc : c.ev e = c.ev e' := by cases c with | tmp t => exact ha.l.l t (bit_self t) | lit v => rfl
    simp only [evCode, ← hc] at hr ⊢
    split at hr
    · rename_i h1; first | (simp only [h1]; exact iha ha.l.r hr) | exact iha ha.l.r hr
    · rename_i h1; first | (simp only [h1]; exact ihb ha.r hr) | exact ihb ha.r hr
    · simp at hr
  | block id b ih =>
    intro N S e e' e1 h h1 x ha hr
    simp only [evCode] at hr ⊢
    cases ho : evCode tbl call fuel b e h with
    | none => rw [ho] at hr; simp at hr
    | some y =>
      obtain ⟨y, e3, h3⟩ := y
      rw [ho] at hr
      obtain ⟨e4, k1, k2⟩ := ih ha ho
      rw [k1]
      cases y with
      | normal => simp only [Option.some.injEq, Prod.mk.injEq] at hr; obtain ⟨rfl, rfl, rfl⟩ := hr; exact ⟨e4, rfl, k2⟩
      | exit i =>
        simp only at hr ⊢
        by_cases hi : i = id
        · rw [if_pos hi] at hr ⊢
          simp only [Option.some.injEq, Prod.mk.injEq] at hr; obtain ⟨rfl, rfl, rfl⟩ := hr; exact ⟨e4, rfl, k2.r⟩
        · rw [if_neg hi] at hr ⊢
          simp only [Option.some.injEq, Prod.mk.injEq] at hr; obtain ⟨rfl, rfl, rfl⟩ := hr; exact ⟨e4, rfl, k2.l⟩
      | ret => simp only [Option.some.injEq, Prod.mk.injEq] at hr; obtain ⟨rfl, rfl, rfl⟩ := hr; exact ⟨e4, rfl, k2.l⟩
  | loop b ih =>
    intro N S e e' e1 h h1 x ha hr
    simp only [evCode] at hr ⊢
    obtain ⟨e2, k1, k2, k3⟩ := loopN_agree (f := evCode tbl call fuel b) (L := live b 0 S) (S := S) (fun ha hr => ih (ha.sub fun t ht => live_loop ht) hr) ha hr
    exact ⟨e2, k1, by cases x with | normal => exact absurd rfl k3 | exit i => exact k2 | ret => exact k2⟩
  | exit id => intro N S e e' e1 h h1 x ha hr; simp only [evCode, Option.some.injEq, Prod.mk.injEq] at hr; obtain ⟨rfl, rfl, rfl⟩ := hr; exact ⟨e', rfl, ha⟩
  | ret => intro N S e e' e1 h h1 x ha hr; simp only [evCode, Option.some.injEq, Prod.mk.injEq] at hr; obtain ⟨rfl, rfl, rfl⟩ := hr; exact ⟨e', rfl, ha⟩
  | bad => intro N S e e' e1 h h1 x ha hr; simp [evCode] at hr

/-! ### slots that code leaves -/
theorem put_out {d : Option Nat} {e : Env} {v : Value} {t : Nat} (h : (defD d).testBit t = false) : (e.put d v).at t = e.at t := by
  rw [Env.at_put, if_neg]
  intro hd; subst hd; simp only [defD, bit_self] at h; simp at h
theorem evOps_defs : ∀ {l : List AOper} {e e1 : Env} {h h1 : AHeap} {t : Nat}, (defsOps l).testBit t = false → evOps tbl call l e h = some (e1, h1) → e1.at t = e.at t := by
  intro l
  induction l with
  | nil => intro e e1 h h1 t _ hr; simp only [evOps, Option.some.injEq, Prod.mk.injEq] at hr; obtain ⟨rfl, rfl⟩ := hr; rfl
  | cons o l ih =>
    intro e e1 h h1 t ht hr
    simp only [defsOps, Nat.testBit_or, Bool.or_eq_false_iff] at ht
    simp only [evOps] at hr
    cases hw : wantedA o e with
    | true =>
      rw [hw] at hr
      simp only [cond_true] at hr
      cases ho : evOp tbl call e h o.op with
      | none => rw [ho] at hr; simp at hr
      | some x => rw [ho] at hr; rw [ih ht.2 hr, put_out ht.1]
    | false => rw [hw] at hr; simp only [cond_false] at hr; rw [ih ht.2 hr, put_out ht.1]
theorem evDraw_defs : ∀ {l : List (AOper × List Nat)} {e e1 : Env} {h h1 : AHeap} {sn : List AHeap} {t : Nat}, (defsOps (l.map (·.1))).testBit t = false → evDraw tbl call l e h sn = some (e1, h1) → e1.at t = e.at t := by
  intro l
  induction l with
  | nil => intro e e1 h h1 sn t _ hr; simp only [evDraw, Option.some.injEq, Prod.mk.injEq] at hr; obtain ⟨rfl, rfl⟩ := hr; rfl
  | cons p l ih =>
    obtain ⟨o, back⟩ := p
    intro e e1 h h1 sn t ht hr
    simp only [List.map_cons, defsOps, Nat.testBit_or, Bool.or_eq_false_iff] at ht
    simp only [evDraw] at hr
    cases ho : evStep tbl call o e h with
    | none => rw [ho] at hr; simp at hr
    | some x =>
      obtain ⟨v, h2⟩ := x
      rw [ho] at hr
      simp only at hr
      cases hb : (Nat.ble h.next h2.next && steady e o v sn (bif wantedA o e then back else [])) with
      | false => rw [hb] at hr; simp at hr
      | true => rw [hb] at hr; simp only [cond_true] at hr; rw [ih ht.2 hr, put_out ht.1]
theorem loopN_defs {f : Env → AHeap → Outc} {t : Nat} (hf : ∀ {e h x e1 h1}, f e h = some (x, e1, h1) → e1.at t = e.at t) : ∀ {n : Nat} {e e1 : Env} {h h1 : AHeap} {x : AExit}, loopN f n e h = some (x, e1, h1) → e1.at t = e.at t := by
  intro n
  induction n with
  | zero => intro e e1 h h1 x hr; simp [loopN] at hr
  | succ n ih =>
    intro e e1 h h1 x hr
    simp only [loopN] at hr
    cases hb : f e h with
    | none => rw [hb] at hr; simp at hr
    | some y =>
      obtain ⟨y, e3, h3⟩ := y
      rw [hb] at hr
      cases y with
      | normal => rw [ih hr, hf hb]
      | exit i => simp only [Option.some.injEq, Prod.mk.injEq] at hr; obtain ⟨rfl, rfl, rfl⟩ := hr; exact hf hb
      | ret => simp only [Option.some.injEq, Prod.mk.injEq] at hr; obtain ⟨rfl, rfl, rfl⟩ := hr; exact hf hb
theorem evCode_defs {fuel : Nat} {t : Nat} : ∀ {c : ACode} {e e1 : Env} {h h1 : AHeap} {x : AExit}, (defs c).testBit t = false → evCode tbl call fuel c e h = some (x, e1, h1) → e1.at t = e.at t := by
  intro c
  induction c with
  | skip => intro e e1 h h1 x _ hr; simp only [evCode, Option.some.injEq, Prod.mk.injEq] at hr; obtain ⟨rfl, rfl, rfl⟩ := hr; rfl
  | region ops =>
    intro e e1 h h1 x ht hr
    simp only [evCode] at hr
    cases ho : evOps tbl call ops e h with
    | none => rw [ho] at hr; simp at hr
    | some y => rw [ho] at hr; simp only [Option.map_some, Option.some.injEq, Prod.mk.injEq] at hr; obtain ⟨rfl, rfl, rfl⟩ := hr; exact evOps_defs ht ho
  | draw ops =>
    intro e e1 h h1 x ht hr
    simp only [evCode] at hr
    cases ho : evDraw tbl call ops e h [] with
    | none => rw [ho] at hr; simp at hr
    | some y => rw [ho] at hr; simp only [Option.map_some, Option.some.injEq, Prod.mk.injEq] at hr; obtain ⟨rfl, rfl, rfl⟩ := hr; exact evDraw_defs ht ho
  | seq a b iha ihb =>
    intro e e1 h h1 x ht hr
    simp only [defs, Nat.testBit_or, Bool.or_eq_false_iff] at ht
    simp only [evCode] at hr
    cases ho : evCode tbl call fuel a e h with
    | none => rw [ho] at hr; simp at hr
    | some y =>
      obtain ⟨y, e3, h3⟩ := y
      rw [ho] at hr
      cases y with
      | normal => rw [ihb ht.2 hr, iha ht.1 ho]
      | exit i => simp only [Option.some.injEq, Prod.mk.injEq] at hr; obtain ⟨rfl, rfl, rfl⟩ := hr; exact iha ht.1 ho
      | ret => simp only [Option.some.injEq, Prod.mk.injEq] at hr; obtain ⟨rfl, rfl, rfl⟩ := hr; exact iha ht.1 ho
  | cond c a b iha ihb =>
    intro e e1 h h1 x ht hr
    simp only [defs, Nat.testBit_or, Bool.or_eq_false_iff] at ht
    simp only [evCode] at hr
    split at hr
    · exact iha ht.1 hr
    · exact ihb ht.2 hr
    · simp at hr
  | block id b ih =>
    intro e e1 h h1 x ht hr
    simp only [evCode] at hr
    cases ho : evCode tbl call fuel b e h with
    | none => rw [ho] at hr; simp at hr
    | some y =>
      obtain ⟨y, e3, h3⟩ := y
      rw [ho] at hr
      cases y with
      | normal => simp only [Option.some.injEq, Prod.mk.injEq] at hr; obtain ⟨rfl, rfl, rfl⟩ := hr; exact ih ht ho
      | exit i =>
        simp only at hr
        split at hr <;> (simp only [Option.some.injEq, Prod.mk.injEq] at hr; obtain ⟨rfl, rfl, rfl⟩ := hr; exact ih ht ho)
      | ret => simp only [Option.some.injEq, Prod.mk.injEq] at hr; obtain ⟨rfl, rfl, rfl⟩ := hr; exact ih ht ho
  | loop b ih => intro e e1 h h1 x ht hr; simp only [evCode] at hr; exact loopN_defs (f := evCode tbl call fuel b) (fun hr => ih ht hr) hr
  | exit id => intro e e1 h h1 x _ hr; simp only [evCode, Option.some.injEq, Prod.mk.injEq] at hr; obtain ⟨rfl, rfl, rfl⟩ := hr; rfl
  | ret => intro e e1 h h1 x _ hr; simp only [evCode, Option.some.injEq, Prod.mk.injEq] at hr; obtain ⟨rfl, rfl, rfl⟩ := hr; rfl
  | bad => intro e e1 h h1 x _ hr; simp [evCode] at hr
end
end Go.Proofs.PantryEng
namespace Go.Proofs.PantryEng
open Go

abbrev VK := Value → AHeap → Prop
abbrev KC := AExit → Env → AHeap → Prop
def Ensures (A : AProg) (F : FuncId) (args : List Value) (h : AHeap) (R : VK) : Prop := ∃ r h', Ans A F args h r h' ∧ R r h'

/-! ### blocks' numbers only grow -/
def GrowF (call : CallF) : Prop := ∀ F args h v h', call F args h = some (v, h') → h.next ≤ h'.next
def PrimGrow (A : AProg) : Prop := ∀ F p, A.prim F = some p → ∀ args h v h', p args h = some (v, h') → h.next ≤ h'.next

theorem store_next {h h' : AHeap} {b o : Nat} {vs : List Value} (hr : h.store b o vs = some h') : h'.next = h.next := by
  unfold AHeap.store at hr
  split at hr
  · split at hr
    · injection hr with hr; subst hr; rfl
    · simp at hr
  · simp at hr
theorem storeS_next {h h' : AHeap} {s : Value} {vs : List Value} (hr : storeS h s vs = some h') : h'.next = h.next := by
  unfold storeS at hr
  split at hr
  · injection hr with hr; subst hr; rfl
  · split at hr
    · exact store_next hr
    · simp at hr
theorem appendV_next {h h' : AHeap} {n m : Nat} {s x v : Value} (hr : appendV h n m s x = some (v, h')) : h.next ≤ h'.next := by
  unfold appendV at hr
  split at hr
  · split at hr
    · simp only [Option.some.injEq, Prod.mk.injEq] at hr; obtain ⟨rfl, rfl⟩ := hr; exact Nat.le_refl _
    · split at hr
      · split at hr
        · simp at hr
        · split at hr
          · split at hr
            · simp only [Option.some.injEq, Prod.mk.injEq] at hr; obtain ⟨rfl, rfl⟩ := hr; exact Nat.le_succ _
            · simp at hr
          · split at hr
            · split at hr
              · simp only [Option.some.injEq, Prod.mk.injEq] at hr; obtain ⟨rfl, rfl⟩ := hr; exact Nat.le_succ _
              · simp at hr
            · split at hr
              · split at hr
                · split at hr
                  · simp only [Option.some.injEq, Prod.mk.injEq] at hr; obtain ⟨rfl, rfl⟩ := hr; exact Nat.le_succ _
                  · simp at hr
                · simp at hr
              · simp at hr
          · simp at hr
      · simp at hr
  · simp at hr

section
variable {tbl : List (List (TypeId × FuncId))} {call : CallF}
theorem evE_next (hc : GrowF call) {e : Env} {h h' : AHeap} {q : EOp} {v : Value} (hr : evE tbl call e h q = some (v, h')) : h.next ≤ h'.next := by
  cases q with
  | store n a x =>
    simp only [evE] at hr
    split at hr
    · split at hr
      · rw [Option.map_eq_some_iff] at hr
        obtain ⟨h2, h3, h4⟩ := hr
        injection h4 with _ h4; subst h4
        exact Nat.le_of_eq (store_next h3).symm
      · simp at hr
    · simp at hr
  | mapUpdate m k x =>
    simp only [evE] at hr
    split at hr
    · split at hr
      · simp at hr
      · rw [Option.map_eq_some_iff] at hr
        obtain ⟨h2, h3, h4⟩ := hr
        injection h4 with _ h4; subst h4
        exact Nat.le_refl _
    · simp at hr
  | call c as =>
    cases c with
    | value f =>
      simp only [evE] at hr
      split at hr
      · exact hc _ _ _ _ _ hr
      · simp at hr
    | invoke x m =>
      simp only [evE] at hr
      split at hr
      · split at hr
        · exact hc _ _ _ _ _ hr
        · simp at hr
      · simp at hr
  | append n b s x => exact appendV_next hr
  | copy n d s =>
    simp only [evE] at hr
    split at hr
    · split at hr
      · rw [Option.map_eq_some_iff] at hr
        obtain ⟨h2, h3, h4⟩ := hr
        injection h4 with _ h4; subst h4
        exact Nat.le_of_eq (storeS_next h3).symm
      · simp at hr
    · simp at hr
  | delete m k =>
    simp only [evE] at hr
    split at hr
    · simp only [Option.some.injEq, Prod.mk.injEq] at hr; obtain ⟨_, rfl⟩ := hr; exact Nat.le_refl _
    · rw [Option.map_eq_some_iff] at hr
      obtain ⟨h2, h3, h4⟩ := hr
      injection h4 with _ h4; subst h4
      exact Nat.le_refl _
    · simp at hr
  | clearS z x =>
    simp only [evE] at hr
    split at hr
    · rw [Option.map_eq_some_iff] at hr
      obtain ⟨h2, h3, h4⟩ := hr
      injection h4 with _ h4; subst h4
      exact Nat.le_of_eq (storeS_next h3).symm
    · simp at hr

theorem evOp_next (hc : GrowF call) {e : Env} {h h' : AHeap} {q : AOp} {v : Value} (hr : evOp tbl call e h q = some (v, h')) : h.next ≤ h'.next := by
  cases q with
  | p q => simp only [evOp, Option.map_eq_some_iff, Prod.mk.injEq] at hr; obtain ⟨_, _, _, rfl⟩ := hr; exact Nat.le_refl _
  | l q => simp only [evOp, Option.map_eq_some_iff, Prod.mk.injEq] at hr; obtain ⟨_, _, _, rfl⟩ := hr; exact Nat.le_succ _
  | e q => exact evE_next hc hr

theorem evOps_next (hc : GrowF call) : ∀ {l : List AOper} {e e' : Env} {h h' : AHeap}, evOps tbl call l e h = some (e', h') → h.next ≤ h'.next := by
  intro l
  induction l with
  | nil => intro e e' h h' hr; simp only [evOps, Option.some.injEq, Prod.mk.injEq] at hr; obtain ⟨rfl, rfl⟩ := hr; exact Nat.le_refl _
  | cons o l ih =>
    intro e e' h h' hr
    simp only [evOps] at hr
    cases hw : wantedA o e with
    | true =>
      rw [hw] at hr
      simp only [cond_true] at hr
      cases ho : evOp tbl call e h o.op with
      | none => rw [ho] at hr; simp at hr
      | some x => rw [ho] at hr; exact Nat.le_trans (evOp_next hc ho) (ih hr)
    | false => rw [hw] at hr; simp only [cond_false] at hr; exact ih hr

theorem evDraw_next : ∀ {l : List (AOper × List Nat)} {e e' : Env} {h h' : AHeap} {sn : List AHeap}, evDraw tbl call l e h sn = some (e', h') → h.next ≤ h'.next := by
  intro l
  induction l with
  | nil => intro e e' h h' sn hr; simp only [evDraw, Option.some.injEq, Prod.mk.injEq] at hr; obtain ⟨rfl, rfl⟩ := hr; exact Nat.le_refl _
  | cons p l ih =>
    obtain ⟨o, back⟩ := p
    intro e e' h h' sn hr
    simp only [evDraw] at hr
    cases ho : evStep tbl call o e h with
    | none => rw [ho] at hr; simp at hr
    | some x =>
      obtain ⟨v, h2⟩ := x
      rw [ho] at hr
      simp only at hr
      cases hb : (Nat.ble h.next h2.next && steady e o v sn (bif wantedA o e then back else [])) with
      | false => rw [hb] at hr; simp at hr
      | true =>
        rw [hb] at hr
        simp only [cond_true] at hr
        simp only [Bool.and_eq_true, Nat.ble_eq] at hb
        exact Nat.le_trans hb.1 (ih hr)

theorem loopN_next {f : Env → AHeap → Outc} (hf : ∀ {e h x e1 h1}, f e h = some (x, e1, h1) → h.next ≤ h1.next) : ∀ {n : Nat} {e e1 : Env} {h h1 : AHeap} {x : AExit}, loopN f n e h = some (x, e1, h1) → h.next ≤ h1.next := by
  intro n
  induction n with
  | zero => intro e e1 h h1 x hr; simp [loopN] at hr
  | succ n ih =>
    intro e e1 h h1 x hr
    simp only [loopN] at hr
    cases hb : f e h with
    | none => rw [hb] at hr; simp at hr
    | some y =>
      obtain ⟨y, e3, h3⟩ := y
      rw [hb] at hr
      cases y with
      | normal => exact Nat.le_trans (hf hb) (ih hr)
      | exit i => simp only [Option.some.injEq, Prod.mk.injEq] at hr; obtain ⟨rfl, rfl, rfl⟩ := hr; exact hf hb
      | ret => simp only [Option.some.injEq, Prod.mk.injEq] at hr; obtain ⟨rfl, rfl, rfl⟩ := hr; exact hf hb

theorem evCode_next (hc : GrowF call) {fuel : Nat} : ∀ {c : ACode} {e e1 : Env} {h h1 : AHeap} {x : AExit}, evCode tbl call fuel c e h = some (x, e1, h1) → h.next ≤ h1.next := by
  intro c
  induction c with
  | skip => intro e e1 h h1 x hr; simp only [evCode, Option.some.injEq, Prod.mk.injEq] at hr; obtain ⟨rfl, rfl, rfl⟩ := hr; exact Nat.le_refl _
  | region ops =>
    intro e e1 h h1 x hr
    simp only [evCode] at hr
    cases ho : evOps tbl call ops e h with
    | none => rw [ho] at hr; simp at hr
    | some y => rw [ho] at hr; simp only [Option.map_some, Option.some.injEq, Prod.mk.injEq] at hr; obtain ⟨rfl, rfl, rfl⟩ := hr; exact evOps_next hc ho
  | draw ops =>
    intro e e1 h h1 x hr
    simp only [evCode] at hr
    cases ho : evDraw tbl call ops e h [] with
    | none => rw [ho] at hr; simp at hr
    | some y => rw [ho] at hr; simp only [Option.map_some, Option.some.injEq, Prod.mk.injEq] at hr; obtain ⟨rfl, rfl, rfl⟩ := hr; exact evDraw_next ho
  | seq a b iha ihb =>
    intro e e1 h h1 x hr
    simp only [evCode] at hr
    cases ho : evCode tbl call fuel a e h with
    | none => rw [ho] at hr; simp at hr
    | some y =>
      obtain ⟨y, e3, h3⟩ := y
      rw [ho] at hr
      cases y with
      | normal => exact Nat.le_trans (iha ho) (ihb hr)
      | exit i => simp only [Option.some.injEq, Prod.mk.injEq] at hr; obtain ⟨rfl, rfl, rfl⟩ := hr; exact iha ho
      | ret => simp only [Option.some.injEq, Prod.mk.injEq] at hr; obtain ⟨rfl, rfl, rfl⟩ := hr; exact iha ho
  | cond c a b iha ihb =>
    intro e e1 h h1 x hr
    simp only [evCode] at hr
    split at hr
    · exact iha hr
    · exact ihb hr
    · simp at hr
  | block id b ih =>
    intro e e1 h h1 x hr
    simp only [evCode] at hr
    cases ho : evCode tbl call fuel b e h with
    | none => rw [ho] at hr; simp at hr
    | some y =>
      obtain ⟨y, e3, h3⟩ := y
      rw [ho] at hr
      cases y with
      | normal => simp only [Option.some.injEq, Prod.mk.injEq] at hr; obtain ⟨rfl, rfl, rfl⟩ := hr; exact ih ho
      | exit i =>
        simp only at hr
        split at hr <;> (simp only [Option.some.injEq, Prod.mk.injEq] at hr; obtain ⟨rfl, rfl, rfl⟩ := hr; exact ih ho)
      | ret => simp only [Option.some.injEq, Prod.mk.injEq] at hr; obtain ⟨rfl, rfl, rfl⟩ := hr; exact ih ho
  | loop b ih => intro e e1 h h1 x hr; simp only [evCode] at hr; exact loopN_next (f := evCode tbl call fuel b) (fun hr => ih hr) hr
  | exit id => intro e e1 h h1 x hr; simp only [evCode, Option.some.injEq, Prod.mk.injEq] at hr; obtain ⟨rfl, rfl, rfl⟩ := hr; exact Nat.le_refl _
  | ret => intro e e1 h h1 x hr; simp only [evCode, Option.some.injEq, Prod.mk.injEq] at hr; obtain ⟨rfl, rfl, rfl⟩ := hr; exact Nat.le_refl _
  | bad => intro e e1 h h1 x hr; simp [evCode] at hr
end

theorem evCall_next {A : AProg} (hA : PrimGrow A) : ∀ n, GrowF (evCall A n) := by
  intro n
  induction n with
  | zero => intro F args h v h' hr; simp [evCall] at hr
  | succ n ih =>
    intro F args h v h' hr
    simp only [evCall] at hr
    split at hr
    · rename_i p hp; exact hA F p hp _ _ _ _ hr
    · split at hr
      · split at hr
        · unfold evBody at hr
          split at hr
          · rename_i hb
            rw [Option.map_eq_some_iff] at hr
            obtain ⟨_, _, h4⟩ := hr
            injection h4 with _ h4; subst h4
            exact evCode_next ih hb
          · rename_i hb
            rw [Option.map_eq_some_iff] at hr
            obtain ⟨_, _, h4⟩ := hr
            injection h4 with _ h4; subst h4
            exact evCode_next ih hb
          · simp at hr
        · simp at hr
      · simp at hr

/-! ### code as a proposition -/
def P {α : Type} (o : Option α) (k : α → Prop) : Prop := ∃ v, o = some v ∧ k v
def PH (o : Option (Value × AHeap)) (k : VK) : Prop := ∃ v h, o = some (v, h) ∧ k v h
def If (v : Value) (p q : Prop) : Prop := ∃ c, v = .bool c ∧ (c = true → p) ∧ (c = false → q)
def gw (v : Value) (b : Bool) : Bool :=
  match v with
  | .bool c => c == b
  | _ => false
def G (v : Value) (b : Bool) (p q : Prop) : Prop := (gw v b = true → p) ∧ (gw v b = false → q)
def J {α : Type} (R : α) (B : α → Prop) : Prop := B R
def Jg {α : Type} (R : α) (B : α → Prop) : Prop := B R
def CV (A : AProg) (f : Value) (args : List Value) (h : AHeap) (k : VK) : Prop :=
  match f with
  | .func (.func F) ⟨first⟩ ⟨cap⟩ => Ensures A F (first ++ args ++ cap) h k
  | _ => False
def CI (A : AProg) (m : Nat) (x : Value) (args : List Value) (h : AHeap) (k : VK) : Prop :=
  match x with
  | .iface t u =>
    match (A.tbl.getD m []).lookup t with
    | some F => Ensures A F (u :: args) h k
    | none => False
  | _ => False
def Sd (o : Option Value) (v : Value) : Prop := ∃ u, o = some u ∧ sameV u v = true
/-- What is laid. -/
def Ly (o : Option (AObj × (Nat → Value))) (h : AHeap) (k : VK) : Prop := P o fun x => k (x.2 h.next) (h.new x.1)
def noCall : CallF := fun _ _ _ => none

def WOp (A : AProg) (e : Env) (h : AHeap) (o : AOp) (k : VK) : Prop :=
  match o with
  | .p (.move x) => k (x.ev e) h
  | .p q => P (evP e h q) fun v => k v h
  | .l q => Ly (evL e q) h k
  | .e (.call (.value f) as) => CV A (f.ev e) (as.map (·.ev e)) h k
  | .e (.call (.invoke x m) as) => CI A m (x.ev e) (as.map (·.ev e)) h k
  | .e q => PH (evE [] noCall e h q) k
def WO (A : AProg) : List AOper → Env → AHeap → (Env → AHeap → Prop) → Prop
  | [], e, h, K => K e h
  | o :: l, e, h, K =>
    match o.guard with
    | none => WOp A e h o.op fun v h' => WO A l (e.put o.dst v) h' K
    | some (t, b) => Jg (fun v h' => WO A l (e.put o.dst v) h' K) fun R => G (e.at t) b (WOp A e h o.op R) (R noValue h)
def SdL (e : Env) (q : POp) (v : Value) (sn : List AHeap) : List Nat → Prop → Prop
  | [], p => p
  | j :: js, p => (match sn[j]? with | some h => Sd (evP e h q) v | none => False) ∧ SdL e q v sn js p
def WDs (e : Env) (o : AOp) (v : Value) (sn : List AHeap) (back : List Nat) (p : Prop) : Prop :=
  match o with
  | .p q => SdL e q v sn back p
  | _ => p
def WD (A : AProg) : List (AOper × List Nat) → Env → AHeap → List AHeap → (Env → AHeap → Prop) → Prop
  | [], e, h, _, K => K e h
  | (o, back) :: l, e, h, sn, K =>
    match o.guard with
    | none => WOp A e h o.op fun v h' => WDs e o.op v sn back (WD A l (e.put o.dst v) h' (h :: sn) K)
    | some (t, b) => Jg (fun v h' => WD A l (e.put o.dst v) h' (h :: sn) K) fun R => G (e.at t) b (WOp A e h o.op fun v h' => WDs e o.op v sn back (R v h')) (R noValue h)

def slotsGo (m : Nat) : Nat → List Nat → List Nat
  | 0, l => l
  | n + 1, l => slotsGo m n (bif m.testBit n then n :: l else l)
def slotsOf (m : Nat) : List Nat := slotsGo m (m.log2 + 1) []
def ats (e : Env) : List Nat → List Value
  | [] => []
  | t :: ts => e.at t :: ats e ts
def putsL (e : Env) (l : List Value) : Nat → List Nat → Env
  | _, [] => e
  | i, t :: ts => putsL (e.put (some t) (l.getD i noValue)) l (i + 1) ts
/-- How often code ends, and by which exits. -/
def cnt : ACode → Nat × List Nat
  | .skip => (1, [])
  | .region _ => (1, [])
  | .draw _ => (1, [])
  | .seq a b => match cnt a with | (0, l) => (0, l) | (_, l) => match cnt b with | (n, m) => (n, l ++ m)
  | .cond _ a b => match cnt a, cnt b with | (n, l), (m, k) => (n + m, l ++ k)
  | .block id b => match cnt b with | (n, l) => (n + (l.filter (Nat.beq id ·)).length, l.filter fun i => !(Nat.beq id i))
  | .loop b => match cnt b with | (_, l) => (0, l)
  | .exit id => (0, [id])
  | .ret => (0, [])
  | .bad => (0, [])
/-- A loop. -/
def Lp (B : List Value → AHeap → (List Value → AHeap → Prop) → Prop) (l : List Value) (h : AHeap) : Prop :=
  ∃ (I : Nat → List Value → AHeap → Prop) (k : Nat), I k l h ∧ ∀ k l h, I k l h → B l h fun l' h' => ∃ j, j < k ∧ I j l' h'
def seqK (R : Env → AHeap → Prop) (Q : KC) : KC
  | .normal, e, h => R e h
  | .exit i, e, h => Q (.exit i) e h
  | .ret, e, h => Q .ret e h
def blockK (id : Nat) (Q : KC) : KC
  | .normal, e, h => Q .normal e h
  | .exit i, e, h => bif Nat.beq i id then Q .normal e h else Q (.exit i) e h
  | .ret, e, h => Q .ret e h
def WC (A : AProg) : ACode → Nat → Nat → Env → AHeap → KC → Prop
  | .skip, _, _, e, h, Q => Q .normal e h
  | .region ops, _, _, e, h, Q => WO A ops e h (Q .normal)
  | .draw ops, _, _, e, h, Q => WD A ops e h [] (Q .normal)
  | .seq a b, N, S, e, h, Q =>
    bif Nat.ble 2 (cnt a).1 then
      J (fun l h' => WC A b N S (putsL e l 0 (slotsOf (defs a &&& live b N S))) h' Q) fun R => WC A a (live b N S) S e h (seqK (fun e' h' => R (ats e' (slotsOf (defs a &&& live b N S))) h') Q)
    else WC A a (live b N S) S e h (seqK (fun e' h' => WC A b N S e' h' Q) Q)
  | .cond c a b, N, S, e, h, Q => If (c.ev e) (WC A a N S e h Q) (WC A b N S e h Q)
  | .block id b, N, S, e, h, Q => WC A b N (S ||| N) e h (blockK id Q)
  | .loop b, _, S, e, h, Q => Lp (fun l h' K => WC A b (live b 0 S) S (putsL e l 0 (slotsOf (defs b &&& live b 0 S))) h' (seqK (fun e' h'' => K (ats e' (slotsOf (defs b &&& live b 0 S))) h'') Q)) (ats e (slotsOf (defs b &&& live b 0 S))) h
  | .exit id, _, _, e, h, Q => Q (.exit id) e h
  | .ret, _, _, e, h, Q => Q .ret e h
  | .bad, _, _, _, _, _ => False

def Rt (vs : List Value) (h : AHeap) (K : VK) : Prop := vs.all (fun v => !isTup v) = true ∧ K (packV vs) h
def WRes : List ARes → Env → AHeap → (List Value → Prop) → Prop
  | [], _, _, k => k []
  | .tmp t :: rs, e, h, k => WRes rs e h fun vs => k (e.at t :: vs)
  | .cell g n a :: rs, e, h, k => P (evP e h (.load g n (.tmp a))) fun v => WRes rs e h fun vs => k (v :: vs)
def endW (rs : List ARes) (K : VK) : KC
  | .exit _, _, _ => False
  | .normal, e, h => WRes rs e h fun vs => Rt vs h K
  | .ret, e, h => WRes rs e h fun vs => Rt vs h K
def resM : List ARes → Nat
  | [] => 0
  | .tmp t :: rs => 1 <<< t ||| resM rs
  | .cell _ _ a :: rs => 1 <<< a ||| resM rs
/-- A function, called. -/
def WF (A : AProg) (fn : AFunc) (args : List Value) (h : AHeap) (K : VK) : Prop := WC A fn.body (resM fn.results) (resM fn.results) (argsEnv 0 args .nil) h (endW fn.results K)

/-! ### more of the end -/
section
variable {A : AProg}
theorem P.mono {α : Type} {o : Option α} {k k' : α → Prop} (hk : ∀ v, k v → k' v) (h : P o k) : P o k' := by
  obtain ⟨v, h1, h2⟩ := h
  exact ⟨v, h1, hk v h2⟩
theorem Ensures.mono {F : FuncId} {args : List Value} {h : AHeap} {k k' : VK} (he : Ensures A F args h k) (hk : ∀ v h, k v h → k' v h) : Ensures A F args h k' := by
  obtain ⟨r, h', h1, h2⟩ := he
  exact ⟨r, h', h1, hk _ _ h2⟩
theorem WOp_mono {e : Env} {h : AHeap} {o : AOp} {k k' : VK} (hk : ∀ v h, k v h → k' v h) (hw : WOp A e h o k) : WOp A e h o k' := by
  unfold WOp at *
  split at hw
  · exact hk _ _ hw
  · exact hw.mono fun v => hk v h
  · exact P.mono (fun x => hk _ _) hw
  · unfold CV at *
    split at hw
    · exact hw.mono hk
    · exact hw
  · unfold CI at *
    split at hw
    · split at hw
      · exact hw.mono hk
      · exact hw
    · exact hw
  · obtain ⟨v, h', h1, h2⟩ := hw
    exact ⟨v, h', h1, hk _ _ h2⟩
theorem G.mono {v : Value} {b : Bool} {p q p' q' : Prop} (hp : p → p') (hq : q → q') (h : G v b p q) : G v b p' q' := ⟨fun e => hp (h.1 e), fun e => hq (h.2 e)⟩
theorem WO_mono : ∀ {l : List AOper} {e : Env} {h : AHeap} {K K' : Env → AHeap → Prop}, (∀ e h, K e h → K' e h) → WO A l e h K → WO A l e h K' := by
  intro l
  induction l with
  | nil => intro e h K K' hK hw; exact hK _ _ hw
  | cons o l ih =>
    intro e h K K' hK hw
    simp only [WO] at hw ⊢
    split at hw
    · exact WOp_mono (fun v h => ih hK) hw
    · exact G.mono (WOp_mono fun v h => ih hK) (ih hK) hw
theorem SdL_mono {e : Env} {q : POp} {v : Value} {sn : List AHeap} {p p' : Prop} (hp : p → p') : ∀ {back : List Nat}, SdL e q v sn back p → SdL e q v sn back p' := by
  intro back
  induction back with
  | nil => exact hp
  | cons j js ih => intro h; exact ⟨h.1, ih h.2⟩
theorem WDs_mono {e : Env} {o : AOp} {v : Value} {sn : List AHeap} {back : List Nat} {p p' : Prop} (hp : p → p') (h : WDs e o v sn back p) : WDs e o v sn back p' := by
  unfold WDs at *
  split at h
  · exact SdL_mono hp h
  · exact hp h
theorem WD_mono : ∀ {l : List (AOper × List Nat)} {e : Env} {h : AHeap} {sn : List AHeap} {K K' : Env → AHeap → Prop}, (∀ e h, K e h → K' e h) → WD A l e h sn K → WD A l e h sn K' := by
  intro l
  induction l with
  | nil => intro e h sn K K' hK hw; exact hK _ _ hw
  | cons p l ih =>
    obtain ⟨o, back⟩ := p
    intro e h sn K K' hK hw
    simp only [WD] at hw ⊢
    split at hw
    · exact WOp_mono (fun v h => WDs_mono (ih hK)) hw
    · exact G.mono (WOp_mono fun v h => WDs_mono (ih hK)) (ih hK) hw
theorem seqK_mono {R R' : Env → AHeap → Prop} {Q Q' : KC} (hR : ∀ e h, R e h → R' e h) (hQ : ∀ x e h, Q x e h → Q' x e h) : ∀ x e h, seqK R Q x e h → seqK R' Q' x e h := by
  intro x e h hs
  cases x with
  | normal => exact hR _ _ hs
  | exit i => exact hQ _ _ _ hs
  | ret => exact hQ _ _ _ hs
theorem blockK_mono {id : Nat} {Q Q' : KC} (hQ : ∀ x e h, Q x e h → Q' x e h) : ∀ x e h, blockK id Q x e h → blockK id Q' x e h := by
  intro x e h hs
  cases x with
  | normal => exact hQ _ _ _ hs
  | exit i =>
    simp only [blockK] at hs ⊢
    cases hb : Nat.beq i id with
    | true => rw [hb] at hs; exact hQ _ _ _ hs
    | false => rw [hb] at hs; exact hQ _ _ _ hs
  | ret => exact hQ _ _ _ hs
theorem WC_mono : ∀ {c : ACode} {N S : Nat} {e : Env} {h : AHeap} {Q Q' : KC}, (∀ x e h, Q x e h → Q' x e h) → WC A c N S e h Q → WC A c N S e h Q' := by
  intro c
  induction c with
  | skip => intro N S e h Q Q' hQ hw; exact hQ _ _ _ hw
  | region ops => intro N S e h Q Q' hQ hw; exact WO_mono (hQ _) hw
  | draw ops => intro N S e h Q Q' hQ hw; exact WD_mono (hQ _) hw
  | seq a b iha ihb =>
    intro N S e h Q Q' hQ hw
    simp only [WC] at hw ⊢
    cases hb : Nat.ble 2 (cnt a).1 with
    | true => rw [hb] at hw; exact iha (seqK_mono (fun e h => ihb hQ) hQ) hw
    | false => rw [hb] at hw; exact iha (seqK_mono (fun e h => ihb hQ) hQ) hw
  | cond c a b iha ihb =>
    intro N S e h Q Q' hQ hw
    obtain ⟨t, h1, h2, h3⟩ := hw
    exact ⟨t, h1, fun k => iha hQ (h2 k), fun k => ihb hQ (h3 k)⟩
  | block id b ih => intro N S e h Q Q' hQ hw; exact ih (blockK_mono hQ) hw
  | loop b ih =>
    intro N S e h Q Q' hQ hw
    obtain ⟨I, k, h1, h2⟩ := hw
    exact ⟨I, k, h1, fun k l h hi => ih (seqK_mono (fun e h k => k) hQ) (h2 k l h hi)⟩
  | exit id => intro N S e h Q Q' hQ hw; exact hQ _ _ _ hw
  | ret => intro N S e h Q Q' hQ hw; exact hQ _ _ _ hw
  | bad => intro N S e h Q Q' hQ hw; exact hw

/-! ### it is so -/
theorem WOp_ok {e : Env} {h : AHeap} {o : AOp} {k : VK} (hw : WOp A e h o k) : wpP A o e h k := by
  unfold WOp at hw
  split at hw
  · exact wpP_p rfl hw
  · obtain ⟨v, h1, h2⟩ := hw; exact wpP_p h1 h2
  · obtain ⟨x, h1, h2⟩ := hw; exact wpP_l (by rw [h1]) h2
  · unfold CV at hw
    split at hw
    · rename_i hf; obtain ⟨r, h', h1, h2⟩ := hw; exact wpP_call hf h1 h2
    · exact hw.elim
  · unfold CI at hw
    split at hw
    · rename_i hf
      split at hw
      · rename_i hl; obtain ⟨r, h', h1, h2⟩ := hw; exact wpP_invoke hf hl h1 h2
      · exact hw.elim
    · exact hw.elim
  · rename_i q hq1 hq2
    obtain ⟨v, h', h1, h2⟩ := hw
    refine wpP_e ?_ h2
    cases q with
    | call c as => cases c with
      | value f => exact absurd rfl (hq1 f as)
      | invoke x m => exact absurd rfl (hq2 x m as)
    | _ => exact h1

theorem gw_wanted {o : AOper} {e : Env} {t : Nat} {b : Bool} (h : o.guard = some (t, b)) : wantedA o e = gw (e.at t) b := by
  unfold wantedA
  rw [h]
  simp only [yieldedA_eq]
  cases e.at t <;> rfl

theorem WO_ok : ∀ {l : List AOper} {e : Env} {h : AHeap} {K : Env → AHeap → Prop}, WO A l e h K → wpO A l e h K := by
  intro l
  induction l with
  | nil => intro e h K hw; exact wpO_nil hw
  | cons o l ih =>
    intro e h K hw
    simp only [WO] at hw
    split at hw
    · rename_i hg
      refine wpO_cons (by unfold wantedA; rw [hg]) ?_
      exact WOp_ok (WOp_mono (fun v h => ih) hw)
    · rename_i t b hg
      have hwt := gw_wanted (e := e) hg
      obtain ⟨h1, h2⟩ := hw
      cases hb : gw (e.at t) b with
      | true => exact wpO_cons (by rw [hwt, hb]) (WOp_ok (WOp_mono (fun v h => ih) (h1 hb)))
      | false => exact wpO_skip (by rw [hwt, hb]) (ih (h2 hb))

theorem SdL_ok {e : Env} {q : POp} {v : Value} {sn : List AHeap} {p : Prop} : ∀ {back : List Nat}, SdL e q v sn back p → p ∧ (back.all fun j => match sn[j]? with | some h => (match evP e h q with | some u => sameV u v | none => false) | none => false) = true := by
  intro back
  induction back with
  | nil => intro h; exact ⟨h, rfl⟩
  | cons j js ih =>
    intro h
    obtain ⟨h1, h2⟩ := h
    obtain ⟨h3, h4⟩ := ih h2
    refine ⟨h3, ?_⟩
    rw [List.all_cons, h4, Bool.and_true]
    split at h1
    · rename_i hs
      obtain ⟨u, k1, k2⟩ := h1
      simp only [k1, k2]
    · exact h1.elim
theorem WDs_ok {e : Env} {o : AOper} {v : Value} {sn : List AHeap} {back : List Nat} {p : Prop} (h : WDs e o.op v sn back p) : p ∧ steady e o v sn back = true := by
  unfold WDs at h
  split at h
  · rename_i q hq
    obtain ⟨h1, h2⟩ := SdL_ok h
    refine ⟨h1, ?_⟩
    unfold steady
    split
    · rfl
    · rename_i hb hq'
      rw [hq] at hq'
      injection hq' with hq'
      subst hq'
      exact h2
    · rfl
  · rename_i hq
    refine ⟨h, ?_⟩
    unfold steady
    split
    · rfl
    · rename_i q hb hq'; exact absurd hq' (hq q)
    · rfl
theorem steady_nil (e : Env) (o : AOper) (v : Value) (sn : List AHeap) : steady e o v sn [] = true := rfl

theorem WD_ok (hA : PrimGrow A) : ∀ {l : List (AOper × List Nat)} {e : Env} {h : AHeap} {sn : List AHeap} {K : Env → AHeap → Prop}, WD A l e h sn K → wpD A l e h sn K := by
  intro l
  induction l with
  | nil => intro e h sn K hw; exact ⟨0, e, h, rfl, hw⟩
  | cons p l ih =>
    obtain ⟨o, back⟩ := p
    intro e h sn K hw
    have wanted : wantedA o e = true → WOp A e h o.op (fun v h' => WDs e o.op v sn back (WD A l (e.put o.dst v) h' (h :: sn) K)) → wpD A ((o, back) :: l) e h sn K := by
      intro hwt hw
      obtain ⟨n, v, h1, k1, k2⟩ := WOp_ok hw
      obtain ⟨k3, k4⟩ := WDs_ok (o := o) k2
      obtain ⟨m, e2, h2, k5, k6⟩ := ih k3
      refine ⟨max n m, e2, h2, ?_, k6⟩
      have hn : Nat.ble h.next h1.next = true := by rw [Nat.ble_eq]; exact evOp_next (evCall_next hA n) k1
      simp only [evDraw, evStep, hwt, cond_true, evOp_mono (evCall_mono (Nat.le_max_left n m)) k1, hn, k4, Bool.and_self]
      exact evDraw_mono (evCall_mono (Nat.le_max_right n m)) k5
    simp only [WD] at hw
    split at hw
    · rename_i hg
      exact wanted (by unfold wantedA; rw [hg]) hw
    · rename_i t b hg
      have hwt := gw_wanted (e := e) hg
      obtain ⟨h1, h2⟩ := hw
      cases hb : gw (e.at t) b with
      | true => exact wanted (by rw [hwt, hb]) (h1 hb)
      | false =>
        obtain ⟨m, e2, h3, k5, k6⟩ := ih (h2 hb)
        refine ⟨m, e2, h3, ?_, k6⟩
        have hn : Nat.ble h.next h.next = true := by rw [Nat.ble_eq]; exact Nat.le_refl _
        rw [hb] at hwt
        simp only [evDraw, evStep, hwt, cond_false, hn, steady_nil, Bool.and_self, cond_true]
        exact k5

/-- Ends do not ask for other slots. -/
def Ins (N S : Nat) (Q : KC) : Prop := ∀ x e e' h, Agree (outB N S x) e e' → Q x e h → Q x e' h

theorem wpC_agree {c : ACode} {N S : Nat} {e e' : Env} {h : AHeap} {Q : KC} (hi : Ins N S Q) (ha : Agree (live c N S) e e') (hw : wpC A c e h Q) : wpC A c e' h Q := by
  obtain ⟨n, x, e1, h1, k1, k2⟩ := hw
  obtain ⟨e2, k3, k4⟩ := evCode_agree ha k1
  exact ⟨n, x, e2, h1, k3, hi _ _ _ _ k4 k2⟩

theorem mem_slotsGo {m t : Nat} : ∀ {n : Nat} {l : List Nat}, t ∈ slotsGo m n l ↔ t ∈ l ∨ (t < n ∧ m.testBit t = true) := by
  intro n
  induction n with
  | zero => intro l; simp [slotsGo]
  | succ n ih =>
    intro l
    simp only [slotsGo, ih]
    cases hb : m.testBit n with
    | true =>
      simp only [cond_true, List.mem_cons]
      constructor
      · rintro ((rfl | h) | h)
        · exact .inr ⟨by omega, hb⟩
        · exact .inl h
        · exact .inr ⟨by omega, h.2⟩
      · rintro (h | ⟨h1, h2⟩)
        · exact .inl (.inr h)
        · by_cases ht : t = n
          · exact .inl (.inl ht)
          · exact .inr ⟨by omega, h2⟩
    | false =>
      simp only [cond_false]
      constructor
      · rintro (h | h)
        · exact .inl h
        · exact .inr ⟨by omega, h.2⟩
      · rintro (h | ⟨h1, h2⟩)
        · exact .inl h
        · by_cases ht : t = n
          · subst ht; rw [hb] at h2; simp at h2
          · exact .inr ⟨by omega, h2⟩
theorem mem_slotsOf {m t : Nat} : t ∈ slotsOf m ↔ m.testBit t = true := by
  unfold slotsOf
  rw [mem_slotsGo]
  constructor
  · rintro (h | h)
    · simp at h
    · exact h.2
  · intro h
    refine .inr ⟨?_, h⟩
    have hm := Nat.ge_two_pow_of_testBit h
    have hne : m ≠ 0 := by intro h0; subst h0; simp at h
    exact Nat.lt_succ_of_le ((Nat.le_log2 hne).2 hm)

theorem ats_congr {e e' : Env} : ∀ {ts : List Nat}, (∀ t ∈ ts, e.at t = e'.at t) → ats e ts = ats e' ts := by
  intro ts
  induction ts with
  | nil => intro _; rfl
  | cons t ts ih => intro h; simp only [ats, h t (by simp), ih fun t ht => h t (by simp [ht])]
theorem ats_get (e : Env) : ∀ (ts : List Nat) (i : Nat), (ats e ts).getD i noValue = match ts[i]? with | some t => e.at t | none => noValue := by
  intro ts
  induction ts with
  | nil => intro i; simp [ats]
  | cons t ts ih =>
    intro i
    cases i with
    | zero => simp [ats]
    | succ i => simpa [ats] using ih i
/-- The slots filled anew as they were. -/
theorem putsL_at {e e' : Env} {l : List Value} : ∀ {ts : List Nat} {i : Nat}, (∀ (j : Nat) t, ts[j]? = some t → l.getD (i + j) noValue = e'.at t) → ∀ t, (putsL e l i ts).at t = if t ∈ ts then e'.at t else e.at t := by
  intro ts
  induction ts generalizing e with
  | nil => intro i _ t; simp [putsL]
  | cons a ts ih =>
    intro i h t
    simp only [putsL]
    rw [ih (i := i + 1) (fun j t hj => by have := h (j + 1) t (by simpa using hj); rw [← this]; congr 1; omega), at_put]
    have h0 := h 0 a (by simp)
    rw [Nat.add_zero] at h0
    by_cases ht : t ∈ ts
    · rw [if_pos ht, if_pos (by simp [ht])]
    · rw [if_neg ht]
      by_cases ha : a = t
      · subst ha; rw [if_pos rfl, h0, if_pos (by simp)]
      · rw [if_neg ha, if_neg]
        rintro hm
        rcases List.mem_cons.1 hm with h1 | h1
        · exact ha h1.symm
        · exact ht h1
theorem putsL_ats (e e' : Env) (ts : List Nat) (t : Nat) : (putsL e (ats e' ts) 0 ts).at t = if t ∈ ts then e'.at t else e.at t :=
  putsL_at (fun j t hj => by rw [Nat.zero_add, ats_get, hj]) t

theorem WC_ok (hA : PrimGrow A) : ∀ {c : ACode} {N S : Nat} {e : Env} {h : AHeap} {Q : KC}, Ins N S Q → WC A c N S e h Q → wpC A c e h Q := by
  intro c
  induction c with
  | skip => intro N S e h Q _ hw; exact wpC_skip hw
  | region ops => intro N S e h Q _ hw; exact wpC_region (WO_ok hw)
  | draw ops => intro N S e h Q _ hw; exact wpC_draw (WD_ok hA hw)
  | seq a b iha ihb =>
    intro N S e h Q hi hw
    simp only [WC] at hw
    cases hb : Nat.ble 2 (cnt a).1 with
    | true =>
      rw [hb] at hw
      have hw' := WC_mono (Q' := seqK (fun e' h' => wpC A b (putsL e (ats e' (slotsOf (defs a &&& live b N S))) 0 (slotsOf (defs a &&& live b N S))) h' Q) Q) (seqK_mono (fun e h => ihb hi) (fun _ _ _ h => h)) hw
      have hins : Ins (live b N S) S (seqK (fun e' h' => wpC A b (putsL e (ats e' (slotsOf (defs a &&& live b N S))) 0 (slotsOf (defs a &&& live b N S))) h' Q) Q) := by
        intro x e1 e2 h1 ha hq
        cases x with
        | normal =>
          have : ats e1 (slotsOf (defs a &&& live b N S)) = ats e2 (slotsOf (defs a &&& live b N S)) := ats_congr fun t ht => ha t (by
            have := mem_slotsOf.1 ht
            rw [Nat.testBit_and, Bool.and_eq_true] at this
            exact this.2)
          simp only [seqK] at hq ⊢
          rw [← this]; exact hq
        | exit i => exact hi _ _ _ _ ha hq
        | ret => exact hi _ _ _ _ ha hq
      obtain ⟨n, x, e1, h1, k1, k2⟩ := iha hins hw'
      refine wpC_seq ⟨n, x, e1, h1, k1, ?_⟩
      cases x with
      | normal =>
        refine wpC_agree hi (fun t ht => ?_) k2
        rw [putsL_ats]
        split
        · rfl
        · rename_i hm
          rw [mem_slotsOf, Nat.testBit_and, ht, Bool.and_true] at hm
          exact (evCode_defs (by simpa using hm) k1).symm
      | exit i => exact k2
      | ret => exact k2
    | false =>
      rw [hb] at hw
      have hw' := WC_mono (Q' := seqK (fun e' h' => wpC A b e' h' Q) Q) (seqK_mono (fun e h => ihb hi) (fun _ _ _ h => h)) hw
      have hins : Ins (live b N S) S (seqK (fun e' h' => wpC A b e' h' Q) Q) := by
        intro x e1 e2 h1 ha hq
        cases x with
        | normal => exact wpC_agree hi ha hq
        | exit i => exact hi _ _ _ _ ha hq
        | ret => exact hi _ _ _ _ ha hq
      obtain ⟨n, x, e1, h1, k1, k2⟩ := iha hins hw'
      refine wpC_seq ⟨n, x, e1, h1, k1, ?_⟩
      cases x <;> exact k2
  | cond c a b iha ihb =>
    intro N S e h Q hi hw
    obtain ⟨t, h1, h2, h3⟩ := hw
    exact wpC_cond h1 (fun k => iha hi (h2 k)) (fun k => ihb hi (h3 k))
  | block id b ih =>
    intro N S e h Q hi hw
    have hins : Ins N (S ||| N) (blockK id Q) := by
      intro x e1 e2 h1 ha hq
      cases x with
      | normal => exact hi _ _ _ _ ha hq
      | exit i =>
        simp only [blockK] at hq ⊢
        cases hb : Nat.beq i id with
        | true => rw [hb] at hq; exact hi .normal _ _ _ ha.r hq
        | false => rw [hb] at hq; exact hi (.exit i) _ _ _ ha.l hq
      | ret => exact hi .ret _ _ _ ha.l hq
    refine wpC_block ((ih hins hw).mono fun x e h hq => ?_)
    cases x with
    | normal => exact hq
    | exit i =>
      simp only [blockK, blockQ] at hq ⊢
      by_cases hb : i = id
      · rw [hb, show Nat.beq id id = true by simp] at hq; rw [if_pos hb]; exact hq
      · rw [show Nat.beq i id = false by (cases hc : Nat.beq i id with | false => rfl | true => exact absurd (Nat.eq_of_beq_eq_true hc) hb)] at hq; rw [if_neg hb]; exact hq
    | ret => exact hq
  | loop b ih =>
    intro N S e h Q hi hw
    obtain ⟨I, k, h1, h2⟩ := hw
    refine wpC_loop (fun k e' h => ∃ l, I k l h ∧ Agree (live b 0 S) (putsL e l 0 (slotsOf (defs b &&& live b 0 S))) e') ?_ ⟨_, h1, fun t _ => by rw [putsL_ats]; split <;> rfl⟩
    clear h1 h k
    intro k e' h hI
    obtain ⟨l, h1, h3⟩ := hI
    have hw := h2 k l h h1
    have hins : Ins (live b 0 S) S (seqK (fun e' h'' => ∃ j, j < k ∧ I j (ats e' (slotsOf (defs b &&& live b 0 S))) h'') Q) := by
      intro x e1 e2 h1 ha hq
      cases x with
      | normal =>
        have : ats e1 (slotsOf (defs b &&& live b 0 S)) = ats e2 (slotsOf (defs b &&& live b 0 S)) := ats_congr fun t ht => ha t (by
          have := mem_slotsOf.1 ht
          rw [Nat.testBit_and, Bool.and_eq_true] at this
          exact this.2)
        simp only [seqK] at hq ⊢
        rw [← this]; exact hq
      | exit i => exact hi (.exit i) _ _ _ ha hq
      | ret => exact hi .ret _ _ _ ha hq
    obtain ⟨n, x, e1, h4, k1, k2⟩ := ih hins hw
    obtain ⟨e2, k3, k4⟩ := evCode_agree (h3.sub fun t ht => live_loop ht) k1
    refine ⟨n, x, e2, h4, k3, ?_⟩
    cases x with
    | normal =>
      obtain ⟨j, hj, hI⟩ := k2
      refine ⟨j, hj, _, hI, fun t ht => ?_⟩
      rw [putsL_ats]
      split
      · exact k4 t ht
      · rename_i hm
        rw [mem_slotsOf, Nat.testBit_and, ht, Bool.and_true] at hm
        rw [← k4 t ht, evCode_defs (by simpa using hm) k1]
        have hz : t ∉ slotsOf (defs b &&& live b 0 S) := by rw [mem_slotsOf, Nat.testBit_and, ht, Bool.and_true]; exact hm
        clear k1 k3 k4 hw h2 h3
        revert hz
        generalize slotsOf (defs b &&& live b 0 S) = ts
        intro hz
        have : ∀ (ts : List Nat) (e : Env) (i : Nat), t ∉ ts → (putsL e l i ts).at t = e.at t := by
          intro ts
          induction ts with
          | nil => intro e i _; rfl
          | cons a ts ih2 =>
            intro e i hn
            simp only [putsL]
            rw [ih2 _ _ (fun h => hn (by simp [h])), at_put, if_neg (fun h => hn (by simp [h]))]
        exact (this ts e 0 hz).symm
    | exit i => exact hi (.exit i) _ _ _ k4 k2
    | ret => exact hi .ret _ _ _ k4 k2
  | exit id => intro N S e h Q _ hw; exact wpC_exit hw
  | ret => intro N S e h Q _ hw; exact wpC_ret hw
  | bad => intro N S e h Q _ hw; exact hw.elim

theorem WRes_ok : ∀ {rs : List ARes} {e : Env} {h : AHeap} {k : List Value → Prop}, WRes rs e h k → ∃ vs, (vs.all (fun v => !isTup v) = true → evRes e h rs = some vs) ∧ k vs := by
  intro rs
  induction rs with
  | nil => intro e h k hw; exact ⟨[], fun _ => rfl, hw⟩
  | cons r rs ih =>
    intro e h k hw
    cases r with
    | tmp t =>
      obtain ⟨vs, h1, h2⟩ := ih hw
      refine ⟨_, fun ht => ?_, h2⟩
      simp only [List.all_cons, Bool.and_eq_true, Bool.not_eq_true'] at ht
      simp only [evRes, ARes.ev, h1 ht.2, ht.1]; rfl
    | cell g n a =>
      obtain ⟨v, h3, hw⟩ := hw
      obtain ⟨vs, h1, h2⟩ := ih hw
      refine ⟨_, fun ht => ?_, h2⟩
      simp only [List.all_cons, Bool.and_eq_true, Bool.not_eq_true'] at ht
      simp only [evRes, ARes.ev, h3, h1 ht.2, ht.1]; rfl

theorem WRes_agree : ∀ {rs : List ARes} {e e' : Env} {h : AHeap} {k : List Value → Prop}, Agree (resM rs) e e' → WRes rs e h k → WRes rs e' h k := by
  intro rs
  induction rs with
  | nil => intro e e' h k _ hw; exact hw
  | cons r rs ih =>
    intro e e' h k ha hw
    cases r with
    | tmp t => simp only [WRes, ← ha.l t (bit_self t)] at hw ⊢; exact ih ha.r hw
    | cell g n a =>
      simp only [WRes] at hw ⊢
      rw [← evP_congr (e := e) (e' := e') (by intro y hy; simp only [POp.opds, List.mem_singleton] at hy; subst hy; exact ha.l a (bit_self a))]
      exact P.mono (fun v => ih ha.r) hw

theorem endW_ins (rs : List ARes) (K : VK) : Ins (resM rs) (resM rs) (endW rs K) := by
  intro x e e' h ha hq
  cases x with
  | normal => exact WRes_agree ha hq
  | exit i => exact hq
  | ret => exact WRes_agree ha hq

/-- A call, by its code. -/
theorem ens_of (hA : PrimGrow A) {F : FuncId} {fn : AFunc} {args : List Value} {h : AHeap} {K : VK} (hp : A.prim F = none) (hf : A.fn.get F = some fn) (hl : Nat.ble args.length fn.ntmps = true) (hw : WF A fn args h K) : Ensures A F args h K := by
  refine ans_of hp hf (Nat.le_of_ble_eq_true hl) ((WC_ok hA (endW_ins _ _) hw).mono fun x e h hq => ?_)
  cases x with
  | exit i => exact hq
  | normal => obtain ⟨vs, h1, h2, h3⟩ := WRes_ok hq; exact ⟨vs, h1 h2, h3⟩
  | ret => obtain ⟨vs, h1, h2, h3⟩ := WRes_ok hq; exact ⟨vs, h1 h2, h3⟩
end
end Go.Proofs.PantryEng

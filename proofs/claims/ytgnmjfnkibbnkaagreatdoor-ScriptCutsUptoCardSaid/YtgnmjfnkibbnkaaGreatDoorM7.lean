/- The engine, part 12: slices of slices; from a law's arguments to its answer. -/
import Derived.Test.YtgnmjfnkibbnkaaGreatDoorM1
import Derived.Test.YtgnmjfnkibbnkaaGreatDoorM6
import Derived.ChangeArms
import Derived.DataReads
import Derived.Below
set_option linter.unusedSimpArgs false
set_option linter.unusedVariables false
namespace Go.Proofs.PantryEng
open Go

/-- The number that is in an error: of none 0. -/
def numOf (tE tF : Nat) (h : AHeap) : Value → Option Int
  | .nilIface => some 0
  | .iface t (.int .i64 n) => if t = tE then some n else none
  | .iface t (.pointer (some ⟨b, o, none⟩)) => if t = tF then (match h.cell b o with | some (.int .i64 n) => some n | _ => none) else none
  | _ => none
def primIs (tE tF : Nat) : List Value → AHeap → Option (Value × AHeap)
  | [x, .iface t (.int .i64 n)], h => if t = tE then (match x with | .nilIface => some (.bool false, h) | x => (numOf tE tF h x).map fun m => (.bool (m == n), h)) else none
  | _, _ => none
/-- The first block, as the program's text lays it: the type of errors. -/
def tokOK (tR tErr : Nat) (h : AHeap) : Bool :=
  match h.get 0 with
  | some (.ro [.complex _ a b]) => Nat.beq a tR && Nat.beq b (65536 + tErr)
  | _ => false
def primNum (tE tF tR tErr : Nat) : List Value → AHeap → Option (Value × AHeap)
  | [x], h => if tokOK tR tErr h then (numOf tE tF h x).map fun m => (.int .i64 m, h) else none
  | _, _ => none
def intsOf : List Value → Option (List Int)
  | [] => some []
  | .int .i64 n :: vs => (intsOf vs).map (n :: ·)
  | _ => none
def sliceInts (h : AHeap) : Value → Option (List Int)
  | .slice none _ _ => some []
  | .slice (some ⟨b, o, none⟩) n _ => (h.cellsAt b o n).bind intsOf
  | _ => none
def turnOf (threads t : Int) : List Int :=
  (List.range threads.toNat).map fun (k : Nat) => (t.emod threads + (if t.emod 2 = 0 then (k : Int) else threads - (k : Int))).emod threads
def turnsL (threads : Int) (ts : List Int) : List Int :=
  (if ts.isEmpty then [0] else ts).flatMap (turnOf threads)
def primTurns : List Value → AHeap → Option (Value × AHeap)
  | [.int .i64 n, s], h =>
    match sliceInts h s with
    | some ts => if n < 1 ∨ n > 64 ∨ ts.length > 4096 then some (.slice none 0 0, h) else some (.slice (some ⟨h.next, 0, none⟩) (turnsL n ts).length 2, h.new (.cells ((turnsL n ts).map (.int .i64))))
    | none => none
  | _, _ => none
/-- The places of a number, from one on; the longest row without it. -/
def gapsGo (t : Int) : List Int → Nat → Nat → Nat
  | [], run, most => max run most
  | x :: xs, run, most => if x = t then gapsGo t xs 0 (max run most) else gapsGo t xs (run + 1) most
def longestL (l : List Int) (threads : Int) : Nat :=
  if (List.range threads.toNat).all (fun (t : Nat) => l.contains (t : Int)) then (List.range threads.toNat).foldl (fun m (t : Nat) => max m (gapsGo t l 0 0)) 0 else l.length
def primLong : List Value → AHeap → Option (Value × AHeap)
  | [s, .int .i64 n], h => (sliceInts h s).map fun l => (.int .i64 (longestL l n), h)
  | _, _ => none

end Go.Proofs.PantryEng
namespace Go.Proofs.PantryEng
open Go

/-! ### more fuel -/
def CallLe (c c' : CallF) : Prop := ∀ F args h r, c F args h = some r → c' F args h = some r

section
variable {tbl : List (List (TypeId × FuncId))} {call call' : CallF}

theorem evE_mono (hc : CallLe call call') {e : Env} {h : AHeap} {q : EOp} {r : Value × AHeap} (hr : evE tbl call e h q = some r) : evE tbl call' e h q = some r := by
  cases q with
  | call c as =>
    cases c with
    | value f =>
      simp only [evE] at hr ⊢
      split at hr
      · exact hc _ _ _ _ hr
      · simp at hr
    | invoke x m =>
      simp only [evE] at hr ⊢
      split at hr
      · split at hr
        · exact hc _ _ _ _ hr
        · simp at hr
      · simp at hr
  | _ => exact hr

theorem evOp_mono (hc : CallLe call call') {e : Env} {h : AHeap} {q : AOp} {r : Value × AHeap} (hr : evOp tbl call e h q = some r) : evOp tbl call' e h q = some r := by
  cases q with
  | e q => exact evE_mono hc hr
  | _ => exact hr

theorem evOps_mono (hc : CallLe call call') : ∀ {l : List AOper} {e : Env} {h : AHeap} {r : Env × AHeap}, evOps tbl call l e h = some r → evOps tbl call' l e h = some r := by
  intro l
  induction l with
  | nil => intro e h r hr; exact hr
  | cons o l ih =>
    intro e h r hr
    simp only [evOps] at hr ⊢
    cases hw : wantedA o e with
    | true =>
      rw [hw] at hr
      simp only [cond_true] at hr ⊢
      cases ho : evOp tbl call e h o.op with
      | none => rw [ho] at hr; simp at hr
      | some x =>
        rw [ho] at hr
        rw [evOp_mono hc ho]
        exact ih hr
    | false =>
      rw [hw] at hr
      simp only [cond_false] at hr ⊢
      exact ih hr

theorem evStep_mono (hc : CallLe call call') {o : AOper} {e : Env} {h : AHeap} {r : Value × AHeap} (hr : evStep tbl call o e h = some r) : evStep tbl call' o e h = some r := by
  unfold evStep at *
  cases hw : wantedA o e with
  | true => rw [hw] at hr; exact evOp_mono hc hr
  | false => rw [hw] at hr; exact hr

theorem evDraw_mono (hc : CallLe call call') : ∀ {l : List (AOper × List Nat)} {e : Env} {h : AHeap} {s : List AHeap} {r : Env × AHeap}, evDraw tbl call l e h s = some r → evDraw tbl call' l e h s = some r := by
  intro l
  induction l with
  | nil => intro e h s r hr; exact hr
  | cons o l ih =>
    obtain ⟨o, back⟩ := o
    intro e h s r hr
    simp only [evDraw] at hr ⊢
    cases ho : evStep tbl call o e h with
    | none => rw [ho] at hr; simp at hr
    | some x =>
      obtain ⟨v, h'⟩ := x
      rw [ho] at hr
      rw [evStep_mono hc ho]
      simp only at hr ⊢
      cases hb : (Nat.ble h.next h'.next && steady e o v s (bif wantedA o e then back else [])) with
      | false => rw [hb] at hr; simp at hr
      | true => rw [hb] at hr; simp only [cond_true] at hr ⊢; exact ih hr

theorem loopN_mono {f g : Env → AHeap → Outc} (hfg : ∀ e h r, f e h = some r → g e h = some r) : ∀ {n m : Nat} {e : Env} {h : AHeap} {r : AExit × Env × AHeap}, n ≤ m → loopN f n e h = some r → loopN g m e h = some r := by
  intro n
  induction n with
  | zero => intro m e h r _ hr; simp [loopN] at hr
  | succ n ih =>
    intro m e h r hm hr
    cases m with
    | zero => omega
    | succ m =>
      simp only [loopN] at hr ⊢
      cases hb : f e h with
      | none => rw [hb] at hr; simp at hr
      | some x =>
        obtain ⟨y, e1, h1⟩ := x
        rw [hb] at hr
        rw [hfg _ _ _ hb]
        cases y with
        | normal => exact ih (by omega) hr
        | exit i => exact hr
        | ret => exact hr

theorem evCode_mono (hc : CallLe call call') {n m : Nat} (hnm : n ≤ m) : ∀ {c : ACode} {e : Env} {h : AHeap} {r : AExit × Env × AHeap}, evCode tbl call n c e h = some r → evCode tbl call' m c e h = some r := by
  intro c
  induction c with
  | skip => intro e h r hr; exact hr
  | region ops =>
    intro e h r hr
    simp only [evCode] at hr ⊢
    cases ho : evOps tbl call ops e h with
    | none => rw [ho] at hr; simp at hr
    | some x => rw [ho] at hr; rw [evOps_mono hc ho]; exact hr
  | draw ops =>
    intro e h r hr
    simp only [evCode] at hr ⊢
    cases ho : evDraw tbl call ops e h [] with
    | none => rw [ho] at hr; simp at hr
    | some x => rw [ho] at hr; rw [evDraw_mono hc ho]; exact hr
  | seq a b iha ihb =>
    intro e h r hr
    simp only [evCode] at hr ⊢
    cases ha : evCode tbl call n a e h with
    | none => rw [ha] at hr; simp at hr
    | some x =>
      obtain ⟨y, e1, h1⟩ := x
      rw [ha] at hr
      rw [iha ha]
      cases y with
      | normal => exact ihb hr
      | exit i => exact hr
      | ret => exact hr
  | cond c a b iha ihb =>
    intro e h r hr
    simp only [evCode] at hr ⊢
    split at hr
    · rename_i h1; first | (simp only [h1]; exact iha hr) | exact iha hr
    · rename_i h1; first | (simp only [h1]; exact ihb hr) | exact ihb hr
    · simp at hr
  | block id b ih =>
    intro e h r hr
    simp only [evCode] at hr ⊢
    cases hb : evCode tbl call n b e h with
    | none => rw [hb] at hr; simp at hr
    | some x => rw [hb] at hr; rw [ih hb]; exact hr
  | loop b ih =>
    intro e h r hr
    simp only [evCode] at hr ⊢
    exact loopN_mono (fun e h r hr => ih hr) hnm hr
  | exit id => intro e h r hr; exact hr
  | ret => intro e h r hr; exact hr
  | bad => intro e h r hr; simp [evCode] at hr

theorem evCall_mono {A : AProg} : ∀ {n m : Nat}, n ≤ m → CallLe (evCall A n) (evCall A m) := by
  intro n
  induction n with
  | zero => intro m _ F args h r hr; simp [evCall] at hr
  | succ n ih =>
    intro m hm F args h r hr
    cases m with
    | zero => omega
    | succ m =>
      have hle : n ≤ m := by omega
      simp only [evCall] at hr ⊢
      split at hr
      · rename_i p hp; first | (simp only [hp]; exact hr) | exact hr
      · rename_i hp
        try simp only [hp]
        split at hr
        · rename_i fn hf
          try simp only [hf]
          split at hr
          · rename_i hlen
            rw [if_pos hlen]
            unfold evBody at hr ⊢
            cases hb : evCode A.tbl (evCall A n) n fn.body (argsEnv 0 args .nil) h with
            | none => rw [hb] at hr; simp at hr
            | some x => rw [hb] at hr; rw [evCode_mono (ih hle) hle hb]; exact hr
          · simp at hr
        · simp at hr
end

/-! ### rules -/
section
variable (A : AProg)
/-- A call answers. -/
def Ans (F : FuncId) (args : List Value) (h : AHeap) (r : Value) (h' : AHeap) : Prop := ∃ n, evCall A n F args h = some (r, h')
/-- Code ends so that Q. -/
def wpC (c : ACode) (e : Env) (h : AHeap) (Q : AExit → Env → AHeap → Prop) : Prop := ∃ n x e' h', evCode A.tbl (evCall A n) n c e h = some (x, e', h') ∧ Q x e' h'
def wpO (l : List AOper) (e : Env) (h : AHeap) (K : Env → AHeap → Prop) : Prop := ∃ n e' h', evOps A.tbl (evCall A n) l e h = some (e', h') ∧ K e' h'
def wpD (l : List (AOper × List Nat)) (e : Env) (h : AHeap) (s : List AHeap) (K : Env → AHeap → Prop) : Prop := ∃ n e' h', evDraw A.tbl (evCall A n) l e h s = some (e', h') ∧ K e' h'
/-- One operation. -/
def wpP (q : AOp) (e : Env) (h : AHeap) (K : Value → AHeap → Prop) : Prop := ∃ n v h', evOp A.tbl (evCall A n) e h q = some (v, h') ∧ K v h'
end

section
variable {A : AProg} {e : Env} {h : AHeap} {Q Q' : AExit → Env → AHeap → Prop} {K K' : Env → AHeap → Prop}

theorem wpC.mono {c : ACode} (hc : wpC A c e h Q) (hq : ∀ x e h, Q x e h → Q' x e h) : wpC A c e h Q' := by
  obtain ⟨n, x, e', h', h1, h2⟩ := hc
  exact ⟨n, x, e', h', h1, hq _ _ _ h2⟩

theorem wpC_skip (hq : Q .normal e h) : wpC A .skip e h Q := ⟨0, _, _, _, rfl, hq⟩
theorem wpC_exit {i : Nat} (hq : Q (.exit i) e h) : wpC A (.exit i) e h Q := ⟨0, _, _, _, rfl, hq⟩
theorem wpC_ret (hq : Q .ret e h) : wpC A .ret e h Q := ⟨0, _, _, _, rfl, hq⟩
theorem wpC_region {l : List AOper} (ho : wpO A l e h (Q .normal)) : wpC A (.region l) e h Q := by
  obtain ⟨n, e', h', h1, h2⟩ := ho
  exact ⟨n, .normal, e', h', by simp only [evCode, h1, Option.map_some], h2⟩
theorem wpC_draw {l : List (AOper × List Nat)} (ho : wpD A l e h [] (Q .normal)) : wpC A (.draw l) e h Q := by
  obtain ⟨n, e', h', h1, h2⟩ := ho
  exact ⟨n, .normal, e', h', by simp only [evCode, h1, Option.map_some], h2⟩

/-- What comes next. -/
def seqQ (A : AProg) (b : ACode) (Q : AExit → Env → AHeap → Prop) : AExit → Env → AHeap → Prop
  | .normal, e, h => wpC A b e h Q
  | x, e, h => Q x e h

theorem wpC_seq {a b : ACode} (ha : wpC A a e h (seqQ A b Q)) : wpC A (.seq a b) e h Q := by
  obtain ⟨n, x, e1, h1, k1, k2⟩ := ha
  cases x with
  | normal =>
    obtain ⟨m, y, e2, h2, k3, k4⟩ := k2
    refine ⟨max n m, y, e2, h2, ?_, k4⟩
    simp only [evCode, evCode_mono (evCall_mono (Nat.le_max_left n m)) (Nat.le_max_left n m) k1]
    exact evCode_mono (evCall_mono (Nat.le_max_right n m)) (Nat.le_max_right n m) k3
  | exit i => exact ⟨n, .exit i, e1, h1, by simp only [evCode, k1], k2⟩
  | ret => exact ⟨n, .ret, e1, h1, by simp only [evCode, k1], k2⟩

theorem wpC_cond {c : Opd} {a b : ACode} {t : Bool} (hc : c.ev e = .bool t) (ha : t = true → wpC A a e h Q) (hb : t = false → wpC A b e h Q) : wpC A (.cond c a b) e h Q := by
  cases t with
  | true =>
    obtain ⟨n, x, e1, h1, k1, k2⟩ := ha rfl
    exact ⟨n, x, e1, h1, by simp only [evCode, hc, k1], k2⟩
  | false =>
    obtain ⟨n, x, e1, h1, k1, k2⟩ := hb rfl
    exact ⟨n, x, e1, h1, by simp only [evCode, hc, k1], k2⟩

def blockQ (id : Nat) (Q : AExit → Env → AHeap → Prop) : AExit → Env → AHeap → Prop
  | .exit i, e, h => if i = id then Q .normal e h else Q (.exit i) e h
  | x, e, h => Q x e h

theorem wpC_block {id : Nat} {b : ACode} (hb : wpC A b e h (blockQ id Q)) : wpC A (.block id b) e h Q := by
  obtain ⟨n, x, e1, h1, k1, k2⟩ := hb
  cases x with
  | normal => exact ⟨n, .normal, e1, h1, by simp only [evCode, k1], k2⟩
  | exit i =>
    by_cases hi : i = id
    · simp only [blockQ, hi, if_true] at k2
      exact ⟨n, .normal, e1, h1, by simp only [evCode, k1, hi, if_true], k2⟩
    · simp only [blockQ, hi, if_false] at k2
      exact ⟨n, .exit i, e1, h1, by simp only [evCode, k1, hi, if_false], k2⟩
  | ret => exact ⟨n, .ret, e1, h1, by simp only [evCode, k1], k2⟩

def loopQ (next : Env → AHeap → Prop) (Q : AExit → Env → AHeap → Prop) : AExit → Env → AHeap → Prop
  | .normal, e, h => next e h
  | x, e, h => Q x e h

theorem wpC_loop {b : ACode} (I : Nat → Env → AHeap → Prop) (hr : ∀ k e h, I k e h → wpC A b e h (loopQ (fun e h => ∃ j, j < k ∧ I j e h) Q)) {k : Nat} (h0 : I k e h) : wpC A (.loop b) e h Q := by
  have key : ∀ k e h, I k e h → ∃ n x e' h', (∃ m, n ≤ m ∧ loopN (evCode A.tbl (evCall A n) n b) m e h = some (x, e', h')) ∧ Q x e' h' := by
    intro k
    induction k using Nat.strongRecOn with
    | ind k ih =>
      intro e h hi
      obtain ⟨n, x, e1, h1, k1, k2⟩ := hr k e h hi
      cases x with
      | normal =>
        obtain ⟨j, hj, hi'⟩ := k2
        obtain ⟨n2, y, e2, h2, ⟨m, hm, k3⟩, k4⟩ := ih j hj e1 h1 hi'
        refine ⟨max n n2, y, e2, h2, ⟨max (max n n2) m + 1, by omega, ?_⟩, k4⟩
        simp only [loopN, evCode_mono (evCall_mono (Nat.le_max_left n n2)) (Nat.le_max_left n n2) k1]
        exact loopN_mono (fun e h r hr => evCode_mono (evCall_mono (Nat.le_max_right n n2)) (Nat.le_max_right n n2) hr) (by omega) k3
      | exit i => exact ⟨n, .exit i, e1, h1, ⟨n + 1, by omega, by simp only [loopN, k1]⟩, k2⟩
      | ret => exact ⟨n, .ret, e1, h1, ⟨n + 1, by omega, by simp only [loopN, k1]⟩, k2⟩
  obtain ⟨n, x, e', h', ⟨m, hm, k1⟩, k2⟩ := key k e h h0
  refine ⟨m, x, e', h', ?_, k2⟩
  simp only [evCode]
  exact loopN_mono (fun e h r hr => evCode_mono (evCall_mono hm) hm hr) (Nat.le_refl _) k1

theorem wpO_nil (hk : K e h) : wpO A [] e h K := ⟨0, _, _, rfl, hk⟩

theorem wpO_cons {o : AOper} {l : List AOper} (hw : wantedA o e = true) (ho : wpP A o.op e h fun v h' => wpO A l (e.put o.dst v) h' K) : wpO A (o :: l) e h K := by
  obtain ⟨n, v, h1, k1, m, e2, h2, k2, k3⟩ := ho
  refine ⟨max n m, e2, h2, ?_, k3⟩
  simp only [evOps, hw, cond_true, evOp_mono (evCall_mono (Nat.le_max_left n m)) k1]
  exact evOps_mono (evCall_mono (Nat.le_max_right n m)) k2

theorem wpO_skip {o : AOper} {l : List AOper} (hw : wantedA o e = false) (ho : wpO A l (e.put o.dst noValue) h K) : wpO A (o :: l) e h K := by
  obtain ⟨n, e2, h2, k2, k3⟩ := ho
  refine ⟨n, e2, h2, ?_, k3⟩
  simp only [evOps, hw, cond_false, k2]

theorem wpP_p {q : POp} {v : Value} {K : Value → AHeap → Prop} (hq : evP e h q = some v) (hk : K v h) : wpP A (.p q) e h K := ⟨0, v, h, by simp [evOp, hq], hk⟩
theorem wpP_l {q : LOp} {ob : AObj} {mk : Nat → Value} {K : Value → AHeap → Prop} (hq : evL e q = some (ob, mk)) (hk : K (mk h.next) (h.new ob)) : wpP A (.l q) e h K := ⟨0, _, _, by simp [evOp, hq], hk⟩
theorem wpP_e {q : EOp} {v : Value} {h' : AHeap} {K : Value → AHeap → Prop} (hq : evE A.tbl (evCall A 0) e h q = some (v, h')) (hk : K v h') : wpP A (.e q) e h K := ⟨0, v, h', hq, hk⟩
theorem wpP_call {x : Opd} {as : List Opd} {F : FuncId} {first cap : List Value} {v : Value} {h' : AHeap} {K : Value → AHeap → Prop} (hx : x.ev e = .func (.func F) ⟨first⟩ ⟨cap⟩)
    (ha : Ans A F (first ++ as.map (·.ev e) ++ cap) h v h') (hk : K v h') : wpP A (.e (.call (.value x) as)) e h K := by
  obtain ⟨n, hn⟩ := ha
  exact ⟨n, v, h', by simp only [evOp, evE, hx, hn], hk⟩
theorem wpP_invoke {x : Opd} {m : Nat} {as : List Opd} {t : TypeId} {F : FuncId} {u v : Value} {h' : AHeap} {K : Value → AHeap → Prop} (hx : x.ev e = .iface t u) (hm : (A.tbl.getD m []).lookup t = some F)
    (ha : Ans A F (u :: as.map (·.ev e)) h v h') (hk : K v h') : wpP A (.e (.call (.invoke x m) as)) e h K := by
  obtain ⟨n, hn⟩ := ha
  exact ⟨n, v, h', by simp only [evOp, evE, hx, hm, hn], hk⟩

/-- A call, by its code. -/
def endQ (rs : List ARes) (R : Value → AHeap → Prop) : AExit → Env → AHeap → Prop
  | .exit _, _, _ => False
  | _, e, h => ∃ vs, evRes e h rs = some vs ∧ R (packV vs) h

theorem ans_of {F : FuncId} {fn : AFunc} {args : List Value} {R : Value → AHeap → Prop} (hp : A.prim F = none) (hf : A.fn.get F = some fn) (hl : args.length ≤ fn.ntmps)
    (hw : wpC A fn.body (argsEnv 0 args .nil) h (endQ fn.results R)) : ∃ r h', Ans A F args h r h' ∧ R r h' := by
  obtain ⟨n, x, e', h', k1, k2⟩ := hw
  have : x = .normal ∨ x = .ret := by cases x <;> simp [endQ] at k2 ⊢
  have k2' : ∃ vs, evRes e' h' fn.results = some vs ∧ R (packV vs) h' := by
    rcases this with rfl | rfl <;> exact k2
  obtain ⟨vs, k3, k4⟩ := k2'
  refine ⟨_, _, ⟨n + 1, ?_⟩, k4⟩
  simp only [evCall, hp, hf, hl, if_true, evBody, k1]
  rcases this with rfl | rfl <;> simp [k3]

theorem ans_prim {F : FuncId} {p : List Value → AHeap → Option (Value × AHeap)} {args : List Value} {r : Value} {h' : AHeap} (hp : A.prim F = some p) (hr : p args h = some (r, h')) : Ans A F args h r h' :=
  ⟨1, by simp only [evCall, hp, hr]⟩
end
end Go.Proofs.PantryEng
namespace Go.Proofs.PantryEng
open Go Go.RowKit

section
variable {H : Type} {enc : TypeId × Value → H} {P : Program} {w : World} {spare : Nat → Bool} {held : Bool}

def ints (k : IntKind) (zs : List Int) : List Value := zs.map (.int k)

/-- A type all of whose cells are whole numbers of a kind. -/
def Flat (P : Program) (k : IntKind) (e : TypeId) : Prop :=
  ∀ (H : Type) (enc : TypeId × Value → H) (w : World) (spare : Nat → Bool) (held : Bool) (fuel : Nat) (cs : List Value) x, DataW.trod enc P w 0 spare held fuel e cs = some x → ∃ zs, cs = ints k zs ∧ zs.length = P.cellsOf e ∧ ∀ z ∈ zs, (Lit.int k z).wf = true

theorem flat_int {k : IntKind} {e : TypeId} (he : P.underlying e = some (.int k)) (hc : P.cellsOf e = 1) : Flat P k e := by
  intro H enc w spare held fuel cs x h
  obtain ⟨n, rfl, _, hw⟩ := DataW.trod_int he h
  exact ⟨[n], rfl, by rw [hc]; rfl, by simpa using hw⟩

theorem flat_struct {k : IntKind} {e : TypeId} {fs : Array Field} (he : P.underlying e = some (.struct fs)) (hn : P.cellsOf e = fs.size) (hf : ∀ (i : Nat) (f : Field), fs[i]? = some f → f.offset = i ∧ P.underlying f.type = some (.int k) ∧ P.cellsOf f.type = 1) : Flat P k e := by
  intro H enc w spare held fuel cs x h
  obtain ⟨xs, n, rfl, rfl, h1, h2, h3⟩ := DataW.trod_struct he h
  have key : ∀ (i : Nat) v, cs[i]? = some v → ∃ z, v = .int k z ∧ (Lit.int k z).wf = true := by
    intro i v hv
    have hi : i < cs.length := (List.getElem?_eq_some_iff.1 hv).1
    have hi' : i < fs.size := by omega
    obtain ⟨ho, hu, hc⟩ := hf i fs[i] (by simp [hi'])
    have h4 := h3 i fs[i] (by simp [hi'])
    have hx : i < xs.length := by omega
    rw [List.getElem?_eq_getElem hx, ho, hc] at h4
    obtain ⟨z, h5, _, h6⟩ := DataW.trod_int hu h4
    refine ⟨z, ?_, h6⟩
    have : (List.take 1 (List.drop i cs))[0]? = some v := by simp [List.getElem?_take, List.getElem?_drop, hv]
    rw [h5] at this
    simpa using this.symm
  refine ⟨cs.map fun v => match v with | .int _ z => z | _ => 0, ?_, by rw [List.length_map, h1], ?_⟩
  · apply List.ext_getElem?
    intro i
    simp only [ints, List.getElem?_map]
    cases hv : cs[i]? with
    | none => rfl
    | some v => obtain ⟨z, rfl, _⟩ := key i v hv; rfl
  · intro z hz
    simp only [List.mem_map] at hz
    obtain ⟨v, hv, rfl⟩ := hz
    obtain ⟨i, hi⟩ := List.getElem?_of_mem hv
    obtain ⟨z, rfl, hw⟩ := key i v hi
    exact hw

/-- A slice of such elements, as the world has it. -/
def SliceW (w : World) (k : IntKind) (size : Nat) (zs : List Int) : Value → Prop
  | .slice none 0 0 => zs = []
  | .slice (some a) len cap => len ≤ cap ∧ zs.length = len * size ∧ (zs ≠ [] → a.spot = none) ∧ ∀ i z, zs[i]? = some z → w.cell? ⟨a.block, a.off + i, none⟩ = some (.int k z)
  | _ => False

theorem cell_spot {w : World} {a : Addr} {n : Nat} {v : Value} (h : w.cell? (a.add n) = some v) : w.cell? ⟨a.block, a.off + n, none⟩ = some v := by
  unfold Addr.add at h
  split at h
  · rename_i h0
    subst h0
    obtain ⟨b, o, s⟩ := a
    cases s with
    | none => exact h
    | some s =>
      unfold World.cell? at h
      split at h <;> simp at h
  · exact h

theorem spot_none {w : World} {a : Addr} {v : Value} (h : w.cell? a = some v) : a.spot = none := by
  unfold World.cell? at h
  split at h
  · split at h
    · simp at h
    · rename_i h1; simpa using h1
  · simp at h

theorem add_add_cell {w : World} {a : Addr} {n m : Nat} {v : Value} (h : w.cell? ((a.add n).add m) = some v) : w.cell? ⟨a.block, a.off + (n + m), none⟩ = some v := by
  have h1 := cell_spot h
  have e1 : (a.add n).block = a.block := by unfold Addr.add; split <;> rfl
  have e2 : (a.add n).off = a.off + n := by unfold Addr.add; split <;> simp_all
  rw [e1, e2] at h1
  rw [← h1]; congr 2; omega

theorem flatten_get {α : Type} {size : Nat} : ∀ {l : List (List α)}, (∀ x ∈ l, x.length = size) → ∀ i, l.flatten[i]? = (l[i / size]?).bind (·[i % size]?) ∨ size = 0 := by
  intro l hl i
  rcases Nat.eq_zero_or_pos size with h0 | h0
  · exact .inr h0
  refine .inl ?_
  induction l generalizing i with
  | nil => simp
  | cons a l ih =>
    have ha : a.length = size := hl a (by simp)
    rw [List.flatten_cons]
    by_cases hi : i < size
    · rw [List.getElem?_append_left (by omega), Nat.div_eq_of_lt hi, Nat.mod_eq_of_lt hi]; simp
    · rw [List.getElem?_append_right (by omega), ha, ih (fun x hx => hl x (by simp [hx])) (i - size)]
      have e1 : i / size = (i - size) / size + 1 := by
        rw [← Nat.add_div_right _ h0]; congr 1; omega
      have e2 : i % size = (i - size) % size := Nat.mod_eq_sub_mod (by omega)
      rw [e1, e2]; simp

theorem flatten_length {α : Type} {size : Nat} : ∀ {l : List (List α)}, (∀ x ∈ l, x.length = size) → l.flatten.length = l.length * size := by
  intro l
  induction l with
  | nil => intro _; simp
  | cons a l ih =>
    intro hl
    rw [List.flatten_cons, List.length_append, ih (fun x hx => hl x (by simp [hx])), hl a (by simp), List.length_cons, Nat.succ_mul]; omega

/-- The reading of a slice of such elements. -/
theorem open_flat {k : IntKind} {t e : TypeId} {fuel : Nat} {cs : List Value} {x : DataW H × List MemPlace} (ht : P.underlying t = some (.slice e)) (hf : Flat P k e) (h : DataW.trod enc P w 0 spare held fuel t cs = some x) :
    ∃ v zs, cs = [v] ∧ SliceW w k (P.cellsOf e) zs v ∧ (∀ z ∈ zs, (Lit.int k z).wf = true) ∧ ((v = .slice none 0 0 ∧ x.1 = .nil) ∨ ∃ a len cap ds rest, v = .slice (some a) len cap ∧ x.1 = .slice ds rest ∧ ds.length = len ∧ cap ≤ maxLen) := by
  rcases DataW.trod_slice ht h with ⟨rfl, rfl⟩ | ⟨a, len, cap, elems, rest, n, rfl, rfl, rfl, hb, hl, hm, hlen, hel, hsp, hns⟩
  · exact ⟨_, [], rfl, rfl, by simp, .inl ⟨rfl, rfl⟩⟩
  · have each : ∀ i, i < len → ∃ zs : List Int, zs.length = P.cellsOf e ∧ (∀ z ∈ zs, (Lit.int k z).wf = true) ∧ ∀ j z, zs[j]? = some z → w.cell? ⟨a.block, a.off + (i * P.cellsOf e + j), none⟩ = some (.int k z) := by
      intro i hi
      have h1 := hel i hi
      rw [List.getElem?_eq_getElem (by omega), Option.bind_eq_some_iff] at h1
      obtain ⟨cs', h2, h3⟩ := h1
      obtain ⟨zs, rfl, h4, h5⟩ := hf H enc w spare held n cs' _ h3
      obtain ⟨_, h6, h7⟩ := World.cells?_some h2
      refine ⟨zs, h4, h5, fun j z hz => ?_⟩
      have hj : j < zs.length := (List.getElem?_eq_some_iff.1 hz).1
      have h8 := h7 j (by omega)
      simp only [ints, List.getElem?_map, hz, Option.map_some] at h8
      exact add_add_cell h8
    have hex : ∃ L : List (List Int), L.length = len ∧ (∀ l ∈ L, l.length = P.cellsOf e) ∧ (∀ l ∈ L, ∀ z ∈ l, (Lit.int k z).wf = true) ∧ ∀ i l, L[i]? = some l → ∀ j z, l[j]? = some z → w.cell? ⟨a.block, a.off + (i * P.cellsOf e + j), none⟩ = some (.int k z) := by
      clear hlen h hsp hns
      have : ∀ m, m ≤ len → ∃ L : List (List Int), L.length = m ∧ (∀ l ∈ L, l.length = P.cellsOf e) ∧ (∀ l ∈ L, ∀ z ∈ l, (Lit.int k z).wf = true) ∧ ∀ i l, L[i]? = some l → ∀ j z, l[j]? = some z → w.cell? ⟨a.block, a.off + (i * P.cellsOf e + j), none⟩ = some (.int k z) := by
        intro m
        induction m with
        | zero => intro _; exact ⟨[], rfl, by simp, by simp, by simp⟩
        | succ m ih =>
          intro hm'
          obtain ⟨L, h1, h2, h3, h4⟩ := ih (by omega)
          obtain ⟨zs, h5, h6, h7⟩ := each m (by omega)
          refine ⟨L ++ [zs], by simp [h1], ?_, ?_, ?_⟩
          · intro l hl'; simp at hl'; rcases hl' with h | rfl
            · exact h2 l h
            · exact h5
          · intro l hl'; simp at hl'; rcases hl' with h | rfl
            · exact h3 l h
            · exact h6
          · intro i l hil
            by_cases hi : i < m
            · rw [List.getElem?_append_left (by omega)] at hil; exact h4 i l hil
            · rw [List.getElem?_append_right (by omega)] at hil
              have : i = m := by
                have := (List.getElem?_eq_some_iff.1 hil).1
                simp at this; omega
              subst this
              simp [h1] at hil
              subst hil
              exact h7
      exact this len (Nat.le_refl _)
    obtain ⟨L, h1, h2, h3, h4⟩ := hex
    have hspot : L.flatten ≠ [] → a.spot = none := by
      intro hne
      have hlen0 : 0 < len ∧ 0 < P.cellsOf e := by
        have h5 : L.flatten.length ≠ 0 := fun h => hne (List.length_eq_zero_iff.1 h)
        rw [flatten_length h2, h1] at h5
        rcases Nat.eq_zero_or_pos len with h | h
        · rw [h] at h5; simp at h5
        · rcases Nat.eq_zero_or_pos (P.cellsOf e) with h' | h'
          · rw [h'] at h5; simp at h5
          · exact ⟨h, h'⟩
      have h5 := hel 0 hlen0.1
      rw [List.getElem?_eq_getElem (by omega), Option.bind_eq_some_iff] at h5
      obtain ⟨cs', h6, _⟩ := h5
      obtain ⟨_, h7, h8⟩ := World.cells?_some h6
      have h9 := h8 0 hlen0.2
      rw [List.getElem?_eq_getElem (by omega)] at h9
      have e0 : (a.add (0 * P.cellsOf e)).add 0 = a := by simp [Addr.add]
      rw [e0] at h9
      exact spot_none h9
    refine ⟨_, L.flatten, rfl, ⟨hl, by rw [flatten_length h2, h1], hspot, fun i z hz => ?_⟩, ?_, .inr ⟨a, len, cap, _, _, rfl, rfl, by simp [hlen], hm⟩⟩
    · rcases flatten_get h2 i with h5 | h5
      · rw [h5, Option.bind_eq_some_iff] at hz
        obtain ⟨l, h6, h7⟩ := hz
        have := h4 _ _ h6 _ _ h7
        rw [← this]; congr 2
        rw [Nat.mul_comm]; exact congrArg (a.off + ·) (Nat.div_add_mod i (P.cellsOf e)).symm
      · rw [List.length_eq_zero_iff.1 (show L.flatten.length = 0 by rw [flatten_length h2, h5]; simp)] at hz
        simp at hz
    · intro z hz
      rw [List.mem_flatten] at hz
      obtain ⟨l, h5, h6⟩ := hz
      exact h3 l h5 z h6

/-! ### the abstract heap -/
/-- A slice that shows numbers, in an abstract heap. -/
def Shows (h : AHeap) (k : IntKind) (size : Nat) (zs : List Int) (v : Value) : Prop :=
  (v = .slice none 0 0 ∧ zs = []) ∨ (v = .slice (some ⟨0, 1, none⟩) 0 1 ∧ zs = []) ∨
  ∃ b len, v = .slice (some ⟨b, 0, none⟩) len 1 ∧ b < h.next ∧ h.get b = some (.ro (ints k zs)) ∧ zs.length = len * size ∧ 0 < zs.length

/-- A heap that has been made richer in cells that are only read. -/
structure Richer (f : Inj) (h : AHeap) (f' : Inj) (h' : AHeap) : Prop where
  next : h.next ≤ h'.next
  old : ∀ b, b < h.next → h'.get b = h.get b ∧ f' b = f b
  ro : ∀ b o, h'.get b = some o → o.own = true → h.get b = some o

theorem Richer.refl (f : Inj) (h : AHeap) : Richer f h f h := ⟨Nat.le_refl _, fun _ _ => ⟨rfl, rfl⟩, fun _ _ h _ => h⟩
theorem Richer.trans {f f' f'' : Inj} {h h' h'' : AHeap} (x : Richer f h f' h') (y : Richer f' h' f'' h'') : Richer f h f'' h'' :=
  ⟨Nat.le_trans x.next y.next, fun b hb => by
    obtain ⟨h1, h2⟩ := x.old b hb
    obtain ⟨h3, h4⟩ := y.old b (Nat.lt_of_lt_of_le hb x.next)
    exact ⟨h3.trans h1, h4.trans h2⟩, fun b o h1 h2 => x.ro b o (y.ro b o h1 h2) h2⟩
theorem Richer.le {f f' : Inj} {h h' : AHeap} (x : Richer f h f' h') : Le (Lt h.next) (Lt h'.next) f f' := fun b hb => ⟨Nat.lt_of_lt_of_le hb x.next, (x.old b hb).2⟩
theorem Richer.shows {f f' : Inj} {h h' : AHeap} (x : Richer f h f' h') {k : IntKind} {size : Nat} {zs : List Int} {v : Value} (hs : Shows h k size zs v) : Shows h' k size zs v := by
  rcases hs with h1 | h1 | ⟨b, len, h1, h2, h3, h4⟩
  · exact .inl h1
  · exact .inr (.inl h1)
  · exact .inr (.inr ⟨b, len, h1, Nat.lt_of_lt_of_le h2 x.next, by rw [(x.old b h2).1]; exact h3, h4⟩)

theorem WR.addRo {f : Inj} {h : AHeap} {w : World} (hw : WR (Lt h.next) f h w) {c s : Nat} {cs : List Value} (hc : c < w.heap.size) (hcells : CellsAt (Lt h.next) f w c s cs) (ht : tokB cs = false) (hno : ∀ b o, h.get b = some o → o.own = false) :
    ∃ f', WR (Lt (h.new (.ro cs)).next) f' (h.new (.ro cs)) w ∧ Richer f h f' (h.new (.ro cs)) ∧ f' h.next = ⟨c, s, 0⟩ := by
  refine ⟨upd f h.next ⟨c, s, 0⟩, ⟨fun b o hb => ?_, fun b o hb => ?_, fun b b' o o' hb hb' ho hne => ?_⟩, ⟨Nat.le_succ _, fun b hb => ⟨by rw [AHeap.get_new, if_neg (by omega)], upd_lt hb⟩, fun b o hb ho => ?_⟩, upd_same _ _ _⟩
  · rw [AHeap.get_new] at hb
    split at hb
    · rename_i e; subst e; exact Nat.lt_succ_self _
    · exact Nat.lt_succ_of_lt (hw.dom _ _ hb)
  · rw [AHeap.get_new] at hb
    split at hb
    · rename_i e; subst e
      injection hb with hb; subst hb
      rw [upd_same]
      exact ⟨hc, hcells.mono (Le.upd f _), fun h1 => by rw [ht] at h1; simp at h1⟩
    · rw [upd_lt (hw.dom _ _ hb)]
      exact (hw.obj _ _ hb).mono (Le.upd f _)
  · rw [AHeap.get_new] at hb hb'
    split at hb
    · injection hb with hb; subst hb; simp [AObj.own] at ho
    · rw [upd_lt (hw.dom _ _ hb)]
      rw [hno _ _ hb] at ho
      simp at ho
  · rw [AHeap.get_new] at hb
    split at hb
    · injection hb with hb; subst hb; simp [AObj.own] at ho
    · exact hb
def NoOwn (h : AHeap) : Prop := ∀ b o, h.get b = some o → o.own = false
theorem Richer.noOwn {f f' : Inj} {h h' : AHeap} (x : Richer f h f' h') (hno : NoOwn h) : NoOwn h' := by
  intro b o hb
  cases ho : o.own with
  | false => rfl
  | true => have := hno b o (x.ro b o hb ho); rw [this] at ho; simp at ho

theorem tokB_ints (k : IntKind) (zs : List Int) : tokB (ints k zs) = false := by
  cases zs with
  | nil => rfl
  | cons z zs => cases zs <;> rfl

/-- A slice of numbers, laid for reading. -/
theorem addSlice {f : Inj} {h : AHeap} {w : World} {k : IntKind} {size : Nat} {zs : List Int} {v' : Value} (hw : WR (Lt h.next) f h w) (h0 : 0 < h.next) (hno : NoOwn h) (hz : 0 < size) (hs : SliceW w k size zs v') :
    ∃ f' h' v, WR (Lt h'.next) f' h' w ∧ Richer f h f' h' ∧ SR (Lt h'.next) f' v v' ∧ Shows h' k size zs v ∧ (v' ≠ .slice none 0 0 → ∃ b o c, v = .slice (some ⟨b, o, none⟩) (match v' with | .slice _ n _ => n | _ => 0) c) := by
  unfold SliceW at hs
  split at hs
  · subst hs
    exact ⟨f, h, .slice none 0 0, hw, Richer.refl _ _, .slice0, .inl ⟨rfl, rfl⟩, fun h => absurd rfl h⟩
  · rename_i a len cap
    obtain ⟨h1, h2, hsp, h3⟩ := hs
    cases zs with
    | nil =>
      by_cases hlen : len = 0
      · subst hlen
        exact ⟨f, h, .slice (some ⟨0, 1, none⟩) 0 1, hw, Richer.refl _ _, .slice 0 1 a 0 1 cap h0 ⟨h1, by omega, by omega⟩ (.inr ⟨rfl, by omega⟩), .inr (.inl ⟨rfl, rfl⟩), fun _ => ⟨0, 1, 1, rfl⟩⟩
      · have : 0 < len * size := Nat.mul_pos (by omega) hz
        simp at h2; omega
    | cons z zs =>
      have hc : CellsAt (Lt h.next) f w a.block a.off (ints k (z :: zs)) := by
        intro i v hv
        simp only [ints, List.getElem?_map, Option.map_eq_some_iff] at hv
        obtain ⟨y, h4, rfl⟩ := hv
        exact ⟨_, h3 i y h4, .s (.int _ _)⟩
      have hlt : a.block < w.heap.size := by
        have := h3 0 z rfl
        unfold World.cell? at this
        rcases Nat.lt_or_ge a.block w.heap.size with h | h
        · exact h
        · simp [Array.getElem?_eq_none h] at this
      obtain ⟨f', k1, k2, k3⟩ := hw.addRo hlt hc (tokB_ints _ _) hno
      refine ⟨f', _, .slice (some ⟨h.next, 0, none⟩) len 1, k1, k2, ?_, .inr (.inr ⟨h.next, len, rfl, Nat.lt_succ_self _, by rw [AHeap.get_new, if_pos rfl], h2, by simp⟩), fun _ => ⟨h.next, 0, 1, rfl⟩⟩
      refine .slice h.next 0 a len 1 cap (Nat.lt_succ_self _) ⟨h1, by omega, by omega⟩ (.inl ?_)
      rw [k3]
      have := hsp (by simp)
      obtain ⟨b, o, s⟩ := a
      simp only at this
      rw [this]; simp
  · exact hs.elim
end
end Go.Proofs.PantryEng
namespace Go.Proofs.PantryEng
open Go Go.RowKit

section
variable {H : Type} {enc : TypeId × Value → H} {P : Program} {w : World} {spare : Nat → Bool} {held : Bool}

def SlicesW (w : World) (k : IntKind) (size : Nat) (L : List (List Int)) : Value → Prop
  | .slice none 0 0 => L = []
  | .slice (some a) len cap => len ≤ cap ∧ L.length = len ∧ (L ≠ [] → a.spot = none) ∧ ∀ i zs, L[i]? = some zs → ∃ v, w.cell? ⟨a.block, a.off + i, none⟩ = some v ∧ SliceW w k size zs v
  | _ => False

theorem list_of {α : Type} {R : Nat → α → Prop} : ∀ n, (∀ i, i < n → ∃ x, R i x) → ∃ L : List α, L.length = n ∧ ∀ i x, L[i]? = some x → R i x := by
  intro n
  induction n with
  | zero => intro _; exact ⟨[], rfl, by simp⟩
  | succ n ih =>
    intro h
    obtain ⟨L, h1, h2⟩ := ih fun i hi => h i (by omega)
    obtain ⟨x, hx⟩ := h n (by omega)
    refine ⟨L ++ [x], by simp [h1], fun i y hy => ?_⟩
    by_cases hi : i < n
    · rw [List.getElem?_append_left (by omega)] at hy; exact h2 i y hy
    · rw [List.getElem?_append_right (by omega)] at hy
      have : i = n := by
        have := (List.getElem?_eq_some_iff.1 hy).1
        simp at this; omega
      subst this
      simp [h1] at hy
      subst hy
      exact hx

/-- The reading of a slice of slices. -/
theorem open_flats {k : IntKind} {t te e : TypeId} {fuel : Nat} {cs : List Value} {x : DataW H × List MemPlace} (ht : P.underlying t = some (.slice te)) (hte : P.underlying te = some (.slice e)) (hc : P.cellsOf te = 1) (hf : Flat P k e)
    (h : DataW.trod enc P w 0 spare held fuel t cs = some x) :
    ∃ v L, cs = [v] ∧ SlicesW w k (P.cellsOf e) L v ∧ (∀ zs ∈ L, ∀ z ∈ zs, (Lit.int k z).wf = true) ∧
      ((v = .slice none 0 0 ∧ x.1 = .nil) ∨ ∃ (a : Addr) (len cap : Nat) (ds rest : List (DataW H)), v = .slice (some a) len cap ∧ x.1 = DataW.slice ds rest ∧ ds.length = len ∧ cap ≤ maxLen ∧ L.length = len ∧
        ∀ (i : Nat) (zs : List Int), L[i]? = some zs → ∃ d : DataW H, ds[i]? = some d ∧ ((zs = [] ∧ d = DataW.nil) ∨ ∃ (ds' rest' : List (DataW H)) (n : Nat), d = DataW.slice ds' rest' ∧ ds'.length = n ∧ zs.length = n * P.cellsOf e)) := by
  rcases DataW.trod_slice ht h with ⟨rfl, rfl⟩ | ⟨a, len, cap, elems, rest, n, rfl, rfl, rfl, hb, hl, hm, hlen, hel, hsp, hns⟩
  · exact ⟨_, [], rfl, rfl, by simp, .inl ⟨rfl, rfl⟩⟩
  · rw [hc] at hel
    simp only [Nat.mul_one] at hel
    obtain ⟨L, h1, h2⟩ := list_of (R := fun i (zs : List Int) => (∃ v, w.cell? (a.add i) = some v ∧ SliceW w k (P.cellsOf e) zs v) ∧ (∀ z ∈ zs, (Lit.int k z).wf = true) ∧
        ∃ y : DataW H × List MemPlace, elems[i]? = some y ∧ ((zs = [] ∧ y.1 = DataW.nil) ∨ ∃ ds' rest' n, y.1 = DataW.slice ds' rest' ∧ ds'.length = n ∧ zs.length = n * P.cellsOf e)) len (fun i hi => by
      have h1 := hel i hi
      rw [List.getElem?_eq_getElem (by omega), Option.bind_eq_some_iff] at h1
      obtain ⟨cs', h2, h3⟩ := h1
      obtain ⟨v, zs, rfl, h4, h5, h6⟩ := open_flat hte hf h3
      obtain ⟨_, _, h7⟩ := World.cells?_some h2
      have h8 := h7 0 (by omega)
      simp only [List.getElem?_cons_zero] at h8
      have e0 : (a.add i).add 0 = a.add i := by simp [Addr.add]
      rw [e0] at h8
      refine ⟨zs, ⟨v, h8, h4⟩, h5, elems[i], by rw [List.getElem?_eq_getElem (by omega)], ?_⟩
      rcases h6 with ⟨h9, h10⟩ | ⟨a', len', cap', ds, rest', h9, h10, h11, _⟩
      · subst h9; exact .inl ⟨h4, h10⟩
      · subst h9
        obtain ⟨_, h12, _⟩ := h4
        exact .inr ⟨ds, rest', len', h10, h11, h12⟩)
    refine ⟨_, L, rfl, ⟨hl, h1, ?_, fun i zs hz => ?_⟩, ?_, .inr ⟨a, len, cap, _, _, rfl, rfl, by simp [hlen], hm, h1, fun i zs hz => ?_⟩⟩
    · intro hne
      cases L with
      | nil => exact absurd rfl hne
      | cons zs L =>
        obtain ⟨⟨v, h3, _⟩, _⟩ := h2 0 zs rfl
        have e0 : a.add 0 = a := by simp [Addr.add]
        rw [e0] at h3
        exact spot_none h3
    · obtain ⟨⟨v, h3, h4⟩, _⟩ := h2 i zs hz
      exact ⟨v, cell_spot h3, h4⟩
    · intro zs hzs
      obtain ⟨i, hi⟩ := List.getElem?_of_mem hzs
      exact (h2 i zs hi).2.1
    · obtain ⟨_, _, y, h3, h4⟩ := h2 i zs hz
      exact ⟨y.1, by simp [h3], h4⟩

/-- A slice of slices that shows rows of numbers, in an abstract heap. -/
def ShowsL (h : AHeap) (k : IntKind) (size : Nat) (L : List (List Int)) (v : Value) : Prop :=
  (v = .slice none 0 0 ∧ L = []) ∨ (v = .slice (some ⟨0, 1, none⟩) 0 1 ∧ L = []) ∨
  ∃ b cs, v = .slice (some ⟨b, 0, none⟩) L.length 1 ∧ b < h.next ∧ h.get b = some (.ro cs) ∧ All2 (Shows h k size) L cs ∧ 0 < L.length

theorem Richer.showsAll {f f' : Inj} {h h' : AHeap} (x : Richer f h f' h') {k : IntKind} {size : Nat} {L : List (List Int)} {cs : List Value} (hs : All2 (Shows h k size) L cs) : All2 (Shows h' k size) L cs := hs.mono fun _ _ => x.shows
theorem Richer.showsL {f f' : Inj} {h h' : AHeap} (x : Richer f h f' h') {k : IntKind} {size : Nat} {L : List (List Int)} {v : Value} (hs : ShowsL h k size L v) : ShowsL h' k size L v := by
  rcases hs with h1 | h1 | ⟨b, cs, h1, h2, h3, h4, h5⟩
  · exact .inl h1
  · exact .inr (.inl h1)
  · exact .inr (.inr ⟨b, cs, h1, Nat.lt_of_lt_of_le h2 x.next, by rw [(x.old b h2).1]; exact h3, x.showsAll h4, h5⟩)

theorem addSlicesGo {k : IntKind} {size : Nat} (hz : 0 < size) : ∀ (L : List (List Int)) (vs : List Value) (f : Inj) (h : AHeap), WR (Lt h.next) f h w → 0 < h.next → NoOwn h → All2 (SliceW w k size) L vs →
    ∃ f' h' cs, WR (Lt h'.next) f' h' w ∧ Richer f h f' h' ∧ All2 (SR (Lt h'.next) f') cs vs ∧ All2 (Shows h' k size) L cs := by
  intro L
  induction L with
  | nil => intro vs f h hw h0 hno hs; cases hs; exact ⟨f, h, [], hw, Richer.refl _ _, .nil, .nil⟩
  | cons zs L ih =>
    intro vs f h hw h0 hno hs
    cases hs with
    | cons h1 h2 =>
      obtain ⟨f1, hh1, c, k1, k2, k3, k4, _⟩ := addSlice hw h0 hno hz h1
      obtain ⟨f2, hh2, cs, q1, q2, q3, q4⟩ := ih _ f1 hh1 k1 (Nat.lt_of_lt_of_le h0 k2.next) (k2.noOwn hno) h2
      exact ⟨f2, hh2, c :: cs, q1, k2.trans q2, .cons (k3.mono q2.le) q3, .cons (q2.shows k4) q4⟩

theorem Shows.slice {h : AHeap} {k : IntKind} {size : Nat} {zs : List Int} {v : Value} (hs : Shows h k size zs v) : ∃ a n c, v = .slice a n c := by
  rcases hs with ⟨h1, _⟩ | ⟨h1, _⟩ | ⟨b, len, h1, _⟩ <;> exact ⟨_, _, _, h1⟩

theorem tokB_shows {h : AHeap} {k : IntKind} {size : Nat} {L : List (List Int)} {cs : List Value} (hs : All2 (Shows h k size) L cs) : tokB cs = false := by
  cases hs with
  | nil => rfl
  | cons h1 h2 =>
    obtain ⟨a, n, c, rfl⟩ := h1.slice
    cases h2 <;> rfl

theorem addSlices {f : Inj} {h : AHeap} {k : IntKind} {size : Nat} {L : List (List Int)} {v' : Value} (hw : WR (Lt h.next) f h w) (h0 : 0 < h.next) (hno : NoOwn h) (hz : 0 < size) (hs : SlicesW w k size L v') :
    ∃ f' h' v, WR (Lt h'.next) f' h' w ∧ Richer f h f' h' ∧ SR (Lt h'.next) f' v v' ∧ ShowsL h' k size L v := by
  unfold SlicesW at hs
  split at hs
  · subst hs
    exact ⟨f, h, .slice none 0 0, hw, Richer.refl _ _, .slice0, .inl ⟨rfl, rfl⟩⟩
  · rename_i a len cap
    obtain ⟨h1, h2, hsp, h3⟩ := hs
    cases L with
    | nil =>
      simp at h2
      subst h2
      exact ⟨f, h, .slice (some ⟨0, 1, none⟩) 0 1, hw, Richer.refl _ _, .slice 0 1 a 0 1 cap h0 ⟨h1, by omega, by omega⟩ (.inr ⟨rfl, by omega⟩), .inr (.inl ⟨rfl, rfl⟩)⟩
    | cons zs0 L0 =>
      generalize hL : zs0 :: L0 = L at *
      have hne : L ≠ [] := by rw [← hL]; simp
      have hpos : 0 < L.length := by rw [← hL]; simp
      obtain ⟨vs, g1, g2⟩ := list_of (R := fun i v => w.cell? ⟨a.block, a.off + i, none⟩ = some v ∧ ∀ zs, L[i]? = some zs → SliceW w k size zs v) L.length (fun i hi => by
        obtain ⟨v, h4, h5⟩ := h3 i L[i] (by simp [hi])
        exact ⟨v, h4, fun zs hz => by rw [List.getElem?_eq_getElem hi] at hz; injection hz with hz; subst hz; exact h5⟩)
      have hall : All2 (SliceW w k size) L vs := by
        clear hsp hne h2
        have key : ∀ (L : List (List Int)) (vs : List Value), L.length = vs.length → (∀ (i : Nat) (v : Value), vs[i]? = some v → ∀ zs, L[i]? = some zs → SliceW w k size zs v) → All2 (SliceW w k size) L vs := by
          intro L
          induction L with
          | nil => intro vs hl _; cases vs with | nil => exact .nil | cons _ _ => simp at hl
          | cons z L ih =>
            intro vs hl hg
            cases vs with
            | nil => simp at hl
            | cons v vs => exact .cons (hg 0 v rfl z rfl) (ih vs (by simpa using hl) fun i v hv zs hz => hg (i + 1) v (by simpa using hv) zs (by simpa using hz))
        exact key L vs (by omega) fun i v hv => (g2 i v hv).2
      obtain ⟨f1, hh1, cs, q1, q2, q3, q4⟩ := addSlicesGo (w := w) hz L vs f h hw h0 hno hall
      have hcs : cs.length = vs.length := q3.length
      have hcells : CellsAt (Lt hh1.next) f1 w a.block a.off cs := by
        intro i v hv
        obtain ⟨v', h4, h5⟩ := q3.get hv
        exact ⟨v', (g2 i v' h4).1, .s h5⟩
      have hlt : a.block < w.heap.size := by
        have hc := (g2 0 vs[0] (by simp)).1
        unfold World.cell? at hc
        rcases Nat.lt_or_ge a.block w.heap.size with h | h
        · exact h
        · simp [Array.getElem?_eq_none h] at hc
      obtain ⟨f2, p1, p2, p3⟩ := q1.addRo hlt hcells (tokB_shows q4) (q2.noOwn hno)
      refine ⟨f2, _, .slice (some ⟨hh1.next, 0, none⟩) L.length 1, p1, q2.trans p2, ?_, .inr (.inr ⟨hh1.next, cs, rfl, Nat.lt_succ_self _, by rw [AHeap.get_new, if_pos rfl], p2.showsAll q4, hpos⟩)⟩
      rw [h2]
      refine .slice hh1.next 0 a len 1 cap (Nat.lt_succ_self _) ⟨h1, by omega, by omega⟩ (.inl ?_)
      rw [p3]
      have := hsp hne
      obtain ⟨b, o, s⟩ := a
      simp only at this
      rw [this]; simp
  · exact hs.elim

/-! ### the first heap -/
def heap0 (tR tErr : Nat) : AHeap := { next := 1, t := Tree.put .nil 0 (some (.ro [.complex .f64 tR (65536 + tErr)])) }
def inj0 : Inj := fun _ => ⟨0, 0, 0⟩

theorem heap0_get {tR tErr b : Nat} {o : AObj} (h : (heap0 tR tErr).get b = some o) : b = 0 ∧ o = .ro [.complex .f64 tR (65536 + tErr)] := by
  unfold AHeap.get heap0 at h
  simp only [Tree.get_put, Tree.get_nil] at h
  split at h
  · rename_i e; injection h with h; exact ⟨e.symm, h.symm⟩
  · simp at h

theorem heap0_R {tR tErr : Nat} (hlt : tErr < 65536) (hc : w.cell? ⟨0, 0, none⟩ = some (.iface tR (.agg #[.pointer (some ⟨1, tErr, none⟩)]))) : WR (Lt (heap0 tR tErr).next) inj0 (heap0 tR tErr) w := by
  have h0 : 0 < w.heap.size := by
    rcases Nat.eq_zero_or_pos w.heap.size with h | h
    · simp [World.cell?, h] at hc
    · exact h
  refine ⟨fun b o hb => ?_, fun b o hb => ?_, fun b b' o o' hb _ ho _ => ?_⟩
  · obtain ⟨rfl, _⟩ := heap0_get hb; exact Nat.one_pos
  · obtain ⟨rfl, rfl⟩ := heap0_get hb
    refine ⟨h0, fun i v hv => ?_, fun _ => ⟨rfl, rfl⟩⟩
    cases i with
    | zero =>
      simp at hv
      subst hv
      refine ⟨_, hc, ?_⟩
      have := CR.tok (D := Lt (heap0 tR tErr).next) (f := inj0) .f64 tR (65536 + tErr)
      have e1 : (65536 + tErr) / 65536 = 1 := by omega
      have e2 : (65536 + tErr) % 65536 = tErr := by omega
      rw [e1, e2] at this
      exact this
    | succ i => simp at hv
  · obtain ⟨rfl, rfl⟩ := heap0_get hb; simp [AObj.own] at ho

theorem heap0_noOwn {tR tErr : Nat} : NoOwn (heap0 tR tErr) := fun b o hb => by obtain ⟨_, rfl⟩ := heap0_get hb; rfl

/-- FROM THE INTERPRETER's ANSWER TO A CALL's. -/
theorem bridge {ms : List String} {A : AProg} (hA : AProgOK P ms A) {F : FuncId} {args : List Value} {args' : List Value} {f : Inj} {h h' : AHeap} (hw : WR (Lt h.next) f h w) (hno : NoOwn h) (ha : All2 (TR (Lt h.next) f) args args')
    {b : Bool} (hr : Ans A F args h (.bool b) h') : Calls P F ⟨args'⟩ w fun e w' => e = .returned (.bool b) ∧ Below w.heap.size w w' := by
  obtain ⟨n, hn⟩ := hr
  obtain ⟨_, hc⟩ := evCall_ok hA n F args h _ h' hn
  refine (hc f w args' hw ha).mono fun e w' hr => ?_
  obtain ⟨f', r', rfl, h1, h2, h3⟩ := hr
  exact ⟨by rw [h1.bool_inv], h3.os, h3.tape, h3.output, h3.size, fun c hcl => h3.keep c hcl fun b o hb ho => by rw [hno b o hb] at ho; simp at ho⟩
end
end Go.Proofs.PantryEng

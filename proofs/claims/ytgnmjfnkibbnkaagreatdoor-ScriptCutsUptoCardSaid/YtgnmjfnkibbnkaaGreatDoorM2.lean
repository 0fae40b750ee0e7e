/- The engine, part 5b: more operations that leave the heap as it is. -/
import Derived.Below
import Derived.RangeFuncRecord
import Derived.Test.YtgnmjfnkibbnkaaGreatDoorM1
import Derived.Laws.Cells
import Derived.Laws.CopyRow
import Derived.Laws.StructEq
import Derived.Laws.Entries
import Derived.Laws.Strings
import Derived.Laws.Strings2
import Derived.LaidEql
import Derived.LaidEqlPtr
set_option linter.unusedSimpArgs false
set_option linter.unusedVariables false
namespace Go.Proofs.PantryEng
open Go

/-! ### the trees -/
theorem Tree.get_putF_same {α : Type} (x : Option α) : ∀ (n : Nat) (t : Tree α) (k : Nat), k < n → (Tree.putF n t k x).get k = x := by
  intro n
  induction n with
  | zero => intro t k h; omega
  | succ n ih =>
    intro t k h
    rcases Nat.eq_zero_or_pos k with rfl | hk
    · cases t <;> simp [Tree.putF, Tree.get]
    · have h0 : Nat.beq k 0 = false := by cases k with | zero => omega | succ k => rfl
      by_cases ho : k % 2 = 1
      · have hb : Nat.beq (k % 2) 1 = true := by rw [ho]; rfl
        cases t <;> simp [Tree.putF, Tree.get, h0, hb, ih _ (k / 2) (by omega)]
      · have hb : Nat.beq (k % 2) 1 = false := by
          have : k % 2 = 0 := by omega
          rw [this]; rfl
        cases t <;> simp [Tree.putF, Tree.get, h0, hb, ih _ (k / 2 - 1) (by omega)]

theorem Tree.get_nil {α : Type} (k : Nat) : (Tree.nil : Tree α).get k = none := rfl

theorem Tree.get_putF_ne {α : Type} (x : Option α) : ∀ (n : Nat) (t : Tree α) (k j : Nat), k < n → k ≠ j → (Tree.putF n t k x).get j = t.get j := by
  intro n
  induction n with
  | zero => intro t k j h; omega
  | succ n ih =>
    intro t k j h hne
    rcases Nat.eq_zero_or_pos k with rfl | hk
    · have h0 : Nat.beq j 0 = false := by cases j with | zero => omega | succ j => rfl
      cases t <;> simp [Tree.putF, Tree.get, h0]
    · have h0 : Nat.beq k 0 = false := by cases k with | zero => omega | succ k => rfl
      rcases Nat.eq_zero_or_pos j with rfl | hj
      · by_cases ho : k % 2 = 1
        · have hb : Nat.beq (k % 2) 1 = true := by rw [ho]; rfl
          cases t <;> simp [Tree.putF, Tree.get, h0, hb]
        · have hb : Nat.beq (k % 2) 1 = false := by
            have : k % 2 = 0 := by omega
            rw [this]; rfl
          cases t <;> simp [Tree.putF, Tree.get, h0, hb]
      · have j0 : Nat.beq j 0 = false := by cases j with | zero => omega | succ j => rfl
        by_cases ho : k % 2 = 1
        · have hb : Nat.beq (k % 2) 1 = true := by rw [ho]; rfl
          by_cases jo : j % 2 = 1
          · have jb : Nat.beq (j % 2) 1 = true := by rw [jo]; rfl
            cases t <;> simp [Tree.putF, Tree.get, h0, hb, j0, jb, ih _ (k / 2) (j / 2) (by omega) (by omega)]
          · have jb : Nat.beq (j % 2) 1 = false := by
              have : j % 2 = 0 := by omega
              rw [this]; rfl
            cases t <;> simp [Tree.putF, Tree.get, h0, hb, j0, jb]
        · have hb : Nat.beq (k % 2) 1 = false := by
            have : k % 2 = 0 := by omega
            rw [this]; rfl
          by_cases jo : j % 2 = 1
          · have jb : Nat.beq (j % 2) 1 = true := by rw [jo]; rfl
            cases t <;> simp [Tree.putF, Tree.get, h0, hb, j0, jb]
          · have jb : Nat.beq (j % 2) 1 = false := by
              have : j % 2 = 0 := by omega
              rw [this]; rfl
            cases t <;> simp [Tree.putF, Tree.get, h0, hb, j0, jb, ih _ (k / 2 - 1) (j / 2 - 1) (by omega) (by omega)]

theorem Tree.get_put {α : Type} (t : Tree α) (k j : Nat) (x : Option α) : (t.put k x).get j = if k = j then x else t.get j := by
  unfold Tree.put
  split
  · rename_i h; subst h; exact Tree.get_putF_same x _ t k (by omega)
  · rename_i h; exact Tree.get_putF_ne x _ t k j (by omega) h

theorem AHeap.get_set (h : AHeap) (b j : Nat) (o : AObj) : (h.set b o).get j = if b = j then some o else h.get j := Tree.get_put _ _ _ _
theorem AHeap.get_del (h : AHeap) (b j : Nat) : (h.del b).get j = if b = j then none else h.get j := Tree.get_put _ _ _ _
theorem AHeap.get_new (h : AHeap) (j : Nat) (o : AObj) : (h.new o).get j = if h.next = j then some o else h.get j := Tree.get_put _ _ _ _

theorem Env.at_put (e : Env) (d : Option Nat) (v : Value) (t : Nat) : (e.put d v).at t = if d = some t then v else e.at t := by
  cases d with
  | none => simp [Env.put]
  | some d => simp only [Env.put, Env.at, Tree.get_put, Option.some.injEq]; split <;> rfl

/-! ### values -/
/-- Where a block lies: in which block, from which cell on, with how many cells that may be written (0: none is known). -/
structure Spot where
  blk : Nat
  shift : Nat
  room : Nat
abbrev Inj := Nat → Spot
abbrev Dom := Nat → Prop
def Lt (n : Nat) : Dom := fun b => b < n

def CapR (r len c c' : Nat) : Prop := len ≤ c' ∧ (c = 0 → c' = 0) ∧ (2 ≤ c → c' * (c - 1) ≤ r)

inductive SR (D : Dom) (f : Inj) : Value → Value → Prop
  | bool (b : Bool) : SR D f (.bool b) (.bool b)
  | int (k : IntKind) (n : Int) : SR D f (.int k n) (.int k n)
  | string (s : ByteArray) : SR D f (.string s) (.string s)
  | ptr0 : SR D f (.pointer none) (.pointer none)
  | ptr (b o o' : Nat) : D b → o' = o + (f b).2 → SR D f (.pointer (some ⟨b, o, none⟩)) (.pointer (some ⟨(f b).1, o', none⟩))
  | slice0 : SR D f (.slice none 0 0) (.slice none 0 0)
  | slice (b o : Nat) (a' : Addr) (len c c' : Nat) : D b → CapR (f b).room len c c' → (a' = ⟨(f b).1, o + (f b).2, none⟩ ∨ (len = 0 ∧ o ≠ 0)) → SR D f (.slice (some ⟨b, o, none⟩) len c) (.slice (some a') len c')
  | map0 : SR D f (.map none) (.map none)
  | map (b : Nat) : D b → SR D f (.map (some b)) (.map (some (f b).1))
  | nilFunc : SR D f .nilFunc .nilFunc
  | nilIface : SR D f .nilIface .nilIface

inductive All2 {α β : Type} (R : α → β → Prop) : List α → List β → Prop
  | nil : All2 R [] []
  | cons {a : α} {b : β} {as : List α} {bs : List β} : R a b → All2 R as bs → All2 R (a :: as) (b :: bs)

inductive CR (D : Dom) (f : Inj) : Value → Value → Prop
  | s {v v' : Value} : SR D f v v' → CR D f v v'
  | func (g : FuncId) {a a' c c' : List Value} : All2 (SR D f) a a' → All2 (SR D f) c c' → CR D f (.func (.func g) ⟨a⟩ ⟨c⟩) (.func (.func g) ⟨a'⟩ ⟨c'⟩)
  | iface (t : TypeId) {v v' : Value} : SR D f v v' → CR D f (.iface t v) (.iface t v')
  | tok (k : FloatKind) (n m : Nat) : CR D f (.complex k n m) (.iface n (.agg #[.pointer (some ⟨m / 65536, m % 65536, none⟩)]))

inductive GR (D : Dom) (f : Inj) : Value → Value → Prop
  | c {v v' : Value} : CR D f v v' → GR D f v v'
  | agg {a a' : List Value} : All2 (CR D f) a a' → GR D f (.agg ⟨a⟩) (.agg ⟨a'⟩)

inductive TR (D : Dom) (f : Inj) : Value → Value → Prop
  | g {v v' : Value} : GR D f v v' → TR D f v v'
  | tuple {a a' : List Value} : All2 (GR D f) a a' → TR D f (.tuple ⟨a⟩) (.tuple ⟨a'⟩)

theorem All2.mono {α β : Type} {R S : α → β → Prop} (h : ∀ a b, R a b → S a b) {l : List α} {l' : List β} (hl : All2 R l l') : All2 S l l' := by
  induction hl with
  | nil => exact .nil
  | cons h1 _ ih => exact .cons (h _ _ h1) ih

theorem All2.length {α β : Type} {R : α → β → Prop} {l : List α} {l' : List β} (hl : All2 R l l') : l.length = l'.length := by
  induction hl with
  | nil => rfl
  | cons _ _ ih => simp [ih]

theorem All2.get {α β : Type} {R : α → β → Prop} {l : List α} {l' : List β} (hl : All2 R l l') : ∀ {i : Nat} {a : α}, l[i]? = some a → ∃ b, l'[i]? = some b ∧ R a b := by
  induction hl with
  | nil => intro i a h; simp at h
  | cons h1 _ ih =>
    intro i a h
    cases i with
    | zero => simp at h; subst h; exact ⟨_, by simp, h1⟩
    | succ i => simp at h; simpa using ih h

theorem All2.of_get {α β : Type} {R : α → β → Prop} : ∀ {l : List α} {l' : List β}, l.length = l'.length → (∀ (i : Nat) a b, l[i]? = some a → l'[i]? = some b → R a b) → All2 R l l' := by
  intro l
  induction l with
  | nil => intro l' h _; cases l' with | nil => exact .nil | cons => simp at h
  | cons a l ih =>
    intro l' h hr
    cases l' with
    | nil => simp at h
    | cons b l' => exact .cons (hr 0 a b (by simp) (by simp)) (ih (by simpa using h) fun i x y hx hy => hr (i + 1) x y (by simpa using hx) (by simpa using hy))

theorem All2.append {α β : Type} {R : α → β → Prop} {l m : List α} {l' m' : List β} (h1 : All2 R l l') (h2 : All2 R m m') : All2 R (l ++ m) (l' ++ m') := by
  induction h1 with
  | nil => exact h2
  | cons h _ ih => exact .cons h ih

theorem All2.drop {α β : Type} {R : α → β → Prop} {l : List α} {l' : List β} (h : All2 R l l') : ∀ n, All2 R (l.drop n) (l'.drop n) := by
  induction h with
  | nil => intro n; simp; exact .nil
  | cons h1 h2 ih => intro n; cases n with | zero => exact .cons h1 h2 | succ n => simpa using ih n

theorem All2.take {α β : Type} {R : α → β → Prop} {l : List α} {l' : List β} (h : All2 R l l') : ∀ n, All2 R (l.take n) (l'.take n) := by
  induction h with
  | nil => intro n; simp; exact .nil
  | cons h1 h2 ih => intro n; cases n with | zero => exact .nil | succ n => simpa using .cons h1 (ih n)

theorem All2.set {α β : Type} {R : α → β → Prop} {l : List α} {l' : List β} (h : All2 R l l') {a : α} {b : β} (hab : R a b) : ∀ n, All2 R (l.set n a) (l'.set n b) := by
  induction h with
  | nil => intro n; simp; exact .nil
  | cons h1 h2 ih => intro n; cases n with | zero => exact .cons hab h2 | succ n => simpa using .cons h1 (ih n)

theorem All2.map {α β γ δ : Type} {R : γ → δ → Prop} {g : α → γ} {g' : β → δ} {l : List α} {l' : List β} (h : All2 (fun a b => R (g a) (g' b)) l l') : All2 R (l.map g) (l'.map g') := by
  induction h with
  | nil => exact .nil
  | cons h1 _ ih => exact .cons h1 ih

/-- A way from one reading to a greater one. -/
def Le (D D' : Dom) (f f' : Inj) : Prop := ∀ b, D b → D' b ∧ f' b = f b

theorem Le.refl (D : Dom) (f : Inj) : Le D D f f := fun _ h => ⟨h, rfl⟩
theorem Le.trans {D D' D'' : Dom} {f f' f'' : Inj} (h : Le D D' f f') (k : Le D' D'' f' f'') : Le D D'' f f'' :=
  fun b hb => ⟨(k b (h b hb).1).1, (k b (h b hb).1).2.trans (h b hb).2⟩

section
variable {D D' : Dom} {f f' : Inj}

theorem SR.mono (hl : Le D D' f f') {v v' : Value} (h : SR D f v v') : SR D' f' v v' := by
  cases h with
  | ptr b o o' hb ho => rw [← (hl b hb).2]; exact .ptr b o o' (hl b hb).1 (by rw [(hl b hb).2]; exact ho)
  | slice b o a' len c c' hb hc ho => exact .slice b o a' len c c' (hl b hb).1 (by rw [(hl b hb).2]; exact hc) (by rw [(hl b hb).2]; exact ho)
  | map b hb => rw [← (hl b hb).2]; exact .map b (hl b hb).1
  | bool => exact .bool _
  | int => exact .int _ _
  | string => exact .string _
  | ptr0 => exact .ptr0
  | slice0 => exact .slice0
  | map0 => exact .map0
  | nilFunc => exact .nilFunc
  | nilIface => exact .nilIface

theorem CR.mono (hl : Le D D' f f') {v v' : Value} (h : CR D f v v') : CR D' f' v v' := by
  cases h with
  | s h => exact .s (h.mono hl)
  | func g h1 h2 => exact .func g (h1.mono fun _ _ => SR.mono hl) (h2.mono fun _ _ => SR.mono hl)
  | iface t h => exact .iface t (h.mono hl)
  | tok k n m => exact .tok k n m

theorem GR.mono (hl : Le D D' f f') {v v' : Value} (h : GR D f v v') : GR D' f' v v' := by
  cases h with
  | c h => exact .c (h.mono hl)
  | agg h => exact .agg (h.mono fun _ _ => CR.mono hl)

theorem TR.mono (hl : Le D D' f f') {v v' : Value} (h : TR D f v v') : TR D' f' v v' := by
  cases h with
  | g h => exact .g (h.mono hl)
  | tuple h => exact .tuple (h.mono fun _ _ => GR.mono hl)

theorem TR.sr {v v' : Value} (h : SR D f v v') : TR D f v v' := .g (.c (.s h))

theorem TR.gr {v v' : Value} (h : TR D f v v') (ht : isTup v = false) : GR D f v v' := by
  cases h with
  | g h => exact h
  | tuple h => simp [isTup] at ht

theorem GR.notTup {v v' : Value} (h : GR D f v v') : isTup v = false := by
  cases h with
  | c h => cases h with
    | s h => cases h <;> rfl
    | func => rfl
    | iface => rfl
    | tok => rfl
  | agg h => rfl

theorem CR.notTup {v v' : Value} (h : CR D f v v') : isTup v = false := GR.notTup (.c h)

theorem CR.scal {v v' : Value} (h : CR D f v v') (hs : scal v = true) : SR D f v v' := by
  cases h with
  | s h => exact h
  | func => simp [PantryEng.scal] at hs
  | iface => simp [PantryEng.scal] at hs
  | tok => simp [PantryEng.scal] at hs

theorem TR.scal {v v' : Value} (h : TR D f v v') (hs : scal v = true) : SR D f v v' := by
  cases h with
  | tuple => simp [PantryEng.scal] at hs
  | g h => cases h with
    | agg => simp [PantryEng.scal] at hs
    | c h => exact h.scal hs

theorem GR.cells {v v' : Value} (h : GR D f v v') : All2 (CR D f) (cellsOf v) v'.cells.toList := by
  cases h with
  | agg h => exact h
  | c h =>
    cases h with
    | s h => cases h <;> exact .cons (.s (by first | exact .bool _ | exact .int _ _ | exact .string _ | exact .ptr0 | (exact .ptr _ _ _ (by assumption) (by assumption)) | exact .slice0 | (exact .slice _ _ _ _ _ _ (by assumption) (by assumption) (by assumption)) | exact .map0 | (exact .map _ (by assumption)) | exact .nilFunc | exact .nilIface)) .nil
    | func g h1 h2 => exact .cons (.func g h1 h2) .nil
    | iface t h => exact .cons (.iface t h) .nil
    | tok k n m => exact .cons (.tok k n m) .nil

/-- One cell's value. -/
theorem CR.one {v v' : Value} (h : CR D f v v') : v'.oneCell' = true ∧ cellsOf v = [v] ∧ v'.cells = #[v'] := by
  cases h with
  | s h => cases h <;> exact ⟨rfl, rfl, rfl⟩
  | func => exact ⟨rfl, rfl, rfl⟩
  | iface => exact ⟨rfl, rfl, rfl⟩
  | tok => exact ⟨rfl, rfl, rfl⟩
end

/-! ### inversions -/
section
variable {D : Dom} {f : Inj} {v' : Value}
theorem TR.bool_inv {b : Bool} (h : TR D f (.bool b) v') : v' = .bool b := by
  cases h with | g h => cases h with | c h => cases h with | s h => cases h; rfl
theorem TR.int_inv {k : IntKind} {n : Int} (h : TR D f (.int k n) v') : v' = .int k n := by
  cases h with | g h => cases h with | c h => cases h with | s h => cases h; rfl
theorem TR.string_inv {s : ByteArray} (h : TR D f (.string s) v') : v' = .string s := by
  cases h with | g h => cases h with | c h => cases h with | s h => cases h; rfl
theorem TR.ptr_inv {b o : Nat} (h : TR D f (.pointer (some ⟨b, o, none⟩)) v') : D b ∧ v' = .pointer (some ⟨(f b).1, o + (f b).2, none⟩) := by
  cases h with | g h => cases h with | c h => cases h with | s h => cases h with | ptr _ _ o' hb ho => exact ⟨hb, by rw [ho]⟩
theorem TR.ptr_inv' {a : Option Addr} (h : TR D f (.pointer a) v') : (a = none ∧ v' = .pointer none) ∨ ∃ b o, a = some ⟨b, o, none⟩ ∧ D b ∧ v' = .pointer (some ⟨(f b).1, o + (f b).2, none⟩) := by
  cases h with | g h => cases h with | c h => cases h with | s h => cases h with
    | ptr0 => exact .inl ⟨rfl, rfl⟩
    | ptr b o o' hb ho => exact .inr ⟨b, o, rfl, hb, by rw [ho]⟩
theorem TR.slice_inv {a : Option Addr} {len c : Nat} (h : TR D f (.slice a len c) v') : (a = none ∧ len = 0 ∧ c = 0 ∧ v' = .slice none 0 0) ∨ ∃ b o a' c', a = some ⟨b, o, none⟩ ∧ D b ∧ CapR (f b).room len c c' ∧ (a' = ⟨(f b).1, o + (f b).2, none⟩ ∨ (len = 0 ∧ o ≠ 0)) ∧ v' = .slice (some a') len c' := by
  cases h with | g h => cases h with | c h => cases h with | s h => cases h with
    | slice0 => exact .inl ⟨rfl, rfl, rfl, rfl⟩
    | slice b o a' len c c' hb hc ho => exact .inr ⟨b, o, a', c', rfl, hb, hc, ho, rfl⟩
theorem TR.map_inv {r : Option Nat} (h : TR D f (.map r) v') : (r = none ∧ v' = .map none) ∨ ∃ b, r = some b ∧ D b ∧ v' = .map (some (f b).1) := by
  cases h with | g h => cases h with | c h => cases h with | s h => cases h with
    | map0 => exact .inl ⟨rfl, rfl⟩
    | map b hb => exact .inr ⟨b, rfl, hb, rfl⟩
theorem TR.func_inv {g : FuncId} {a c : Array Value} (h : TR D f (.func (.func g) a c) v') : ∃ a' c', All2 (SR D f) a.toList a' ∧ All2 (SR D f) c.toList c' ∧ v' = .func (.func g) ⟨a'⟩ ⟨c'⟩ := by
  cases h with | g h => cases h with | c h => cases h with
    | s h => cases h
    | func g h1 h2 => exact ⟨_, _, h1, h2, rfl⟩
theorem TR.iface_inv {t : TypeId} {v : Value} (h : TR D f (.iface t v) v') : ∃ u, SR D f v u ∧ v' = .iface t u := by
  cases h with | g h => cases h with | c h => cases h with
    | s h => cases h
    | iface t h1 => exact ⟨_, h1, rfl⟩
theorem TR.nilIface_inv (h : TR D f .nilIface v') : v' = .nilIface := by
  cases h with | g h => cases h with | c h => cases h with | s h => cases h; rfl
theorem TR.nilFunc_inv (h : TR D f .nilFunc v') : v' = .nilFunc := by
  cases h with | g h => cases h with | c h => cases h with | s h => cases h; rfl
theorem TR.agg_inv {a : List Value} (h : TR D f (.agg ⟨a⟩) v') : ∃ a', All2 (CR D f) a a' ∧ v' = .agg ⟨a'⟩ := by
  cases h with | g h => cases h with
    | c h => cases h with | s h => cases h
    | agg h => exact ⟨_, h, rfl⟩
theorem TR.tuple_inv {a : List Value} (h : TR D f (.tuple ⟨a⟩) v') : ∃ a', All2 (GR D f) a a' ∧ v' = .tuple ⟨a'⟩ := by
  cases h with
  | g h => cases h with | c h => cases h with | s h => cases h
  | tuple h => exact ⟨_, h, rfl⟩
end

/-! ### the heap -/
def CellsAt (D : Dom) (f : Inj) (w : World) (c s : Nat) (cs : List Value) : Prop :=
  ∀ i v, cs[i]? = some v → ∃ v', w.cell? ⟨c, s + i, none⟩ = some v' ∧ CR D f v v'

def EntR (D : Dom) (f : Inj) (x : Int × Value) (e : MapEntry) : Prop := e.key = .int .i64 x.1 ∧ GR D f x.2 e.val

def BornOK (ents : List MapEntry) (clock : Nat) : Prop := (ents.map (·.born)).Pairwise (· < ·) ∧ ∀ e ∈ ents, e.born < clock

def AObj.own : AObj → Bool
  | .ro _ => false
  | _ => true

/-- The first block of all, as the run begins: a value that is only compared. -/
def tokB : List Value → Bool
  | [.complex _ _ _] => true
  | _ => false

def ObjR (D : Dom) (f : Inj) (w : World) (p : Spot) : AObj → Prop
  | .cells cs => p.2 = 0 ∧ (∃ arr t, w.heap[p.1]? = some (.cells arr t (0, 0)) ∧ cs.length ≤ arr.size ∧ p.room ≤ arr.size) ∧ CellsAt D f w p.1 0 cs
  | .ro cs => p.1 < w.heap.size ∧ CellsAt D f w p.1 p.2 cs ∧ (tokB cs = true → p.1 = 0 ∧ p.2 = 0)
  | .map es => ∃ ents clock, w.heap[p.1]? = some (.map ents clock) ∧ All2 (EntR D f) es ents.toList ∧ (es.map (·.1)).Nodup ∧ BornOK ents.toList clock

structure WR (D : Dom) (f : Inj) (h : AHeap) (w : World) : Prop where
  dom : ∀ b o, h.get b = some o → D b
  obj : ∀ b o, h.get b = some o → ObjR D f w (f b) o
  apart : ∀ b b' o o', h.get b = some o → h.get b' = some o' → o.own = true → b ≠ b' → (f b).1 ≠ (f b').1

theorem cell?_congr {w w' : World} {c : Nat} (h : w'.heap[c]? = w.heap[c]?) (o : Nat) : w'.cell? ⟨c, o, none⟩ = w.cell? ⟨c, o, none⟩ := by
  simp only [World.cell?, h]

theorem cell?_some {w : World} {c o : Nat} {v : Value} (h : w.cell? ⟨c, o, none⟩ = some v) : ∃ arr t fr, w.heap[c]? = some (.cells arr t fr) ∧ arr[o]? = some v := by
  unfold World.cell? at h
  split at h
  · rename_i arr t fr he
    exact ⟨arr, t, fr, he, by simpa using h⟩
  · simp at h

theorem cell?_of {w : World} {c o : Nat} {arr : Array Value} {t : TypeId} {fr : Nat × Nat} (h : w.heap[c]? = some (.cells arr t fr)) : w.cell? ⟨c, o, none⟩ = arr[o]? := by
  simp [World.cell?, h]

theorem ObjR.congr {D : Dom} {f : Inj} {w w' : World} {p : Spot} {o : AObj} (h : w'.heap[p.1]? = w.heap[p.1]?) (hs : w.heap.size ≤ w'.heap.size) (ho : ObjR D f w p o) : ObjR D f w' p o := by
  cases o with
  | cells cs =>
    obtain ⟨h1, ⟨arr, t, ha, hb⟩, h3⟩ := ho
    refine ⟨h1, ⟨arr, t, h.trans ha, hb⟩, fun i v hv => ?_⟩
    obtain ⟨v', hc, hr⟩ := h3 i v hv
    exact ⟨v', (cell?_congr h _).trans hc, hr⟩
  | ro cs =>
    refine ⟨Nat.lt_of_lt_of_le ho.1 hs, ?_, ho.2.2⟩
    intro i v hv
    obtain ⟨v', hc, hr⟩ := ho.2.1 i v hv
    exact ⟨v', (cell?_congr h _).trans hc, hr⟩
  | map es =>
    obtain ⟨ents, clock, ha, hb⟩ := ho
    exact ⟨ents, clock, h.trans ha, hb⟩

theorem CellsAt.mono {D D' : Dom} {f f' : Inj} (hl : Le D D' f f') {w : World} {c s : Nat} {cs : List Value} (h : CellsAt D f w c s cs) : CellsAt D' f' w c s cs :=
  fun i v hv => let ⟨v', hc, hr⟩ := h i v hv; ⟨v', hc, hr.mono hl⟩

theorem ObjR.mono {D D' : Dom} {f f' : Inj} (hl : Le D D' f f') {w : World} {p : Spot} {o : AObj} (ho : ObjR D f w p o) : ObjR D' f' w p o := by
  cases o with
  | cells cs => exact ⟨ho.1, ho.2.1, ho.2.2.mono hl⟩
  | ro cs => exact ⟨ho.1, ho.2.1.mono hl, ho.2.2⟩
  | map es =>
    obtain ⟨ents, clock, ha, hb, hc⟩ := ho
    exact ⟨ents, clock, ha, hb.mono fun _ _ ⟨h1, h2⟩ => ⟨h1, h2.mono hl⟩, hc⟩

/-- The block that an object of one's own lies in is there. -/
theorem ObjR.lt {D : Dom} {f : Inj} {w : World} {p : Spot} {o : AObj} (ho : ObjR D f w p o) : p.1 < w.heap.size := by
  cases o with
  | cells cs => obtain ⟨_, ⟨arr, t, ha, _⟩, _⟩ := ho; exact (Array.getElem?_eq_some_iff.1 ha).1
  | ro cs => exact ho.1
  | map es => obtain ⟨_, _, ha, _⟩ := ho; exact (Array.getElem?_eq_some_iff.1 ha).1

/-- What a step leaves: blocks that are not the run's own lie as they lay. -/
structure Ext (f : Inj) (h : AHeap) (w : World) (f' : Inj) (h' : AHeap) (w' : World) : Prop where
  next : h.next ≤ h'.next
  inj : ∀ b, b < h.next → f' b = f b
  size : w.heap.size ≤ w'.heap.size
  keep : ∀ c, c < w.heap.size → (∀ b o, h.get b = some o → o.own = true → (f b).1 ≠ c) → w'.heap[c]? = w.heap[c]?
  fresh : ∀ b o, h'.get b = some o → o.own = true → w.heap.size ≤ (f' b).1 ∨ ∃ b0 o0, h.get b0 = some o0 ∧ o0.own = true ∧ (f' b).1 = (f b0).1
  newId : ∀ b o, h'.get b = some o → o.own = false → h.get b = some o
  os : w'.os = w.os
  tape : w'.tape = w.tape
  output : w'.output = w.output

theorem Ext.refl (f : Inj) (h : AHeap) (w : World) : Ext f h w f h w :=
  ⟨Nat.le_refl _, fun _ _ => rfl, Nat.le_refl _, fun _ _ _ => rfl, fun b o hb ho => .inr ⟨b, o, hb, ho, rfl⟩, fun _ _ h _ => h, rfl, rfl, rfl⟩

theorem Ext.le {f f' : Inj} {h h' : AHeap} {w w' : World} (x : Ext f h w f' h' w') : Le (Lt h.next) (Lt h'.next) f f' :=
  fun b hb => ⟨Nat.lt_of_lt_of_le hb x.next, x.inj b hb⟩

theorem Ext.trans {f f' f'' : Inj} {h h' h'' : AHeap} {w w' w'' : World} (x : Ext f h w f' h' w') (y : Ext f' h' w' f'' h'' w'') : Ext f h w f'' h'' w'' where
  next := Nat.le_trans x.next y.next
  inj b hb := (y.inj b (Nat.lt_of_lt_of_le hb x.next)).trans (x.inj b hb)
  size := Nat.le_trans x.size y.size
  keep c hc hn := by
    refine (y.keep c (Nat.lt_of_lt_of_le hc x.size) fun b o hb ho e => ?_).trans (x.keep c hc hn)
    rcases x.fresh b o hb ho with hf | ⟨b0, o0, h0, w0, e0⟩
    · omega
    · exact hn b0 o0 h0 w0 (e0.symm.trans e)
  fresh b o hb ho := by
    rcases y.fresh b o hb ho with hf | ⟨b0, o0, h0, w0, e0⟩
    · exact .inl (Nat.le_trans x.size hf)
    · rcases x.fresh b0 o0 h0 w0 with hf | ⟨b1, o1, h1, w1, e1⟩
      · exact .inl (e0 ▸ hf)
      · exact .inr ⟨b1, o1, h1, w1, e0.trans e1⟩
  newId b o hb ho := x.newId b o (y.newId b o hb ho) ho
  os := y.os.trans x.os
  tape := y.tape.trans x.tape
  output := y.output.trans x.output

/-- The reading of slots. -/
def EnvR (D : Dom) (f : Inj) (N : Nat) (e : Env) (a : Act) : Prop :=
  a.tmps.size = N ∧ a.defers = [] ∧ ∀ t, t < N → TR D f (e.at t) (a.tmps.getD t undef)

theorem EnvR.mono {D D' : Dom} {f f' : Inj} (hl : Le D D' f f') {N : Nat} {e : Env} {a : Act} (h : EnvR D f N e a) : EnvR D' f' N e a :=
  ⟨h.1, h.2.1, fun t ht => (h.2.2 t ht).mono hl⟩

theorem TR.undef (D : Dom) (f : Inj) : TR D f noValue undef := .tuple .nil

theorem EnvR.put {D : Dom} {f : Inj} {N : Nat} {e : Env} {a : Act} (h : EnvR D f N e a) {d : Option Nat} (hd : cDst N d = true) {v v' : Value} (hv : TR D f v v') : EnvR D f N (e.put d v) (a.put d v') := by
  cases d with
  | none => exact h
  | some d =>
    have hdn : d < N := by simpa [cDst] using hd
    refine ⟨by simp [Act.put, h.1], h.2.1, fun t ht => ?_⟩
    rw [Env.at_put]
    by_cases e1 : d = t
    · subst e1
      have : (a.put (some d) v').tmps.getD d undef = v' := by
        simp [Act.put, Array.getD_eq_getD_getElem?, Array.getElem?_setIfInBounds, h.1, hdn]
      rw [if_pos rfl, this]; exact hv
    · have : (a.put (some d) v').tmps.getD t undef = a.tmps.getD t undef := by
        simp [Act.put, Array.getD_eq_getD_getElem?, Array.getElem?_setIfInBounds, e1]
      rw [if_neg (by simpa using e1), this]; exact h.2.2 t ht

theorem litC_SR (D : Dom) (f : Inj) {v : Value} (h : litC v = true) : SR D f v v := by
  unfold litC at h
  split at h <;> first | exact .bool _ | exact .int _ _ | exact .string _ | exact .ptr0 | exact .slice0 | exact .map0 | exact .nilFunc | exact .nilIface | simp at h

theorem litL_CR (D : Dom) (f : Inj) : ∀ {l : List Value}, l.all litC = true → All2 (CR D f) l l := by
  intro l
  induction l with
  | nil => intro _; exact .nil
  | cons a l ih => intro h; simp at h; exact .cons (.s (litC_SR D f h.1)) (ih (by simpa using h.2))

theorem litOK_GR (D : Dom) (f : Inj) {v : Value} (h : litOK v = true) : GR D f v v := by
  unfold litOK at h
  split at h
  · exact .agg (litL_CR D f h)
  · exact .c (.s (litC_SR D f h))

theorem cOpd_R {D : Dom} {f : Inj} {N : Nat} {e : Env} {a : Act} (he : EnvR D f N e a) {x : Operand} {y : Opd} (h : cOpd N x = some y) : TR D f (y.ev e) (a.eval x) := by
  cases x with
  | tmp t =>
    simp only [cOpd] at h
    split at h
    · rename_i ht; injection h with h; subst h; exact he.2.2 t ht
    · simp at h
  | const v =>
    simp only [cOpd] at h
    split at h
    · rename_i hv; injection h with h; subst h; exact .g (litOK_GR D f hv)
    · simp at h
  | func g => simp only [cOpd] at h; injection h with h; subst h; exact .g (.c (.func g .nil .nil))
  | global g => simp [cOpd] at h

theorem cOpds_R {D : Dom} {f : Inj} {N : Nat} {e : Env} {a : Act} (he : EnvR D f N e a) : ∀ {xs : List Operand} {ys : List Opd}, cOpds N xs = some ys → All2 (TR D f) (ys.map (·.ev e)) (xs.map a.eval) := by
  intro xs
  induction xs with
  | nil => intro ys h; simp [cOpds] at h; subst h; exact .nil
  | cons x xs ih =>
    intro ys h
    simp only [cOpds] at h
    split at h
    · rename_i y zs h1 h2
      injection h with h; subst h
      exact .cons (cOpd_R he h1) (ih h2)
    · simp at h

end Go.Proofs.PantryEng
namespace Go.Proofs.PantryEng
open Go

theorem e64 : (2 : Int) ^ 64 = 18446744073709551616 := by decide
theorem e63 : (2 : Int) ^ 63 = 9223372036854775808 := by decide
theorem wrap_i64_in (n : Int) (h1 : -9223372036854775808 ≤ n) (h2 : n ≤ 9223372036854775807) : IntKind.i64.wrap n = n := by
  simp only [IntKind.wrap, IntKind.bits, IntKind.signed, e64, e63, Nat.reduceSub, Bool.true_and, decide_eq_true_eq]
  split <;> omega
theorem neg_bd (m : Nat) (h : m ≤ 9223372036854775807) : -9223372036854775808 ≤ Int.negSucc m ∧ Int.negSucc m ≤ 9223372036854775807 := by omega
theorem wr_pos (m : Nat) : wr .i64 (.ofNat m) = IntKind.i64.wrap (.ofNat m) := by
  simp only [wr, IntKind.wrap, IntKind.bits, IntKind.signed, e64, e63, Int.ofNat_eq_natCast, Nat.reduceSub, Bool.true_and, decide_eq_true_eq]
  cases h1 : Nat.ble m 9223372036854775807 with
  | true =>
    have h1' := Nat.le_of_ble_eq_true h1
    simp only [cond_true]
    split <;> omega
  | false =>
    cases h2 : Nat.ble 9223372036854775808 (m % 18446744073709551616) with
    | true =>
      have h2' := Nat.le_of_ble_eq_true h2
      simp only [cond_true, cond_false]
      split <;> omega
    | false =>
      have h2' : ¬ 9223372036854775808 ≤ m % 18446744073709551616 := Nat.not_le_of_not_ble_eq_true (by rw [h2]; exact Bool.false_ne_true)
      simp only [cond_false]
      split <;> omega
theorem wr_neg (m : Nat) : wr .i64 (.negSucc m) = IntKind.i64.wrap (.negSucc m) := by
  show (bif Nat.ble m 9223372036854775807 then Int.negSucc m else IntKind.i64.wrap (Int.negSucc m)) = _
  cases h1 : Nat.ble m 9223372036854775807 with
  | true =>
    have h := neg_bd m (Nat.le_of_ble_eq_true h1)
    rw [cond_true, wrap_i64_in _ h.1 h.2]
  | false => rw [cond_false]
theorem wr_u64 (m : Nat) : wr .u64 (.ofNat m) = IntKind.u64.wrap (.ofNat m) := by
  simp only [wr, IntKind.wrap, IntKind.bits, IntKind.signed, e64, Int.ofNat_eq_natCast, Bool.false_and, Bool.false_eq_true, if_false]
  omega
theorem wr_eq (k : IntKind) (n : Int) : wr k n = k.wrap n := by
  cases k with
  | i64 => cases n with | ofNat m => exact wr_pos m | negSucc m => exact wr_neg m
  | u64 => cases n with | ofNat m => exact wr_u64 m | negSucc m => rfl
  | _ => cases n <;> rfl

theorem get1_p {α : Type} {x : Option α} {k : α → AOp} {q : POp} (h : get1 x k = .p q) (hq : q ≠ .bad) : ∃ a, x = some a ∧ k a = .p q := by
  cases x with
  | none => simp [get1] at h; exact absurd h.symm hq
  | some a => exact ⟨a, rfl, h⟩
theorem get1_l {α : Type} {x : Option α} {k : α → AOp} {q : LOp} (h : get1 x k = .l q) : ∃ a, x = some a ∧ k a = .l q := by
  cases x with
  | none => simp [get1] at h
  | some a => exact ⟨a, rfl, h⟩
theorem get1_e {α : Type} {x : Option α} {k : α → AOp} {q : EOp} (h : get1 x k = .e q) : ∃ a, x = some a ∧ k a = .e q := by
  cases x with
  | none => simp [get1] at h
  | some a => exact ⟨a, rfl, h⟩

section runs
variable {P : Program} {w : World} {t : TypeId}

theorem run_sizeT {n : Nat} (h : sizeT P t = some n) : (sizeOf t).run P w = .ok n w := by
  unfold sizeT at h
  cases hi : P.info? t with
  | none => simp [hi] at h
  | some i => simp [hi] at h; simp [sizeOf, typeInfo, hi, h]
theorem run_zeroT {z : Value} (h : zeroT P t = some z) : (zeroValue t).run P w = .ok z w := by
  unfold zeroT at h
  cases hi : P.info? t with
  | none => simp [hi] at h
  | some i => simp [hi] at h; simp [zeroValue, typeInfo, hi, h]
theorem run_infoT {b : Nat} (h : bytesT P t = some b) : ∃ i, (typeInfo t).run P w = .ok i w ∧ i.bytes = b := by
  unfold bytesT at h
  cases hi : P.info? t with
  | none => simp [hi] at h
  | some i => simp [hi] at h; exact ⟨i, by simp [typeInfo, hi], h⟩
theorem run_aggT {g : Bool} (h : aggT P t = some g) : (isAgg t).run P w = .ok g w := by
  unfold aggT at h
  split at h
  · rename_i fs hu; injection h with h; subst h; simp [isAgg, run_underlying hu]
  · rename_i n e hu; injection h with h; subst h; simp [isAgg, run_underlying hu]
  · rename_i d hu h1 h2
    injection h with h; subst h
    simp only [isAgg, Sem.run_bind, run_underlying h2, Result.andThen_ok]
    cases d <;> first | rfl | exact absurd rfl (hu _) | exact absurd rfl (h1 _ _)
  · simp at h

theorem addr_add (b o n : Nat) : (⟨b, o, none⟩ : Addr).add n = ⟨b, o + n, none⟩ := by
  unfold Addr.add; split <;> simp_all
end runs

section reads
variable {P : Program} {D : Dom} {f : Inj} {h : AHeap} {w : World}

theorem WR.cells (hw : WR D f h w) {b : Nat} {cs : List Value} (hc : h.cells? b = some cs) : CellsAt D f w (f b).1 (f b).2 cs := by
  unfold AHeap.cells? at hc
  split at hc
  · rename_i l hg
    injection hc with hc; subst hc
    have := hw.obj b _ hg
    obtain ⟨h1, _, h3⟩ := this
    rw [h1]; exact h3
  · rename_i l hg
    injection hc with hc; subst hc
    exact (hw.obj b _ hg).2.1
  · simp at hc

theorem gather {c : Nat} : ∀ {cs : List Value} {s : Nat}, CellsAt D f w c s cs → ∃ cs', All2 (CR D f) cs cs' ∧ ∀ (i : Nat) v', cs'[i]? = some v' → w.cell? ⟨c, s + i, none⟩ = some v' := by
  intro cs
  induction cs with
  | nil => intro s _; exact ⟨[], .nil, by simp⟩
  | cons v cs ih =>
    intro s h
    obtain ⟨v', h1, h2⟩ := h 0 v (by simp)
    obtain ⟨cs', h3, h4⟩ := ih (s := s + 1) (fun i u hu => by
      obtain ⟨u', k1, k2⟩ := h (i + 1) u (by simpa using hu)
      exact ⟨u', by rw [← k1]; congr 2; omega, k2⟩)
    refine ⟨v' :: cs', .cons h2 h3, fun i u hu => ?_⟩
    cases i with
    | zero => simp at hu; subst hu; simpa using h1
    | succ i =>
      have := h4 i u (by simpa using hu)
      rw [← this]; congr 2; omega

theorem takeN_some {n : Nat} {l cs : List Value} (h : takeN n l = some cs) : cs.length = n ∧ ∀ (i : Nat), i < n → cs[i]? = l[i]? := by
  unfold takeN at h
  split at h
  · rename_i hl
    injection h with h; subst h
    exact ⟨hl, fun i hi => by simp [List.getElem?_take, hi]⟩
  · simp at h

theorem WR.cellsAt (hw : WR D f h w) {b o n : Nat} {cs : List Value} (hc : h.cellsAt b o n = some cs) :
    cs.length = n ∧ CellsAt D f w (f b).1 (o + (f b).2) cs := by
  unfold AHeap.cellsAt at hc
  cases hl : h.cells? b with
  | none => simp [hl] at hc
  | some l =>
    simp [hl] at hc
    obtain ⟨h1, h2⟩ := takeN_some hc
    refine ⟨h1, fun i v hv => ?_⟩
    have hi : i < n := by
      rw [← h1]
      rcases Nat.lt_or_ge i cs.length with h | h
      · exact h
      · rw [List.getElem?_eq_none h] at hv; simp at hv
    rw [h2 i hi, List.getElem?_drop] at hv
    obtain ⟨v', k1, k2⟩ := hw.cells hl (o + i) v hv
    exact ⟨v', by rw [← k1]; congr 2; omega, k2⟩

theorem WR.loads (hw : WR D f h w) {b o n : Nat} {cs : List Value} (hc : h.cellsAt b o n = some cs) :
    ∃ cs', All2 (CR D f) cs cs' ∧ cs'.length = n ∧ (loadCells ⟨(f b).1, o + (f b).2, none⟩ n).run P w = .ok ⟨cs'⟩ w := by
  obtain ⟨h1, h2⟩ := hw.cellsAt hc
  obtain ⟨cs', h3, h4⟩ := gather h2
  have hl : cs'.length = n := by rw [← h3.length, h1]
  refine ⟨cs', h3, hl, ?_⟩
  rw [← hl]
  exact run_loadCells_list w _ cs' (fun j v hj => by rw [addr_add]; exact h4 j v hj)

theorem WR.loads' (hw : WR D f h w) {b o n : Nat} {cs : List Value} (hc : h.cellsAt b o n = some cs) :
    ∃ cs', All2 (CR D f) cs cs' ∧ cs'.length = n ∧ ∀ w', w'.heap = w.heap → (loadCells ⟨(f b).1, o + (f b).2, none⟩ n).run P w' = .ok ⟨cs'⟩ w' := by
  obtain ⟨h1, h2⟩ := hw.cellsAt hc
  obtain ⟨cs', h3, h4⟩ := gather h2
  have hl : cs'.length = n := by rw [← h3.length, h1]
  refine ⟨cs', h3, hl, fun w' hw' => ?_⟩
  rw [← hl]
  exact run_loadCells_list w' _ cs' (fun j v hj => by rw [addr_add, ← h4 j v hj]; simp only [World.cell?, hw'])

theorem WR.load1 (hw : WR D f h w) {b o : Nat} {v : Value} (hc : h.cell b o = some v) :
    ∃ v', CR D f v v' ∧ w.cell? ⟨(f b).1, o + (f b).2, none⟩ = some v' := by
  unfold AHeap.cell at hc
  cases hl : h.cells? b with
  | none => simp [hl] at hc
  | some l =>
    simp [hl] at hc
    obtain ⟨v', k1, k2⟩ := hw.cells hl o v hc
    exact ⟨v', k2, by rw [← k1]; congr 2; omega⟩

theorem WR.map? (hw : WR D f h w) {b : Nat} {es : List (Int × Value)} (hc : h.map? b = some es) :
    ∃ ents clock, w.heap[(f b).1]? = some (.map ents clock) ∧ All2 (EntR D f) es ents.toList ∧ (es.map (·.1)).Nodup ∧ BornOK ents.toList clock := by
  unfold AHeap.map? at hc
  split at hc
  · rename_i l hg
    injection hc with hc; subst hc
    exact hw.obj b _ hg
  · simp at hc
end reads

/-! ### numbers -/
section nums
variable {P : Program} {w : World} {t : TypeId} {D : Dom} {f : Inj}

theorem run_binI {op : BinOp} {k : IntKind} {a b : Int} {v : Value} (h : binI op k a b = some v) (hs : op ≠ .shl) (hr : op ≠ .shr) : (binOp op t (.int k a) (.int k b)).run P w = .ok v w ∧ SR D f v v := by
  cases op <;> simp only [binI, bitsI, Option.some.injEq, reduceCtorEq] at h <;> first
    | (exact absurd rfl hs)
    | (exact absurd rfl hr)
    | (subst h; exact ⟨by simp [binOp, Op.intArith, Op.intBits, Op.intCmp, wr_eq], by first | exact .int _ _ | exact .bool _⟩)
    | (split at h
       · simp at h
       · rename_i hb; injection h with h; subst h; exact ⟨by simp [binOp, Op.intDiv, hb, wr_eq], .int _ _⟩)

theorem run_shiftI {op : BinOp} {k k' : IntKind} {a b : Int} {v : Value} (ho : op = .shl ∨ op = .shr) (h : shiftI op k a b = some v) : (binOp op t (.int k a) (.int k' b)).run P w = .ok v w ∧ SR D f v v := by
  unfold shiftI at h
  split at h
  · simp at h
  · rename_i hb
    rcases ho with rfl | rfl
    · simp only [Option.some.injEq] at h; subst h
      exact ⟨by simp [binOp, Op.shift, hb, wr_eq, Int.natCast_pow], .int _ _⟩
    · simp only [Option.some.injEq] at h; subst h
      exact ⟨by simp [binOp, Op.shift, hb, Int.natCast_pow], .int _ _⟩
end nums


/-! ### one operation after the other -/
section ops
variable {P : Program} {ms : List String} {N : Nat} {D : Dom} {f : Inj} {h : AHeap} {w : World} {e : Env} {a : Act}

theorem sim_part {g : Bool} {t : TypeId} {n off : Nat} {cs cs' : List Value} {v : Value} (hg : aggT P t = some g) (hn : sizeT P t = some n) (hr : All2 (CR D f) cs cs')
    (hv : (takeN n (cs.drop off)).bind (mkPart g) = some v) : ∃ v', (part t ⟨cs'⟩ off).run P w = .ok v' w ∧ TR D f v v' := by
  cases ht : takeN n (cs.drop off) with
  | none => simp [ht] at hv
  | some l =>
    simp only [ht, Option.bind_some] at hv
    have hl : l = (cs.drop off).take n := by
      unfold takeN at ht; split at ht
      · injection ht with ht; exact ht.symm
      · simp at ht
    have hlen := (takeN_some ht).1
    have h2 : All2 (CR D f) l ((cs'.drop off).take n) := by rw [hl]; exact (hr.drop off).take n
    simp only [part, Sem.run_bind, run_aggT hg, Result.andThen_ok, Sem.run_ite]
    cases g with
    | true =>
      simp only [mkPart, Option.some.injEq] at hv; subst hv
      have e1 : (⟨cs'⟩ : Array Value).extract off (off + n) = ⟨(cs'.drop off).take n⟩ := by
        apply Array.toList_inj.1
        simp
      simp only [if_true, Sem.run_bind, run_sizeT hn, Result.andThen_ok, Sem.run_pure, e1]
      exact ⟨_, rfl, .g (.agg h2)⟩
    | false =>
      cases l with
      | nil => simp [mkPart] at hv
      | cons x l =>
        cases l with
        | cons y l => simp [mkPart] at hv
        | nil =>
          simp only [mkPart, Option.some.injEq] at hv; subst hv
          simp at hlen
          subst hlen
          generalize hm : List.take 1 (List.drop off cs') = m at h2
          cases h2 with
          | @cons _ y _ ys hx _ =>
            have e1 : cs'[off]? = some y := by
              have := congrArg (fun l => l[0]?) hm
              simpa using this
            have e2 : (⟨cs'⟩ : Array Value)[off]? = some y := by simpa using e1
            simp only [Bool.false_eq_true, if_false, e2]
            exact ⟨y, rfl, .g (.c hx)⟩

theorem sim_load {t : TypeId} {x : Operand} {y : Opd} {g : Bool} {n : Nat} {v : Value} (he : EnvR D f N e a) (hw : WR D f h w) (hx : cOpd N x = some y) (hg : aggT P t = some g) (hn : sizeT P t = some n)
    (hv : evP e h (.load g n y) = some v) : ∃ v', (Instr.loadAt t (a.eval x)).run P w = .ok v' w ∧ TR D f v v' := by
  have hR := cOpd_R he hx
  simp only [evP] at hv
  split at hv
  · rename_i b o hy
    rw [hy] at hR
    obtain ⟨hb, hx'⟩ := hR.ptr_inv
    simp only [Instr.loadAt, Sem.run_bind, hx', Instr.sureAddr, Sem.run_pure, Result.andThen_ok, loadVar, run_aggT hg, Sem.run_ite]
    cases g with
    | true =>
      simp only [if_true] at hv ⊢
      cases hc : h.cellsAt b o n with
      | none => simp [hc] at hv
      | some cs =>
        simp [hc] at hv; subst hv
        obtain ⟨cs', h1, h2, h3⟩ := hw.loads (P := P) hc
        simp only [Sem.run_bind, run_sizeT hn, Result.andThen_ok, h3, Sem.run_pure]
        exact ⟨_, rfl, .g (.agg h1)⟩
    | false =>
      simp only [Bool.false_eq_true, if_false] at hv ⊢
      obtain ⟨v', h1, h2⟩ := hw.load1 hv
      exact ⟨v', by rw [run_load, h2], .g (.c h1)⟩
  · simp at hv

theorem setMany_R : ∀ {vs vs' : List Value} {cs cs' : List Value} {o : Nat}, All2 (CR D f) cs cs' → All2 (CR D f) vs vs' → All2 (CR D f) (setMany cs o vs) (setMany cs' o vs') := by
  intro vs
  induction vs with
  | nil => intro vs' cs cs' o h1 h2; cases h2; exact h1
  | cons v vs ih => intro vs' cs cs' o h1 h2; cases h2 with | cons h3 h4 => exact ih (h1.set h3 o) h4

theorem foldl_setMany : ∀ (vs : List Value) (k : Nat) (cs : List Value) (o : Nat),
    ((vs.zipIdx k).foldl (fun cs (p : Value × Nat) => cs.setIfInBounds (o + p.2) p.1) (⟨cs⟩ : Array Value)) = ⟨setMany cs (o + k) vs⟩ := by
  intro vs
  induction vs with
  | nil => intro k cs o; rfl
  | cons v vs ih =>
    intro k cs o
    simp only [List.zipIdx_cons, List.foldl_cons, setMany]
    have e1 : (⟨cs⟩ : Array Value).setIfInBounds (o + k) v = ⟨cs.set (o + k) v⟩ := by
      apply Array.toList_inj.1; simp
    rw [e1, ih]
    rfl

theorem sim_fill {place : Nat → Option (Nat × Nat)} (he : EnvR D f N e a) : ∀ {ps : List (Nat × Operand)} {qs : List (Nat × Nat × Opd)} {cs cs' r : List Value},
    cParts N place ps = some qs → All2 (CR D f) cs cs' → fillC e cs qs = some r →
    ∃ r', Instr.fill place ⟨cs'⟩ (ps.map fun (i, x) => (i, a.eval x)) = some ⟨r'⟩ ∧ All2 (CR D f) r r' := by
  intro ps
  induction ps with
  | nil => intro qs cs cs' r h1 h2 h3; simp [cParts] at h1; subst h1; simp [fillC] at h3; subst h3; exact ⟨cs', rfl, h2⟩
  | cons p ps ih =>
    obtain ⟨i, x⟩ := p
    intro qs cs cs' r h1 h2 h3
    simp only [cParts] at h1
    split at h1
    · rename_i off size y ys hp hx hys
      injection h1 with h1; subst h1
      simp only [fillC] at h3
      split at h3
      · rename_i hc
        have hR := (cOpd_R he hx).gr hc.2.2
        have hcells := hR.cells
        have hlen : (a.eval x).cells.size = size := by
          have := hcells.length
          rw [hc.1] at this; simpa using this.symm
        have hsz : cs'.length = cs.length := h2.length.symm
        simp only [List.map_cons, Instr.fill, hp]
        rw [if_neg (by simp [hlen, hsz]; omega)]
        have e1 : ((a.eval x).cells.zipIdx.foldl (fun cs (p : Value × Nat) => cs.setIfInBounds (off + p.2) p.1) (⟨cs'⟩ : Array Value)) = ⟨setMany cs' off (a.eval x).cells.toList⟩ := by
          rw [← Array.foldl_toList, Array.toList_zipIdx, foldl_setMany]; rfl
        rw [e1]
        exact ih hys (setMany_R h2 hcells) h3
      · simp at h3
    · simp at h1

end ops
end Go.Proofs.PantryEng
namespace Go.Proofs.PantryEng
open Go

section ops
variable {P : Program} {ms : List String} {N : Nat} {D : Dom} {f : Inj} {h : AHeap} {w : World} {e : Env} {a : Act}

theorem sim_nilCheck {v x' : Value} (hR : TR D f v x') {r : Value} (hv : nilV v = some r) :
    ∃ v', ((match x' with
    | .pointer none | .nilIface | .nilFunc => runtimePanic .nilDeref
    | .func (.method name) first captured =>
      match (first[0]? : Option Value) with
      | some .nilIface => runtimePanic .nilDeref
      | some (.iface t w) => do
        if (← nilAhead ((← program).types.size + Made.depth) t w name) != some false then
          unsupported (.noEntry "op/nilCheck.the method's receiver behind this interface value is a nil pointer, or cannot be seen to be none, and the arguments act or may panic (ledger 612)")
        pure (.value (.func (.method name) first captured))
      | _ => pure (.value (.func (.method name) first captured))
    | x => pure (.value x)) : Sem Next).run P w = .ok (.value v') w ∧ TR D f r v' := by
  unfold nilV at hv
  split at hv
  · injection hv with hv; subst hv
    rename_i ad
    rcases hR.ptr_inv' with ⟨h1, _⟩ | ⟨b, o, h1, hb, rfl⟩
    · simp at h1
    · exact ⟨_, rfl, hR⟩
  · injection hv with hv; subst hv
    obtain ⟨a', c', h1, h2, rfl⟩ := hR.func_inv
    exact ⟨_, rfl, hR⟩
  · injection hv with hv; subst hv
    obtain ⟨u, h1, rfl⟩ := hR.iface_inv
    exact ⟨_, rfl, hR⟩
  · simp at hv

theorem eqGuard_int {op : BinOp} {t : TypeId} {x y : Operand} {k k' : IntKind} {m n : Int} : (eqGuard op t x y (.int k m) (.int k' n)).run P w = .ok () w := by
  cases op <;> simp [eqGuard]
theorem eqGuard_string {op : BinOp} {t : TypeId} {x y : Operand} {m n : ByteArray} : (eqGuard op t x y (.string m) (.string n)).run P w = .ok () w := by
  cases op <;> simp [eqGuard]

theorem sim_binV {op : BinOp} {t : TypeId} {x y : Operand} {u v : Value} {r : Value} {u' v' : Value} (h1 : TR D f u u') (h2 : TR D f v v') (hv : binV op u v = some r) :
    (eqGuard op t x y u' v').run P w = .ok () w ∧ (binOp op t u' v').run P w = .ok r w ∧ TR D f r r := by
  unfold binV at hv
  split at hv
  · rename_i k m k' n
    obtain rfl := h1.int_inv
    obtain rfl := h2.int_inv
    refine ⟨eqGuard_int, ?_⟩
    split at hv
    · obtain ⟨e1, e2⟩ := run_shiftI (P := P) (w := w) (t := t) (k' := k') (D := D) (f := f) (.inl rfl) hv; exact ⟨e1, .sr e2⟩
    · obtain ⟨e1, e2⟩ := run_shiftI (P := P) (w := w) (t := t) (k' := k') (D := D) (f := f) (.inr rfl) hv; exact ⟨e1, .sr e2⟩
    · rename_i hs hr
      split at hv
      · rename_i hk; subst hk
        obtain ⟨e1, e2⟩ := run_binI (P := P) (w := w) (t := t) (D := D) (f := f) hv (fun e => hs e) (fun e => hr e); exact ⟨e1, .sr e2⟩
      · simp at hv
  · rename_i m n
    obtain rfl := h1.string_inv
    obtain rfl := h2.string_inv
    refine ⟨eqGuard_string, ?_⟩
    split at hv
    · injection hv with hv; subst hv; exact ⟨by simp [binOp, Op.stringOp], .sr (.bool _)⟩
    · injection hv with hv; subst hv; exact ⟨by simp [binOp, Op.stringOp], .sr (.bool _)⟩
    · simp at hv
  · simp at hv

theorem run_eq2 {neg : Bool} {t : TypeId} {u v : Value} {b : Bool} (h1 : binOp .eql t u v = do pure (.bool (← Op.equal t u v))) (h2 : binOp .neq t u v = do pure (.bool (!(← Op.equal t u v))))
    (he : ∀ d, (Op.equalIn (d + 1) t u v).run P w = .ok b w) : (binOp (if neg then .neq else .eql) t u v).run P w = .ok (.bool (b != neg)) w := by
  have he' : (Op.equal t u v).run P w = .ok b w := he 9999
  cases neg
  · rw [if_neg (by simp), h1, Sem.run_bind, he']; simp
  · rw [if_pos rfl, h2, Sem.run_bind, he']; simp

theorem flip_some {neg : Bool} {r : Option Bool} {v : Value} (h : flip neg r = some v) : ∃ b, r = some b ∧ v = .bool (b != neg) := by
  cases r with
  | none => simp [flip] at h
  | some b => simp [flip] at h; exact ⟨b, rfl, h.symm⟩

theorem eqGuard_other {op : BinOp} {t : TypeId} {x y : Operand} {u v : Value} (h1 : ∀ l, u ≠ .agg l) (h2 : u ≠ .nilIface) : (eqGuard op t x y u v).run P w = .ok () w := by
  cases u <;> first | exact absurd rfl h2 | exact absurd rfl (h1 _) | (cases op <;> cases v <;> simp [eqGuard])

theorem sim_eqBool {neg : Bool} {t : TypeId} {x y : Operand} {b c : Bool} (ht : P.underlying t = some .bool) :
    (eqGuard (if neg then .neq else .eql) t x y (.bool b) (.bool c)).run P w = .ok () w ∧ (binOp (if neg then .neq else .eql) t (.bool b) (.bool c)).run P w = .ok (.bool ((b == c) != neg)) w :=
  ⟨eqGuard_other (by simp) (by simp), run_eq2 rfl rfl (fun d => by simp [Op.equalIn, run_underlying ht])⟩

theorem owns_block (hw : WR D f h w) {b : Nat} (hb : h.owns b = true) : ∃ cs, h.get b = some (.cells cs) ∧ ∃ arr t, w.heap[(f b).1]? = some (.cells arr t (0, 0)) ∧ (f b).2 = 0 := by
  unfold AHeap.owns at hb
  split at hb
  · rename_i cs hg
    obtain ⟨h1, ⟨arr, t, h2, _⟩, _⟩ := hw.obj b _ hg
    exact ⟨cs, hg, arr, t, h2, h1⟩
  · simp at hb


theorem sim_eqPtr {neg : Bool} {t te : TypeId} {x y : Operand} {u v u' v' r : Value} (hw : WR D f h w) (h1 : TR D f u u') (h2 : TR D f v v') (ht : P.underlying t = some (.pointer te)) (hn : (sizeT P te).any (· != 0) = true)
    (hv : flip neg (ptrEq h u v) = some r) :
    (eqGuard (if neg then .neq else .eql) t x y u' v').run P w = .ok () w ∧ (binOp (if neg then .neq else .eql) t u' v').run P w = .ok r w ∧ TR D f r r := by
  obtain ⟨b, hb, rfl⟩ := flip_some hv
  obtain ⟨n, hsz, hn0⟩ : ∃ n, sizeT P te = some n ∧ n ≠ 0 := by
    cases hs : sizeT P te with
    | none => simp [hs] at hn
    | some n => simp [hs] at hn; exact ⟨n, rfl, hn⟩
  unfold ptrEq at hb
  split at hb
  · injection hb with hb; subst hb
    obtain rfl : u' = .pointer none := by rcases h1.ptr_inv' with ⟨_, e⟩ | ⟨b, o, e1, _⟩ <;> first | exact e | simp at e1
    obtain rfl : v' = .pointer none := by rcases h2.ptr_inv' with ⟨_, e⟩ | ⟨b, o, e1, _⟩ <;> first | exact e | simp at e1
    exact ⟨eqGuard_other (by simp) (by simp), run_eq2 rfl rfl (fun d => by simp [Op.equalIn, run_underlying ht]), .sr (.bool _)⟩
  · injection hb with hb; subst hb
    obtain rfl : u' = .pointer none := by rcases h1.ptr_inv' with ⟨_, e⟩ | ⟨b, o, e1, _⟩ <;> first | exact e | simp at e1
    obtain ⟨a, rfl⟩ : ∃ a, v' = .pointer (some a) := by rcases h2.ptr_inv' with ⟨e1, _⟩ | ⟨b, o, _, _, e⟩ <;> first | exact ⟨_, e⟩ | simp at e1
    exact ⟨eqGuard_other (by simp) (by simp), run_eq2 rfl rfl (fun d => by simp [Op.equalIn, run_underlying ht]), .sr (.bool _)⟩
  · injection hb with hb; subst hb
    obtain rfl : v' = .pointer none := by rcases h2.ptr_inv' with ⟨_, e⟩ | ⟨b, o, e1, _⟩ <;> first | exact e | simp at e1
    obtain ⟨a, rfl⟩ : ∃ a, u' = .pointer (some a) := by rcases h1.ptr_inv' with ⟨e1, _⟩ | ⟨b, o, _, _, e⟩ <;> first | exact ⟨_, e⟩ | simp at e1
    exact ⟨eqGuard_other (by simp) (by simp), run_eq2 rfl rfl (fun d => by simp [Op.equalIn, run_underlying ht]), .sr (.bool _)⟩
  · rename_i b1 o1 b2 o2
    obtain ⟨d1, rfl⟩ := h1.ptr_inv
    obtain ⟨d2, rfl⟩ := h2.ptr_inv
    refine ⟨eqGuard_other (by simp) (by simp), run_eq2 rfl rfl (fun d => ?_), .sr (.bool _)⟩
    simp only [Op.equalIn, Sem.run_bind, run_underlying ht, Result.andThen_ok, run_sizeT hsz, hn0, ne_eq, not_false_eq_true, if_true]
    split at hb
    · rename_i hbb
      subst hbb
      injection hb with hb; subst hb
      simp only [sameAddr, beq_self_eq_true, if_true, Sem.run_pure, Sem.run_ite]
      congr 1
      rw [Bool.eq_iff_iff]
      simp
    · split at hb
      · rename_i hbb hown
        injection hb with hb; subst hb
        simp only [Bool.and_eq_true] at hown
        obtain ⟨c1, g1, arr1, t1, k1, _⟩ := owns_block hw hown.1
        obtain ⟨c2, g2, arr2, t2, k2, _⟩ := owns_block hw hown.2
        have hne := hw.apart b1 b2 _ _ g1 g2 rfl hbb
        exact run_sameAddr_other w (fun e => hne (by injection e)) k1 k2
      · simp at hb
  · simp at hb

theorem sim_eqNilS {neg : Bool} {t te : TypeId} {x y : Operand} {u v u' v' r : Value} (h1 : TR D f u u') (h2 : TR D f v v') (ht : P.underlying t = some (.slice te))
    (hv : flip neg (nilEq 0 u v) = some r) :
    (eqGuard (if neg then .neq else .eql) t x y u' v').run P w = .ok () w ∧ (binOp (if neg then .neq else .eql) t u' v').run P w = .ok r w ∧ TR D f r r := by
  obtain ⟨b, hb, rfl⟩ := flip_some hv
  unfold nilEq at hb
  split at hb <;> first | (rename_i hx; cases hx; done) | skip
  · injection hb with hb; subst hb
    obtain rfl : u' = .slice none 0 0 := by rcases h1.slice_inv with ⟨_, _, _, e⟩ | ⟨_, _, _, _, e1, _⟩ <;> first | exact e | simp at e1
    rcases h2.slice_inv with ⟨rfl, _, _, rfl⟩ | ⟨_, _, _, _, rfl, _, _, _, rfl⟩
    · exact ⟨eqGuard_other (by simp) (by simp), run_eq2 rfl rfl (fun d => by simp [Op.equalIn, run_underlying ht]), .sr (.bool _)⟩
    · exact ⟨eqGuard_other (by simp) (by simp), run_eq2 rfl rfl (fun d => by simp [Op.equalIn, run_underlying ht]), .sr (.bool _)⟩
  · injection hb with hb; subst hb
    obtain rfl : v' = .slice none 0 0 := by rcases h2.slice_inv with ⟨_, _, _, e⟩ | ⟨_, _, _, _, e1, _⟩ <;> first | exact e | simp at e1
    rcases h1.slice_inv with ⟨e1, _⟩ | ⟨_, _, _, _, _, _, _, _, rfl⟩
    · simp at e1
    · exact ⟨eqGuard_other (by simp) (by simp), run_eq2 rfl rfl (fun d => by simp [Op.equalIn, run_underlying ht]), .sr (.bool _)⟩
  all_goals simp at hb

theorem sim_eqNilM {neg : Bool} {t tk te : TypeId} {x y : Operand} {u v u' v' r : Value} (h1 : TR D f u u') (h2 : TR D f v v') (ht : P.underlying t = some (.map tk te))
    (hv : flip neg (nilEq 1 u v) = some r) :
    (eqGuard (if neg then .neq else .eql) t x y u' v').run P w = .ok () w ∧ (binOp (if neg then .neq else .eql) t u' v').run P w = .ok r w ∧ TR D f r r := by
  obtain ⟨b, hb, rfl⟩ := flip_some hv
  unfold nilEq at hb
  split at hb <;> first | (rename_i hx; cases hx; done) | skip
  · injection hb with hb; subst hb
    obtain rfl : u' = .map none := by rcases h1.map_inv with ⟨_, e⟩ | ⟨_, e1, _⟩ <;> first | exact e | simp at e1
    rcases h2.map_inv with ⟨rfl, rfl⟩ | ⟨_, rfl, _, rfl⟩
    · exact ⟨eqGuard_other (by simp) (by simp), run_eq2 rfl rfl (fun d => by simp [Op.equalIn, run_underlying ht]), .sr (.bool _)⟩
    · exact ⟨eqGuard_other (by simp) (by simp), run_eq2 rfl rfl (fun d => by simp [Op.equalIn, run_underlying ht]), .sr (.bool _)⟩
  · injection hb with hb; subst hb
    obtain rfl : v' = .map none := by rcases h2.map_inv with ⟨_, e⟩ | ⟨_, e1, _⟩ <;> first | exact e | simp at e1
    rcases h1.map_inv with ⟨e1, _⟩ | ⟨_, _, _, rfl⟩
    · simp at e1
    · exact ⟨eqGuard_other (by simp) (by simp), run_eq2 rfl rfl (fun d => by simp [Op.equalIn, run_underlying ht]), .sr (.bool _)⟩
  all_goals simp at hb

theorem sim_eqNilF {neg : Bool} {t : TypeId} {p q : Array TypeId} {z : Bool} {x y : Operand} {u v u' v' r : Value} (h1 : TR D f u u') (h2 : TR D f v v') (ht : P.underlying t = some (.func p q z))
    (hv : flip neg (nilEq 2 u v) = some r) :
    (eqGuard (if neg then .neq else .eql) t x y u' v').run P w = .ok () w ∧ (binOp (if neg then .neq else .eql) t u' v').run P w = .ok r w ∧ TR D f r r := by
  obtain ⟨b, hb, rfl⟩ := flip_some hv
  unfold nilEq at hb
  split at hb <;> first | (rename_i hx; cases hx; done) | skip
  · injection hb with hb; subst hb
    obtain rfl := h1.nilFunc_inv
    obtain rfl := h2.nilFunc_inv
    exact ⟨eqGuard_other (by simp) (by simp), run_eq2 rfl rfl (fun d => by simp [Op.equalIn, run_underlying ht]), .sr (.bool _)⟩
  · injection hb with hb; subst hb
    obtain rfl := h1.nilFunc_inv
    obtain ⟨_, _, _, _, rfl⟩ := h2.func_inv
    exact ⟨eqGuard_other (by simp) (by simp), run_eq2 rfl rfl (fun d => by simp [Op.equalIn, run_underlying ht]), .sr (.bool _)⟩
  · injection hb with hb; subst hb
    obtain rfl := h2.nilFunc_inv
    obtain ⟨_, _, _, _, rfl⟩ := h1.func_inv
    exact ⟨eqGuard_other (by simp) (by simp), run_eq2 rfl rfl (fun d => by simp [Op.equalIn, run_underlying ht]), .sr (.bool _)⟩
  all_goals simp at hb

theorem sim_eqIface {neg : Bool} {t : TypeId} {ms : Array (String × TypeId)} {x y : Operand} {u v u' v' r : Value} (h1 : TR D f u u') (h2 : TR D f v v') (ht : P.underlying t = some (.interface ms))
    (hc : (isC x || isC y) = true) (hv : flip neg (ifaceEq u v) = some r) :
    (eqGuard (if neg then .neq else .eql) t x y u' v').run P w = .ok () w ∧ (binOp (if neg then .neq else .eql) t u' v').run P w = .ok r w ∧ TR D f r r := by
  obtain ⟨b, hb, rfl⟩ := flip_some hv
  have hg : ∀ u' v' : Value, (∀ l, u' ≠ .agg l) → (eqGuard (if neg then .neq else .eql) t x y u' v').run P w = .ok () w := by
    intro u' v' hn
    cases u' <;> first
      | exact absurd rfl (hn _)
      | (cases v' <;> first
          | (cases neg <;> simp [eqGuard]; done)
          | (have : ((x matches .const _) || (y matches .const _)) = true := by
               cases x <;> cases y <;> simp [isC] at hc ⊢
             cases neg <;> simp [eqGuard] <;> (cases x <;> cases y <;> simp [isC] at hc ⊢)))
  unfold ifaceEq at hb
  split at hb
  · injection hb with hb; subst hb
    obtain rfl := h1.nilIface_inv
    obtain rfl := h2.nilIface_inv
    exact ⟨hg _ _ (by simp), run_eq2 rfl rfl (fun d => by simp [Op.equalIn, run_underlying ht]), .sr (.bool _)⟩
  · injection hb with hb; subst hb
    obtain rfl := h1.nilIface_inv
    obtain ⟨_, _, rfl⟩ := h2.iface_inv
    exact ⟨hg _ _ (by simp), run_eq2 rfl rfl (fun d => by simp [Op.equalIn, run_underlying ht]), .sr (.bool _)⟩
  · injection hb with hb; subst hb
    obtain rfl := h2.nilIface_inv
    obtain ⟨_, _, rfl⟩ := h1.iface_inv
    exact ⟨hg _ _ (by simp), run_eq2 rfl rfl (fun d => by simp [Op.equalIn, run_underlying ht]), .sr (.bool _)⟩
  · simp at hb

end ops
end Go.Proofs.PantryEng

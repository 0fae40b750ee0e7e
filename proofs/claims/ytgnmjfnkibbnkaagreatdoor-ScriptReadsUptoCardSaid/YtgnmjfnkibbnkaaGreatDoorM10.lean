/- The engine, part 23: a law's arguments, one after another; what the abstract heap shows of them. -/
import Derived.Test.YtgnmjfnkibbnkaaGreatDoorM9
import Derived.Carry
import Derived.ChangeShapes
import Derived.WideShapes
set_option linter.unusedSimpArgs false
set_option linter.unusedVariables false
namespace Go.Proofs.PantryEng
open Go

abbrev Frag := Nat → Option AObj
abbrev SL := Frag → Prop
def Sub (a m : Frag) : Prop := ∀ k o, a k = some o → m k = some o
def Dj (a b : Frag) : Prop := ∀ k, a k = none ∨ b k = none
def un (a b : Frag) : Frag := fun k => match a k with | some o => some o | none => b k
/-- Parts beside one another, and whatever else. -/
def Star : List SL → Frag → Prop
  | [], _ => True
  | p :: l, m => ∃ a b, Dj a b ∧ Sub a m ∧ Sub b m ∧ p a ∧ Star l b
def Sat (l : List SL) (h : AHeap) : Prop := (∀ b o, h.get b = some o → b < h.next) ∧ Star l h.get

def pt (b : Nat) (o : AObj) : SL := fun m => m b = some o
def ex {α : Type} (f : α → SL) : SL := fun m => ∃ x, f x m
def pu (p : Prop) : SL := fun _ => p
def many (l : List SL) : SL := Star l
/-- All blocks of a table. -/
def hm (t : Frag) : SL := fun m => Sub t m

theorem Sub.refl (a : Frag) : Sub a a := fun _ _ h => h
theorem Sub.trans {a b c : Frag} (x : Sub a b) (y : Sub b c) : Sub a c := fun k o h => y k o (x k o h)
theorem Dj.symm {a b : Frag} (h : Dj a b) : Dj b a := fun k => (h k).symm
theorem Dj.sub {a b a' b' : Frag} (h : Dj a b) (ha : Sub a' a) (hb : Sub b' b) : Dj a' b' := by
  intro k
  rcases h k with h | h
  · left
    cases h1 : a' k with
    | none => rfl
    | some o => rw [ha k o h1] at h; simp at h
  · right
    cases h1 : b' k with
    | none => rfl
    | some o => rw [hb k o h1] at h; simp at h
theorem un_l (a b : Frag) : Sub a (un a b) := fun k o h => by simp [un, h]
theorem un_r {a b : Frag} (hd : Dj a b) : Sub b (un a b) := fun k o h => by
  rcases hd k with h1 | h1
  · simp [un, h1, h]
  · rw [h1] at h; simp at h
theorem un_sub {a b m : Frag} (ha : Sub a m) (hb : Sub b m) : Sub (un a b) m := fun k o h => by
  unfold un at h
  split at h
  · rename_i o' h1; injection h with h; subst h; exact ha _ _ h1
  · exact hb _ _ h
theorem dj_un {a b c : Frag} (h1 : Dj a b) (h2 : Dj a c) : Dj a (un b c) := fun k => by
  rcases h1 k with h | h
  · exact .inl h
  · rcases h2 k with h' | h'
    · exact .inl h'
    · right; simp [un, h, h']

theorem Star.sub : ∀ {l : List SL} {m m' : Frag}, Star l m → Sub m m' → Star l m' := by
  intro l
  cases l with
  | nil => intro m m' _ _; trivial
  | cons p l =>
    rintro m m' ⟨a, b, h1, h2, h3, h4⟩ hs
    exact ⟨a, b, h1, h2.trans hs, h3.trans hs, h4⟩
theorem Star.swap {p q : SL} {l : List SL} {m : Frag} (h : Star (p :: q :: l) m) : Star (q :: p :: l) m := by
  obtain ⟨a, b, h1, h2, h3, h4, c, d, k1, k2, k3, k4, k5⟩ := h
  have hd : Dj a d := h1.sub (Sub.refl _) k3
  refine ⟨c, un a d, dj_un (h1.sub (Sub.refl _) k2).symm k1, k2.trans h3, un_sub h2 (k3.trans h3), k4, a, d, hd, un_l _ _, un_r hd, h4, k5⟩
theorem Star.perm {l l' : List SL} (hp : l.Perm l') : ∀ {m : Frag}, Star l m → Star l' m := by
  induction hp with
  | nil => intro m h; exact h
  | cons x _ ih => rintro m ⟨a, b, h1, h2, h3, h4, h5⟩; exact ⟨a, b, h1, h2, h3, h4, ih h5⟩
  | swap x y l => intro m h; exact h.swap
  | trans _ _ ih1 ih2 => intro m h; exact ih2 (ih1 h)
theorem Star.app : ∀ {l k : List SL} {m : Frag}, Star (l ++ k) m ↔ ∃ a b, Dj a b ∧ Sub a m ∧ Sub b m ∧ Star l a ∧ Star k b := by
  intro l
  induction l with
  | nil =>
    intro k m
    constructor
    · intro h; exact ⟨fun _ => none, m, fun _ => .inl rfl, fun _ _ h => by simp at h, Sub.refl _, trivial, h⟩
    · rintro ⟨a, b, _, _, h3, _, h5⟩; exact h5.sub h3
  | cons p l ih =>
    intro k m
    constructor
    · rintro ⟨a, b, h1, h2, h3, h4, h5⟩
      obtain ⟨c, d, k1, k2, k3, k4, k5⟩ := ih.1 h5
      have hac : Dj a c := h1.sub (Sub.refl _) k2
      refine ⟨un a c, d, (dj_un (h1.sub (Sub.refl _) k3).symm k1.symm).symm, un_sub h2 (k2.trans h3), k3.trans h3, ⟨a, c, hac, un_l _ _, un_r hac, h4, k4⟩, k5⟩
    · rintro ⟨c, d, h1, h2, h3, ⟨a, b, k1, k2, k3, k4, k5⟩, h5⟩
      have hbd : Dj b d := h1.sub k3 (Sub.refl _)
      exact ⟨a, un b d, dj_un k1 (h1.sub k2 (Sub.refl _)), k2.trans h2, un_sub (k3.trans h2) h3, k4, ih.2 ⟨b, d, hbd, un_l _ _, un_r hbd, k5, h5⟩⟩

section
variable {h : AHeap} {p q : SL} {R l : List SL}

theorem Sat.perm {l' : List SL} (hp : l.Perm l') (hh : Sat l h) : Sat l' h := ⟨hh.1, hh.2.perm hp⟩
theorem Sat.tail (hh : Sat (p :: R) h) : Sat R h := by
  obtain ⟨h0, a, b, _, _, h3, _, h5⟩ := hh
  exact ⟨h0, h5.sub h3⟩
theorem Sat.imp (hh : Sat (p :: R) h) (hq : ∀ m, p m → q m) : Sat (q :: R) h := by
  obtain ⟨h0, a, b, h1, h2, h3, h4, h5⟩ := hh
  exact ⟨h0, a, b, h1, h2, h3, hq _ h4, h5⟩
theorem Sat_many : Sat (many l :: R) h ↔ Sat (l ++ R) h := by
  constructor
  · rintro ⟨h0, a, b, h1, h2, h3, h4, h5⟩; exact ⟨h0, Star.app.2 ⟨a, b, h1, h2, h3, h4, h5⟩⟩
  · rintro ⟨h0, hs⟩
    obtain ⟨a, b, h1, h2, h3, h4, h5⟩ := Star.app.1 hs
    exact ⟨h0, a, b, h1, h2, h3, h4, h5⟩
theorem Sat_ex {α : Type} {f : α → SL} : Sat (ex f :: R) h ↔ ∃ x, Sat (f x :: R) h := by
  constructor
  · rintro ⟨h0, a, b, h1, h2, h3, ⟨x, h4⟩, h5⟩; exact ⟨x, h0, a, b, h1, h2, h3, h4, h5⟩
  · rintro ⟨x, h0, a, b, h1, h2, h3, h4, h5⟩; exact ⟨h0, a, b, h1, h2, h3, ⟨x, h4⟩, h5⟩
theorem Sat_pu {c : Prop} : Sat (pu c :: R) h ↔ c ∧ Sat R h := by
  constructor
  · rintro hh; exact ⟨by obtain ⟨_, a, b, _, _, _, h4, _⟩ := hh; exact h4, hh.tail⟩
  · rintro ⟨hc, h0, hs⟩; exact ⟨h0, fun _ => none, h.get, fun _ => .inl rfl, fun _ _ h => by simp at h, Sub.refl _, hc, hs⟩
theorem Sat.pull1 {a b : SL} (hh : Sat (a :: b :: l) h) : Sat (b :: a :: l) h := ⟨hh.1, hh.2.swap⟩
theorem Sat.cons_perm {l l' : List SL} {a : SL} (hp : l.Perm (a :: l')) {x : SL} : (x :: l).Perm (a :: x :: l') := (List.Perm.cons x hp).trans (List.Perm.swap a x l')
theorem Sat.pull2 {a b c : SL} (hh : Sat (a :: b :: c :: l) h) : Sat (c :: a :: b :: l) h := hh.perm (cons_perm (.swap ..))
theorem Sat.pull3 {a b c d : SL} (hh : Sat (a :: b :: c :: d :: l) h) : Sat (d :: a :: b :: c :: l) h := hh.perm (cons_perm (cons_perm (.swap ..)))
theorem Sat.pull4 {a b c d e : SL} (hh : Sat (a :: b :: c :: d :: e :: l) h) : Sat (e :: a :: b :: c :: d :: l) h := hh.perm (cons_perm (cons_perm (cons_perm (.swap ..))))
theorem Sat.pull5 {a b c d e f : SL} (hh : Sat (a :: b :: c :: d :: e :: f :: l) h) : Sat (f :: a :: b :: c :: d :: e :: l) h := hh.perm (cons_perm (cons_perm (cons_perm (cons_perm (.swap ..)))))
theorem Sat.pull6 {a b c d e f g : SL} (hh : Sat (a :: b :: c :: d :: e :: f :: g :: l) h) : Sat (g :: a :: b :: c :: d :: e :: f :: l) h := hh.perm (cons_perm (cons_perm (cons_perm (cons_perm (cons_perm (.swap ..))))))
theorem Sat.pull7 {a b c d e f g i : SL} (hh : Sat (a :: b :: c :: d :: e :: f :: g :: i :: l) h) : Sat (i :: a :: b :: c :: d :: e :: f :: g :: l) h := hh.perm (cons_perm (cons_perm (cons_perm (cons_perm (cons_perm (cons_perm (.swap ..)))))))
theorem Sat.push1 {a b : SL} (hh : Sat (a :: b :: l) h) : Sat (b :: a :: l) h := hh.pull1
theorem Sat.push2 {a b c : SL} (hh : Sat (a :: b :: c :: l) h) : Sat (b :: c :: a :: l) h := hh.pull2.pull2
theorem Sat.push3 {a b c d : SL} (hh : Sat (a :: b :: c :: d :: l) h) : Sat (b :: c :: d :: a :: l) h := hh.pull3.pull3.pull3
theorem Sat.push4 {a b c d e : SL} (hh : Sat (a :: b :: c :: d :: e :: l) h) : Sat (b :: c :: d :: e :: a :: l) h := hh.pull4.pull4.pull4.pull4
theorem Sat.push5 {a b c d e f : SL} (hh : Sat (a :: b :: c :: d :: e :: f :: l) h) : Sat (b :: c :: d :: e :: f :: a :: l) h := hh.pull5.pull5.pull5.pull5.pull5

/-- Parts in another order: by their places. -/
def nthS : List SL → Nat → Option SL
  | [], _ => none
  | p :: _, 0 => some p
  | _ :: l, i + 1 => nthS l i
def delS : List SL → Nat → List SL
  | [], _ => []
  | _ :: l, 0 => l
  | p :: l, i + 1 => p :: delS l i
def less (i : Nat) : List Nat → List Nat
  | [] => []
  | k :: ks => (if i < k then k - 1 else k) :: less i ks
def reL : Nat → List SL → List Nat → List SL
  | 0, l, _ => l
  | _ + 1, l, [] => l
  | n + 1, l, i :: is => match nthS l i with | some p => p :: reL n (delS l i) (less i is) | none => l
attribute [simp] nthS delS less reL
theorem nthS_perm : ∀ {l : List SL} {i : Nat} {p : SL}, nthS l i = some p → l.Perm (p :: delS l i) := by
  intro l
  induction l with
  | nil => intro i p h; simp [nthS] at h
  | cons a l ih =>
    intro i p h
    cases i with
    | zero => simp only [nthS, Option.some.injEq] at h; subst h; exact .refl _
    | succ i => exact (List.Perm.cons a (ih h)).trans (List.Perm.swap p a _)
theorem reL_perm : ∀ {n : Nat} {l : List SL} {is : List Nat}, l.Perm (reL n l is) := by
  intro n
  induction n with
  | zero => intro l is; exact .refl _
  | succ n ih =>
    intro l is
    cases is with
    | nil => exact .refl _
    | cons i is =>
      simp only [reL]
      split
      · rename_i p hp; exact (nthS_perm hp).trans (List.Perm.cons p ih)
      · exact .refl _
theorem Sat.drop1 {a b : SL} (hh : Sat (a :: b :: l) h) : Sat (a :: l) h := hh.pull1.tail
theorem Sat.drop2 {a b c : SL} (hh : Sat (a :: b :: c :: l) h) : Sat (a :: b :: l) h := hh.pull2.tail
theorem Sat.drop3 {a b c d : SL} (hh : Sat (a :: b :: c :: d :: l) h) : Sat (a :: b :: c :: l) h := hh.pull3.tail
theorem Sat.drop4 {a b c d e : SL} (hh : Sat (a :: b :: c :: d :: e :: l) h) : Sat (a :: b :: c :: d :: l) h := hh.pull4.tail
theorem Sat.drop5 {a b c d e f : SL} (hh : Sat (a :: b :: c :: d :: e :: f :: l) h) : Sat (a :: b :: c :: d :: e :: l) h := hh.pull5.tail
theorem Sat.re (hh : Sat l h) (is : List Nat) : Sat (reL 12 l is) h := hh.perm reL_perm
theorem Sat.fine (hh : Sat l h) : Fine h := hh.1
theorem Sat.get {b : Nat} {o : AObj} (hh : Sat (pt b o :: R) h) : h.get b = some o := by
  obtain ⟨_, a, _, _, h2, _, h4, _⟩ := hh
  exact h2 _ _ h4
theorem Sat.cells {b : Nat} {cs : List Value} (hh : Sat (pt b (.cells cs) :: R) h) : h.cells? b = some cs := by simp [AHeap.cells?, hh.get]
theorem Sat.map {b : Nat} {es : List (Int × Value)} (hh : Sat (pt b (.map es) :: R) h) : h.map? b = some es := by simp [AHeap.map?, hh.get]
theorem Sat.ne {b c : Nat} {o o' : AObj} (hh : Sat (pt b o :: pt c o' :: R) h) : b ≠ c := by
  obtain ⟨_, a, x, h1, _, _, h4, d, _, _, k2, _, k4, _⟩ := hh
  rintro rfl
  rcases h1 b with h | h
  · rw [h4] at h; simp at h
  · rw [k2 _ _ k4] at h; simp at h
theorem Sat.lt {b : Nat} {o : AObj} (hh : Sat (pt b o :: R) h) : b < h.next := hh.1 _ _ hh.get

/-- A block's content, changed. -/
theorem Sat.set {b : Nat} {o o' : AObj} (hh : Sat (pt b o :: R) h) : Sat (pt b o' :: R) (h.set b o') := by
  have hlt := hh.lt
  obtain ⟨h0, a, c, h1, h2, h3, h4, h5⟩ := hh
  refine ⟨fun j x hj => ?_, fun k => if k = b then some o' else none, c, fun k => ?_, fun k x hk => ?_, fun k x hk => ?_, by simp [pt], h5⟩
  · rw [AHeap.get_set] at hj
    split at hj
    · rename_i e; subst e; exact hlt
    · exact h0 _ _ hj
  · by_cases hk : k = b
    · subst hk
      right
      rcases h1 k with h | h
      · rw [h4] at h; simp at h
      · exact h
    · left; simp [hk]
  · by_cases e : k = b
    · subst e; simp at hk; subst hk; rw [AHeap.get_set, if_pos rfl]
    · simp [e] at hk
  · rw [AHeap.get_set, if_neg]
    · exact h3 _ _ hk
    · rintro rfl
      rcases h1 b with h | h
      · rw [h4] at h; simp at h
      · rw [hk] at h; simp at h
/-- A new block. -/
theorem Sat.new (hh : Sat R h) (o : AObj) : Sat (pt h.next o :: R) (h.new o) := by
  obtain ⟨h0, hs⟩ := hh
  refine ⟨fun j x hj => ?_, fun k => if k = h.next then some o else none, h.get, fun k => ?_, fun k x hk => ?_, fun k x hk => ?_, by simp [pt], hs⟩
  · rw [AHeap.get_new] at hj
    split at hj
    · rename_i e; subst e; exact Nat.lt_succ_self _
    · exact Nat.lt_succ_of_lt (h0 _ _ hj)
  · by_cases hk : k = h.next
    · subst hk
      right
      cases hg : h.get h.next with
      | none => rfl
      | some x => exact absurd (h0 _ _ hg) (Nat.lt_irrefl _)
    · left; simp [hk]
  · by_cases e : k = h.next
    · subst e; simp at hk; subst hk; rw [AHeap.get_new, if_pos rfl]
    · simp [e] at hk
  · rw [AHeap.get_new, if_neg]
    · exact hk
    · intro e; subst e; exact absurd (h0 _ _ hk) (Nat.lt_irrefl _)
theorem Sat.del {b : Nat} {o : AObj} (hh : Sat (pt b o :: R) h) : Sat R (h.del b) := by
  obtain ⟨h0, a, c, h1, h2, h3, h4, h5⟩ := hh
  refine ⟨fun j x hj => ?_, h5.sub fun k x hk => ?_⟩
  · rw [AHeap.get_del] at hj
    split at hj
    · simp at hj
    · exact h0 _ _ hj
  · rw [AHeap.get_del, if_neg]
    · exact h3 _ _ hk
    · rintro rfl
      rcases h1 b with h | h
      · rw [h4] at h; simp at h
      · rw [hk] at h; simp at h

/-! ### tables of blocks -/
def hup (t : Frag) (b : Nat) (o : AObj) : Frag := fun k => if k = b then some o else t k
def hrm (t : Frag) (b : Nat) : Frag := fun k => if k = b then none else t k
theorem Sat.hget {t : Frag} {b : Nat} {o : AObj} (hh : Sat (hm t :: R) h) (hb : t b = some o) : h.get b = some o := by
  obtain ⟨_, a, _, _, h2, _, h4, _⟩ := hh
  exact h2 _ _ (h4 _ _ hb)
theorem Sat.hout {t : Frag} {b : Nat} {o : AObj} (hh : Sat (hm t :: R) h) (hb : t b = some o) : Sat (pt b o :: hm (hrm t b) :: R) h := by
  obtain ⟨h0, a, c, h1, h2, h3, h4, h5⟩ := hh
  have s1 : Sub (fun k => if k = b then some o else none) a := fun k x hk => by
    by_cases e : k = b
    · subst e; simp at hk; subst hk; exact h4 _ _ hb
    · simp [e] at hk
  have s2 : Sub (hrm t b) a := fun k x hk => by
    by_cases e : k = b
    · simp [hrm, e] at hk
    · simp [hrm, e] at hk; exact h4 _ _ hk
  have d1 : Dj (fun k => if k = b then some o else none) (hrm t b) := fun k => by
    by_cases e : k = b
    · right; simp [hrm, e]
    · left; simp [e]
  refine ⟨h0, fun k => if k = b then some o else none, un (hrm t b) c, dj_un d1 (h1.sub s1 (Sub.refl _)), s1.trans h2, un_sub (s2.trans h2) h3, by simp [pt], hrm t b, c, h1.sub s2 (Sub.refl _), un_l _ _, un_r (h1.sub s2 (Sub.refl _)), Sub.refl _, h5⟩
theorem Sat.hin {t : Frag} {b : Nat} {o : AObj} (hh : Sat (pt b o :: hm t :: R) h) : Sat (hm (hup t b o) :: R) h := by
  obtain ⟨h0, a, x, h1, h2, h3, h4, c, d, k1, k2, k3, k4, k5⟩ := hh
  have hac : Dj a c := h1.sub (Sub.refl _) k2
  refine ⟨h0, un a c, d, (dj_un (h1.sub (Sub.refl _) k3).symm k1.symm).symm, un_sub h2 (k2.trans h3), k3.trans h3, fun k y hk => ?_, k5⟩
  unfold hup at hk
  split at hk
  · rename_i e; subst e; injection hk with hk; subst hk; exact un_l _ _ _ _ h4
  · exact un_r hac _ _ (k4 _ _ hk)
theorem Sat.hsub {t t' : Frag} (hh : Sat (hm t :: R) h) (hs : Sub t' t) : Sat (hm t' :: R) h := hh.imp fun _ hm => hs.trans hm
theorem Sat.hset {t : Frag} {b : Nat} {o : AObj} (hh : Sat (hm t :: R) h) (hb : t b = some o) (o' : AObj) : Sat (hm (hup t b o') :: R) (h.set b o') := by
  refine ((hh.hout hb).set (o' := o')).hin.hsub fun k x hk => ?_
  unfold hup hrm at *
  split at hk
  · rename_i e; simp [e]; simpa using hk
  · rename_i e; simp [e, hk]
theorem Sat.hnew {t : Frag} (hh : Sat (hm t :: R) h) (o : AObj) : Sat (hm (hup t h.next o) :: R) (h.new o) := (hh.new o).hin
theorem Sat.hnone {t : Frag} {b : Nat} {o : AObj} (hh : Sat (pt b o :: hm t :: R) h) : t b = none := by
  obtain ⟨_, a, x, h1, h2, h3, h4, c, d, k1, k2, k3, k4, k5⟩ := hh
  cases hb : t b with
  | none => rfl
  | some y =>
    rcases h1 b with h | h
    · rw [h4] at h; simp at h
    · rw [k2 _ _ (k4 _ _ hb)] at h; simp at h
theorem Sat.hlt {t : Frag} {b : Nat} {o : AObj} (hh : Sat (hm t :: R) h) (hb : t b = some o) : b < h.next := hh.1 _ _ (hh.hget hb)
/-- A table of nothing. -/
theorem Sat.hnil (hh : Sat R h) : Sat (hm (fun _ => none) :: R) h := ⟨hh.1, fun _ => none, h.get, fun _ => .inl rfl, fun _ _ h => by simp at h, Sub.refl _, fun _ _ h => by simp at h, hh.2⟩
end

/-! ### slices of one's own -/
def ownS (v : Value) (size : Nat) (cs : List Value) : SL := fun m => (v = .slice none 0 0 ∧ cs = []) ∨ ∃ b n, v = .slice (some ⟨b, 0, none⟩) n (size + 1) ∧ m b = some (.cells cs) ∧ cs.length = n * size

section
variable {h : AHeap} {R : List SL}
theorem Sat.own_nil {size : Nat} (hh : Sat R h) : Sat (ownS (.slice none 0 0) size [] :: R) h :=
  ⟨hh.1, fun _ => none, h.get, fun _ => .inl rfl, fun _ _ h => by simp at h, Sub.refl _, .inl ⟨rfl, rfl⟩, hh.2⟩
theorem Sat.own_of {b n size : Nat} {cs : List Value} (hh : Sat (pt b (.cells cs) :: R) h) (hl : cs.length = n * size) : Sat (ownS (.slice (some ⟨b, 0, none⟩) n (size + 1)) size cs :: R) h :=
  hh.imp fun m hm => .inr ⟨b, n, rfl, hm, hl⟩
theorem Sat.own_cases {v : Value} {size : Nat} {cs : List Value} (hh : Sat (ownS v size cs :: R) h) : (v = .slice none 0 0 ∧ cs = [] ∧ Sat R h) ∨ ∃ b n, v = .slice (some ⟨b, 0, none⟩) n (size + 1) ∧ cs.length = n * size ∧ Sat (pt b (.cells cs) :: R) h := by
  have ht := hh.tail
  obtain ⟨h0, a, c, h1, h2, h3, h4, h5⟩ := hh
  rcases h4 with ⟨rfl, rfl⟩ | ⟨b, n, rfl, h6, h7⟩
  · exact .inl ⟨rfl, rfl, ht⟩
  · exact .inr ⟨b, n, rfl, h7, h0, a, c, h1, h2, h3, h6, h5⟩
theorem Sat.own_slice {v : Value} {size : Nat} {cs : List Value} (hh : Sat (ownS v size cs :: R) h) : ∃ a n c, v = .slice a n c ∧ cs.length = n * size := by
  rcases hh.own_cases with ⟨rfl, rfl, _⟩ | ⟨b, n, rfl, hl, _⟩
  · exact ⟨_, 0, _, rfl, by simp⟩
  · exact ⟨_, _, _, rfl, hl⟩
theorem takeN_eq {n : Nat} {l : List Value} (h : l.length = n) : takeN n l = some l := by
  unfold takeN; rw [List.take_of_length_le (by omega), if_pos h]
/-- Append. -/
theorem Sat.append {v x : Value} {size bytes n m : Nat} {cs new : List Value} (hh : Sat (ownS v size cs :: R) h) (h0 : 0 < size) (hx : ∃ a c, x = .slice a m c) (hf : firstOf h size m x = some new) (hnl : new.length = m * size) (hcl : cs.length = n * size) (hb : (n + m) * bytes ≤ 1099511627776) (hb' : n + m ≤ 1099511627776) :
    ∃ v' h', appendV h size bytes v x = some (v', h') ∧ Sat (ownS v' size (cs ++ new) :: R) h' := by
  obtain ⟨a, c, rfl⟩ := hx
  rcases Nat.eq_zero_or_pos m with rfl | hm
  · have : new = [] := List.length_eq_zero_iff.1 (by omega)
    subst this
    refine ⟨v, h, ?_, by simpa using hh⟩
    rcases hh.own_cases with ⟨rfl, _⟩ | ⟨b, k, rfl, _⟩ <;> simp [appendV]
  · rcases hh.own_cases with ⟨rfl, rfl, hs⟩ | ⟨b, k, rfl, hl, hs⟩
    · refine ⟨.slice (some ⟨h.next, 0, none⟩) m (size + 1), h.new (.cells new), ?_, (hs.new _).own_of (by simpa using hnl)⟩
      have h00 : (0 : Nat) = n * size := by simpa using hcl
      have hn : n = 0 := by
        rcases Nat.mul_eq_zero.1 h00.symm with h | h
        · exact h
        · omega
      subst hn
      simp only [appendV, hf]
      rw [if_neg (by omega), if_pos ⟨by simpa using hb, by simpa using hb'⟩]
      simp
    · have hkn : k = n := Nat.eq_of_mul_eq_mul_right h0 (hl.symm.trans hcl)
      subst hkn
      refine ⟨.slice (some ⟨h.next, 0, none⟩) (k + m) (size + 1), (h.del b).new (.cells (cs ++ new)), ?_, ?_⟩
      · simp only [appendV, hf]
        rw [if_neg (by omega), if_pos ⟨hb, hb'⟩, if_neg (by omega)]
        simp only [and_self, if_true, hs.get]
        rw [if_pos (by omega), List.take_of_length_le (by omega)]
      · have := (hs.del.new (.cells (cs ++ new))).own_of (size := size) (n := k + m) (by rw [List.length_append, hl, hnl, Nat.add_mul])
        exact this
end
end Go.Proofs.PantryEng
namespace Go.Proofs.PantryEng
open Go

abbrev vi (n : Int) : Value := .int .i64 n
abbrev vu (n : Int) : Value := .int .u64 n
abbrev vb (b : Bool) : Value := .bool b
abbrev vp (b o : Nat) : Value := .pointer (some ⟨b, o, none⟩)
abbrev vs (b o n c : Nat) : Value := .slice (some ⟨b, o, none⟩) n c
abbrev vn : Value := .slice none 0 0
abbrev vm (b : Nat) : Value := .map (some b)

/-! ### words -/
def ld (h : AHeap) (a : Value) : Option Value :=
  match a with
  | .pointer (some ⟨b, o, none⟩) => h.cell b o
  | _ => none
def lds (h : AHeap) (n : Nat) (a : Value) : Option Value :=
  match a with
  | .pointer (some ⟨b, o, none⟩) => (h.cellsAt b o n).map fun cs => .agg ⟨cs⟩
  | _ => none
def pickV (c a b : Value) : Option Value := match c with | .bool true => some a | .bool false => some b | _ => none
def eqBoolV (neg : Bool) (x y : Value) : Option Value := match x, y with | .bool a, .bool b => flip neg (some (a == b)) | _, _ => none
def eqAggV (neg : Bool) (ks : List Bool) (x y : Value) : Option Value := match x, y with | .agg ⟨a⟩, .agg ⟨b⟩ => flip neg (cellsEq ks a b) | _, _ => none
def notV (x : Value) : Option Value := match x with | .bool b => some (.bool !b) | _ => none
def negV (x : Value) : Option Value := match x with | .int k n => some (.int k (wr k (0 - n))) | _ => none
def cvt (k : IntKind) (x : Value) : Option Value := match x with | .int _ n => some (.int k (wr k n)) | _ => none
def ifcV (t : TypeId) (x : Value) : Option Value := if scal x then some (.iface t x) else none
def lenV (x : Value) : Option Value := match x with | .slice _ n _ => some (.int .i64 n) | _ => none
def lenMV (h : AHeap) (x : Value) : Option Value := match x with | .map none => some (.int .i64 0) | .map (some r) => (h.map? r).map fun es => .int .i64 es.length | _ => none
def stE (n : Nat) (a x : Value) (h : AHeap) : Option (Value × AHeap) := evE [] noCall .nil h (.store n (.lit a) (.lit x))
def muE (m k x : Value) (h : AHeap) : Option (Value × AHeap) := evE [] noCall .nil h (.mapUpdate (.lit m) (.lit k) (.lit x))
def apE (size bytes : Nat) (s x : Value) (h : AHeap) : Option (Value × AHeap) := appendV h size bytes s x
def cpE (size : Nat) (d s : Value) (h : AHeap) : Option (Value × AHeap) := evE [] noCall .nil h (.copy size (.lit d) (.lit s))
def dlE (m k : Value) (h : AHeap) : Option (Value × AHeap) := evE [] noCall .nil h (.delete (.lit m) (.lit k))
def clE (z : List Value) (x : Value) (h : AHeap) : Option (Value × AHeap) := evE [] noCall .nil h (.clearS z (.lit x))
/-- A field's place. -/
def Fa (off : Nat) (x : Value) (k : Value → Prop) : Prop := P (nilV x) fun p => P (fieldAddrV off p) k
/-- A field. -/
def Fl (off : Nat) (x : Value) (h : AHeap) (k : Value → Prop) : Prop := P (nilV x) fun p => P (fieldAddrV off p) fun q => P (ld h q) k
def U1 (l : List Value) (k : Value → Prop) : Prop := k (l.getD 0 noValue)
def U2 (l : List Value) (k : Value → Value → Prop) : Prop := k (l.getD 0 noValue) (l.getD 1 noValue)
def U3 (l : List Value) (k : Value → Value → Value → Prop) : Prop := k (l.getD 0 noValue) (l.getD 1 noValue) (l.getD 2 noValue)
def U4 (l : List Value) (k : Value → Value → Value → Value → Prop) : Prop := k (l.getD 0 noValue) (l.getD 1 noValue) (l.getD 2 noValue) (l.getD 3 noValue)
def U5 (l : List Value) (k : Value → Value → Value → Value → Value → Prop) : Prop := k (l.getD 0 noValue) (l.getD 1 noValue) (l.getD 2 noValue) (l.getD 3 noValue) (l.getD 4 noValue)
def U6 (l : List Value) (k : Value → Value → Value → Value → Value → Value → Prop) : Prop := k (l.getD 0 noValue) (l.getD 1 noValue) (l.getD 2 noValue) (l.getD 3 noValue) (l.getD 4 noValue) (l.getD 5 noValue)
def U7 (l : List Value) (k : Value → Value → Value → Value → Value → Value → Value → Prop) : Prop := k (l.getD 0 noValue) (l.getD 1 noValue) (l.getD 2 noValue) (l.getD 3 noValue) (l.getD 4 noValue) (l.getD 5 noValue) (l.getD 6 noValue)
def U8 (l : List Value) (k : Value → Value → Value → Value → Value → Value → Value → Value → Prop) : Prop := k (l.getD 0 noValue) (l.getD 1 noValue) (l.getD 2 noValue) (l.getD 3 noValue) (l.getD 4 noValue) (l.getD 5 noValue) (l.getD 6 noValue) (l.getD 7 noValue)

/-! ### steps -/
section
variable {α : Type} {v w : Value} {h : AHeap} {k : VK} {p q : Prop}
@[congr] theorem P_congr {o o' : Option α} {k : α → Prop} (e : o = o') : P o k = P o' k := by rw [e]
@[congr] theorem PH_congr {o o' : Option (Value × AHeap)} (e : o = o') : PH o k = PH o' k := by rw [e]
@[congr] theorem If_congr (e : v = w) : If v p q = If w p q := by rw [e]
@[congr] theorem G_congr {b : Bool} (e : v = w) : G v b p q = G w b p q := by rw [e]
@[congr] theorem Ly_congr {o o' : Option (AObj × (Nat → Value))} (e : o = o') : Ly o h k = Ly o' h k := by rw [e]
@[congr] theorem Fa_congr {n : Nat} {k : Value → Prop} (e : v = w) : Fa n v k = Fa n w k := by rw [e]
@[congr] theorem Fl_congr {n : Nat} {k : Value → Prop} (e : v = w) : Fl n v h k = Fl n w h k := by rw [e]
@[congr] theorem Ensures_congr {A : AProg} {F : FuncId} {l m : List Value} (e : l = m) : Ensures A F l h k = Ensures A F m h k := by rw [e]
@[congr] theorem CV_congr {A : AProg} {l m : List Value} (e : l = m) (e' : v = w) : CV A v l h k = CV A w m h k := by rw [e, e']
@[congr] theorem CI_congr {A : AProg} {F : Nat} {l m : List Value} (e : l = m) (e' : v = w) : CI A F v l h k = CI A F w m h k := by rw [e, e']
@[congr] theorem Lp_congr {Bd : List Value → AHeap → (List Value → AHeap → Prop) → Prop} {l m : List Value} (e : l = m) : Lp Bd l h = Lp Bd m h := by rw [e]
@[congr] theorem Rt_congr {l m : List Value} (e : l = m) : Rt l h k = Rt m h k := by rw [e]

@[simp] theorem P_some {x : α} {k : α → Prop} : P (some x) k ↔ k x := ⟨fun ⟨_, e, hk⟩ => by injection e with e; subst e; exact hk, fun hk => ⟨x, rfl, hk⟩⟩
@[simp] theorem PH_some : PH (some (v, h)) k ↔ k v h := ⟨fun ⟨_, _, e, hk⟩ => by injection e with e; injection e with e1 e2; subst e1; subst e2; exact hk, fun hk => ⟨v, h, rfl, hk⟩⟩
@[simp] theorem If_true : If (.bool true) p q ↔ p := ⟨fun ⟨_, e, h1, _⟩ => by injection e with e; exact h1 e.symm, fun hp => ⟨true, rfl, fun _ => hp, fun e => by simp at e⟩⟩
@[simp] theorem If_false : If (.bool false) p q ↔ q := ⟨fun ⟨_, e, _, h1⟩ => by injection e with e; exact h1 e.symm, fun hp => ⟨false, rfl, fun e => by simp at e, fun _ => hp⟩⟩
theorem If_b {c : Bool} (hp : c = true → p) (hq : c = false → q) : If (.bool c) p q := ⟨c, rfl, hp, hq⟩
theorem If_d {c : Prop} [Decidable c] (hp : c → p) (hq : ¬ c → q) : If (.bool (decide c)) p q := ⟨_, rfl, fun e => hp (of_decide_eq_true e), fun e => hq (of_decide_eq_false e)⟩
theorem If_e {a b : Int} (hp : a = b → p) (hq : a ≠ b → q) : If (.bool (a == b)) p q := ⟨_, rfl, fun e => hp (by simpa using e), fun e => hq (by simpa using e)⟩
theorem If_n {a b : Int} (hp : a ≠ b → p) (hq : a = b → q) : If (.bool (a != b)) p q := ⟨_, rfl, fun e => hp (by simpa using e), fun e => hq (by simpa using e)⟩
@[simp] theorem G_yes {b : Bool} : G (.bool b) b p q ↔ p := ⟨fun hg => hg.1 (by simp [gw]), fun hp => ⟨fun _ => hp, fun e => by simp [gw] at e⟩⟩
@[simp] theorem G_tf : G (.bool true) false p q ↔ q := ⟨fun hg => hg.2 rfl, fun hp => ⟨fun e => by simp [gw] at e, fun _ => hp⟩⟩
@[simp] theorem G_ft : G (.bool false) true p q ↔ q := ⟨fun hg => hg.2 rfl, fun hp => ⟨fun e => by simp [gw] at e, fun _ => hp⟩⟩
@[simp] theorem G_none {b : Bool} : G noValue b p q ↔ q := ⟨fun hg => hg.2 rfl, fun hp => ⟨fun e => by simp [gw, noValue] at e, fun _ => hp⟩⟩
theorem G_t {c : Bool} (hp : c = true → p) (hq : c = false → q) : G (.bool c) true p q := ⟨fun e => hp (by simpa [gw] using e), fun e => hq (by simpa [gw] using e)⟩
theorem G_f {c : Bool} (hp : c = false → p) (hq : c = true → q) : G (.bool c) false p q := ⟨fun e => hp (by simpa [gw] using e), fun e => hq (by simpa [gw] using e)⟩
theorem G_td {c : Prop} [Decidable c] (hp : c → p) (hq : ¬ c → q) : G (.bool (decide c)) true p q := G_t (fun e => hp (of_decide_eq_true e)) fun e => hq (of_decide_eq_false e)
theorem G_fd {c : Prop} [Decidable c] (hp : ¬ c → p) (hq : c → q) : G (.bool (decide c)) false p q := G_f (fun e => hp (of_decide_eq_false e)) fun e => hq (of_decide_eq_true e)
theorem Jg_def {R : α} {Bd : α → Prop} : Jg R Bd ↔ Bd R := Iff.rfl
@[simp] theorem Jg_yes {R : α} {Bd Be : α → Prop} {b : Bool} : Jg R (fun K => G (.bool b) b (Bd K) (Be K)) ↔ Bd R := by rw [Jg_def]; exact G_yes
@[simp] theorem Jg_tf {R : α} {Bd Be : α → Prop} : Jg R (fun K => G (.bool true) false (Bd K) (Be K)) ↔ Be R := by rw [Jg_def]; exact G_tf
@[simp] theorem Jg_ft {R : α} {Bd Be : α → Prop} : Jg R (fun K => G (.bool false) true (Bd K) (Be K)) ↔ Be R := by rw [Jg_def]; exact G_ft
@[simp] theorem Jg_none {R : α} {Bd Be : α → Prop} {b : Bool} : Jg R (fun K => G noValue b (Bd K) (Be K)) ↔ Be R := by rw [Jg_def]; exact G_none
theorem J_def {R : α} {Bd : α → Prop} : J R Bd ↔ Bd R := Iff.rfl
theorem J_of {R : List Value → AHeap → Prop} {Bd : (List Value → AHeap → Prop) → Prop} (I : List Value → AHeap → Prop) (hR : ∀ l h, I l h → R l h) (hB : ∀ K : List Value → AHeap → Prop, (∀ l h, I l h → K l h) → Bd K) : J R Bd := hB R hR
section
variable {β : Type} {R : Value → AHeap → Prop} {A : AProg} {F : Nat} {l : List Value}
@[simp] theorem Jg_K : Jg R (fun K => K v h) ↔ R v h := Iff.rfl
@[simp] theorem Jg_P {o : Option β} {f : VK → β → Prop} : Jg R (fun K => P o (f K)) ↔ P o (f R) := Iff.rfl
@[simp] theorem Jg_PH {o : Option (Value × AHeap)} {f : VK → VK} : Jg R (fun K => PH o (f K)) ↔ PH o (f R) := Iff.rfl
@[simp] theorem Jg_E {f : VK → VK} : Jg R (fun K => Ensures A F l h (f K)) ↔ Ensures A F l h (f R) := Iff.rfl
@[simp] theorem Jg_CV {f : VK → VK} : Jg R (fun K => CV A v l h (f K)) ↔ CV A v l h (f R) := Iff.rfl
@[simp] theorem Jg_CI {f : VK → VK} : Jg R (fun K => CI A F v l h (f K)) ↔ CI A F v l h (f R) := Iff.rfl
@[simp] theorem Jg_Ly {o : Option (AObj × (Nat → Value))} {f : VK → VK} : Jg R (fun K => Ly o h (f K)) ↔ Ly o h (f R) := Iff.rfl
@[simp] theorem Jg_Fl {n : Nat} {f : VK → Value → Prop} : Jg R (fun K => Fl n v h (f K)) ↔ Fl n v h (f R) := Iff.rfl
@[simp] theorem Jg_Fa {n : Nat} {f : VK → Value → Prop} : Jg R (fun K => Fa n v (f K)) ↔ Fa n v (f R) := Iff.rfl
end
@[simp] theorem Rt_1 : Rt [v] h k ↔ isTup v = false ∧ k v h := by simp [Rt, packV]
@[simp] theorem Rt_0 : Rt [] h k ↔ k (.tuple #[]) h := by simp [Rt, packV]
@[simp] theorem Rt_2 : Rt [v, w] h k ↔ (isTup v = false ∧ isTup w = false) ∧ k (.tuple #[v, w]) h := by simp [Rt, packV]
@[simp] theorem Rt_3 {u : Value} : Rt [v, w, u] h k ↔ (isTup v = false ∧ isTup w = false ∧ isTup u = false) ∧ k (.tuple #[v, w, u]) h := by simp [Rt, packV]

@[simp] theorem nilV_p {b o : Nat} : nilV (vp b o) = some (vp b o) := rfl
@[simp] theorem nilV_f {f : FuncId} {a c : List Value} : nilV (.func (.func f) ⟨a⟩ ⟨c⟩) = some (.func (.func f) ⟨a⟩ ⟨c⟩) := rfl
@[simp] theorem nilV_i {t : TypeId} : nilV (.iface t v) = some (.iface t v) := rfl
@[simp] theorem fieldAddrV_p {n b o : Nat} : fieldAddrV n (vp b o) = some (vp b (o + n)) := rfl
@[simp] theorem ld_p {b o : Nat} : ld h (vp b o) = h.cell b o := rfl
@[simp] theorem lds_p {b o n : Nat} : lds h n (vp b o) = (h.cellsAt b o n).map fun cs => .agg ⟨cs⟩ := rfl
@[simp] theorem Fa_p {n b o : Nat} {k : Value → Prop} : Fa n (vp b o) k ↔ k (vp b (o + n)) := by simp [Fa]
@[simp] theorem Fl_p {n b o : Nat} {k : Value → Prop} : Fl n (vp b o) h k ↔ P (h.cell b (o + n)) k := by simp [Fl]
theorem cell_of {b o : Nat} {cs : List Value} (e : h.cells? b = some cs) : h.cell b o = cs[o]? := by simp [AHeap.cell, e]
theorem cellsAt_of {b o n : Nat} {cs : List Value} (e : h.cells? b = some cs) : h.cellsAt b o n = takeN n (cs.drop o) := by simp [AHeap.cellsAt, e]
@[simp] theorem pickV_t : pickV (.bool true) v w = some v := rfl
@[simp] theorem pickV_f : pickV (.bool false) v w = some w := rfl
@[simp] theorem notV_b {b : Bool} : notV (.bool b) = some (.bool !b) := rfl
@[simp] theorem negV_i {K : IntKind} {n : Int} : negV (.int K n) = some (.int K (wr K (0 - n))) := rfl
@[simp] theorem cvt_i {K K' : IntKind} {n : Int} : cvt K (.int K' n) = some (.int K (wr K n)) := rfl
@[simp] theorem lenV_s {a : Option Addr} {n c : Nat} : lenV (.slice a n c) = some (.int .i64 n) := rfl
@[simp] theorem lenMV_0 : lenMV h (.map none) = some (.int .i64 0) := rfl
theorem lenMV_of {b : Nat} {es : List (Int × Value)} (e : h.map? b = some es) : lenMV h (vm b) = some (.int .i64 es.length) := by simp [lenMV, e]
@[simp] theorem binV_add {K : IntKind} {a b : Int} : binV .add (.int K a) (.int K b) = some (.int K (wr K (a + b))) := by simp [binV, binI]
@[simp] theorem binV_sub {K : IntKind} {a b : Int} : binV .sub (.int K a) (.int K b) = some (.int K (wr K (a - b))) := by simp [binV, binI]
@[simp] theorem binV_mul {K : IntKind} {a b : Int} : binV .mul (.int K a) (.int K b) = some (.int K (wr K (a * b))) := by simp [binV, binI]
@[simp] theorem binV_lss {K : IntKind} {a b : Int} : binV .lss (.int K a) (.int K b) = some (.bool (decide (a < b))) := by simp [binV, binI]
@[simp] theorem binV_leq {K : IntKind} {a b : Int} : binV .leq (.int K a) (.int K b) = some (.bool (decide (a ≤ b))) := by simp [binV, binI]
@[simp] theorem binV_gtr {K : IntKind} {a b : Int} : binV .gtr (.int K a) (.int K b) = some (.bool (decide (b < a))) := by simp [binV, binI]
@[simp] theorem binV_geq {K : IntKind} {a b : Int} : binV .geq (.int K a) (.int K b) = some (.bool (decide (b ≤ a))) := by simp [binV, binI]
@[simp] theorem binV_eql {K : IntKind} {a b : Int} : binV .eql (.int K a) (.int K b) = some (.bool (decide (a = b))) := by simp [binV, binI]; rfl
@[simp] theorem binV_neq {K : IntKind} {a b : Int} : binV .neq (.int K a) (.int K b) = some (.bool (decide (a ≠ b))) := by
  have : (a != b) = decide (a ≠ b) := by
    by_cases e : a = b <;> simp [e]
  simp [binV, binI, this]
theorem binV_quo {K : IntKind} {a b : Int} (e : b ≠ 0) : binV .quo (.int K a) (.int K b) = some (.int K (wr K (a.tdiv b))) := by simp [binV, binI, e]
theorem binV_rem {K : IntKind} {a b : Int} (e : b ≠ 0) : binV .rem (.int K a) (.int K b) = some (.int K (a.tmod b)) := by simp [binV, binI, e]
@[simp] theorem isTup_int {K : IntKind} {n : Int} : isTup (.int K n) = false := rfl
@[simp] theorem isTup_bool {b : Bool} : isTup (.bool b) = false := rfl
@[simp] theorem isTup_ptr {a : Option Addr} : isTup (.pointer a) = false := rfl
@[simp] theorem isTup_slice {a : Option Addr} {n c : Nat} : isTup (.slice a n c) = false := rfl
@[simp] theorem isTup_map {a : Option Nat} : isTup (.map a) = false := rfl
@[simp] theorem isTup_agg {a : List Value} : isTup (.agg ⟨a⟩) = false := rfl
@[simp] theorem isTup_iface {t : TypeId} : isTup (.iface t v) = false := rfl
@[simp] theorem isTup_nilI : isTup .nilIface = false := rfl
@[simp] theorem isTup_str {s : ByteArray} : isTup (.string s) = false := rfl
@[simp] theorem extractV_0 {l : List Value} : extractV 0 (.tuple ⟨v :: l⟩) = some v := rfl
@[simp] theorem extractV_1 {l : List Value} : extractV 1 (.tuple ⟨v :: w :: l⟩) = some w := rfl
@[simp] theorem extractV_2 {u : Value} {l : List Value} : extractV 2 (.tuple ⟨v :: w :: u :: l⟩) = some u := rfl
@[simp] theorem U1_eq {a : Value} {k : Value → Prop} : U1 [a] k ↔ k a := Iff.rfl
@[simp] theorem U2_eq {a b : Value} {k : Value → Value → Prop} : U2 [a, b] k ↔ k a b := Iff.rfl
@[simp] theorem U3_eq {a b c : Value} {k : Value → Value → Value → Prop} : U3 [a, b, c] k ↔ k a b c := Iff.rfl
@[simp] theorem U4_eq {a b c d : Value} {k : Value → Value → Value → Value → Prop} : U4 [a, b, c, d] k ↔ k a b c d := Iff.rfl
@[simp] theorem U5_eq {a b c d e : Value} {k : Value → Value → Value → Value → Value → Prop} : U5 [a, b, c, d, e] k ↔ k a b c d e := Iff.rfl
@[simp] theorem U6_eq {a b c d e f : Value} {k : Value → Value → Value → Value → Value → Value → Prop} : U6 [a, b, c, d, e, f] k ↔ k a b c d e f := Iff.rfl
@[simp] theorem U7_eq {a b c d e f g : Value} {k : Value → Value → Value → Value → Value → Value → Value → Prop} : U7 [a, b, c, d, e, f, g] k ↔ k a b c d e f g := Iff.rfl
@[simp] theorem U8_eq {a b c d e f g i : Value} {k : Value → Value → Value → Value → Value → Value → Value → Value → Prop} : U8 [a, b, c, d, e, f, g, i] k ↔ k a b c d e f g i := Iff.rfl
theorem indexAddrV_of {size b o len c : Nat} {i : Int} (h0 : 0 ≤ i) (h1 : i < len) : indexAddrV size (vs b o len c) (vi i) = some (vp b (o + i.toNat * size)) := by
  simp only [indexAddrV, addrAdd, h0, h1, and_self, if_true]
theorem indexAddrV_nat {size b o len c i : Nat} (h1 : i < len) : indexAddrV size (vs b o len c) (vi i) = some (vp b (o + i * size)) := by
  rw [indexAddrV_of (by omega) (by omega), Int.toNat_natCast]
@[simp] theorem evP_build {z : List Value} {ps : List (Nat × Nat × Opd)} {e : Env} : evP e h (.build z ps) = (fillC e z ps).map fun cs => .agg ⟨cs⟩ := rfl
@[simp] theorem Opd_lit {e : Env} : Opd.ev e (.lit v) = v := rfl
@[simp] theorem fillC_nil {e : Env} {cs : List Value} : fillC e cs [] = some cs := rfl
@[simp] theorem fillC_cons {e : Env} {cs : List Value} {off size : Nat} {x : Opd} {rest : List (Nat × Nat × Opd)} : fillC e cs ((off, size, x) :: rest) = if (cellsOf (x.ev e)).length = size ∧ off + size ≤ cs.length ∧ isTup (x.ev e) = false then fillC e (setMany cs off (cellsOf (x.ev e))) rest else none := rfl
@[simp] theorem cellsOf_int {K : IntKind} {n : Int} : cellsOf (.int K n) = [.int K n] := rfl
@[simp] theorem cellsOf_bool {b : Bool} : cellsOf (.bool b) = [.bool b] := rfl
@[simp] theorem cellsOf_ptr {a : Option Addr} : cellsOf (.pointer a) = [.pointer a] := rfl
@[simp] theorem cellsOf_slice {a : Option Addr} {n c : Nat} : cellsOf (.slice a n c) = [.slice a n c] := rfl
@[simp] theorem cellsOf_map {a : Option Nat} : cellsOf (.map a) = [.map a] := rfl
@[simp] theorem cellsOf_agg {a : List Value} : cellsOf (.agg ⟨a⟩) = a := rfl
@[simp] theorem cellsOf_iface {t : TypeId} : cellsOf (.iface t v) = [.iface t v] := rfl
@[simp] theorem cellsOf_nilI : cellsOf .nilIface = [.nilIface] := rfl
@[simp] theorem setMany_nil {cs : List Value} {o : Nat} : setMany cs o [] = cs := rfl
@[simp] theorem setMany_cons {cs l : List Value} {o : Nat} : setMany cs o (v :: l) = setMany (cs.set o v) (o + 1) l := rfl
@[simp] theorem fieldV_0 {off n : Nat} {l : List Value} : fieldV false off n (.agg ⟨l⟩) = (takeN n (l.drop off)).bind (mkPart false) := rfl
@[simp] theorem fieldV_1 {off n : Nat} {l : List Value} : fieldV true off n (.agg ⟨l⟩) = (takeN n (l.drop off)).bind (mkPart true) := rfl
@[simp] theorem mkPart_0 : mkPart false [v] = some v := rfl
@[simp] theorem mkPart_1 {l : List Value} : mkPart true l = some (.agg ⟨l⟩) := by cases l <;> rfl
@[simp] theorem takeN_nil : takeN 0 [] = some [] := rfl
@[simp] theorem takeN_zero {l : List Value} : takeN 0 l = some [] := by simp [takeN]
@[simp] theorem takeN_succ {n : Nat} {l : List Value} : takeN (n + 1) (v :: l) = (takeN n l).map (v :: ·) := by
  simp only [takeN, List.take_succ_cons, List.length_cons, Nat.add_right_cancel_iff]
  split <;> rfl
@[simp] theorem lookIn_k {z m : Value} {ok : Bool} {n : Int} : lookIn h z ok m (.int .i64 n) = (mapOf h m).map fun es => lookV z ok (mGet es n) := rfl
@[simp] theorem mapOf_0 : mapOf h (.map none) = some [] := rfl
@[simp] theorem mapOf_m {b : Nat} : mapOf h (vm b) = h.map? b := rfl
@[simp] theorem lookV_s1 {z : Value} : lookV z true (some v) = .tuple #[v, .bool true] := rfl
@[simp] theorem lookV_s0 {z : Value} : lookV z false (some v) = v := rfl
@[simp] theorem lookV_n1 {z : Value} : lookV z true none = .tuple #[z, .bool false] := rfl
@[simp] theorem lookV_n0 {z : Value} : lookV z false none = z := rfl

/-! ### steps that turn the heap -/
variable {R : List SL}
theorem Ly_sat {o : Option (AObj × (Nat → Value))} {x : AObj} {mk : Nat → Value} (hh : Sat R h) (e : o = some (x, mk)) (hk : ∀ b h', Sat (pt b x :: R) h' → k (mk b) h') : Ly o h k := by
  subst e; exact ⟨_, rfl, hk _ _ (hh.new x)⟩
theorem PH_st {b o n : Nat} {cs ws : List Value} {x : Value} (hh : Sat (pt b (.cells cs) :: R) h) (hv : cellsOf x = ws) (ht : isTup x = false) (hn : ws.length = n) (hb : o + n ≤ cs.length) (hk : ∀ h', Sat (pt b (.cells (setMany cs o ws)) :: R) h' → k noValue h') : PH (stE n (vp b o) x h) k := by
  subst hv; subst hn
  refine ⟨_, _, ?_, hk _ hh.set⟩
  simp [stE, evE, Opd.ev, ht, AHeap.store, hh.get, hb]
theorem PH_st1 {b o : Nat} {cs : List Value} {x : Value} (hh : Sat (pt b (.cells cs) :: R) h) (hv : cellsOf x = [x]) (ht : isTup x = false) (hb : o < cs.length) (hk : ∀ h', Sat (pt b (.cells (cs.set o x)) :: R) h' → k noValue h') : PH (stE 1 (vp b o) x h) k :=
  PH_st hh hv ht rfl hb hk
theorem PH_sth {t : Frag} {b o n : Nat} {cs ws : List Value} {x : Value} (hh : Sat (hm t :: R) h) (hg : t b = some (.cells cs)) (hv : cellsOf x = ws) (ht : isTup x = false) (hn : ws.length = n) (hb : o + n ≤ cs.length) (hk : ∀ h', Sat (hm (hup t b (.cells (setMany cs o ws))) :: R) h' → k noValue h') : PH (stE n (vp b o) x h) k := by
  subst hv; subst hn
  refine ⟨_, _, ?_, hk _ (hh.hset hg _)⟩
  simp [stE, evE, Opd.ev, ht, AHeap.store, hh.hget hg, hb]
theorem PH_mu {b : Nat} {es : List (Int × Value)} {x : Value} {n : Int} (hh : Sat (pt b (.map es) :: R) h) (ht : isTup x = false) (hk : ∀ h', Sat (pt b (.map (mPut es n x)) :: R) h' → k noValue h') : PH (muE (vm b) (vi n) x h) k := by
  refine ⟨_, _, ?_, hk _ hh.set⟩
  simp [muE, evE, Opd.ev, ht, hh.map]
theorem PH_dl {b : Nat} {es : List (Int × Value)} {n : Int} (hh : Sat (pt b (.map es) :: R) h) (hk : ∀ h', Sat (pt b (.map (mDel es n)) :: R) h' → k noValue h') : PH (dlE (vm b) (vi n) h) k := by
  refine ⟨_, _, ?_, hk _ hh.set⟩
  simp [dlE, evE, Opd.ev, hh.map]
theorem firstOf_pt {b c m size : Nat} {new : List Value} (hg : h.cells? b = some new) (hl : new.length = m * size) : firstOf h size m (vs b 0 m c) = some new := by
  unfold firstOf
  by_cases h0 : m = 0
  · subst h0
    have : new = [] := List.length_eq_zero_iff.1 (by omega)
    subst this; simp
  · simp only [AHeap.cellsAt, hg, Option.bind_some, List.drop_zero, if_neg h0]
    exact takeN_eq hl
/-- What lies in a block of its own is appended. -/
theorem PH_ap {v : Value} {size bytes n m b c : Nat} {cs new : List Value} (hh : Sat (pt b (.cells new) :: ownS v size cs :: R) h) (h0 : 0 < size) (hl : new.length = m * size) (hcl : cs.length = n * size) (hb : (n + m) * bytes ≤ 1099511627776) (hb' : n + m ≤ 1099511627776)
    (hk : ∀ v' h', Sat (ownS v' size (cs ++ new) :: pt b (.cells new) :: R) h' → k v' h') : PH (apE size bytes v (vs b 0 m c) h) k := by
  obtain ⟨v', h', h1, h2⟩ := Sat.append (x := vs b 0 m c) hh.pull1 h0 ⟨_, _, rfl⟩ (firstOf_pt hh.cells hl) hl hcl hb hb'
  exact ⟨v', h', h1, hk _ _ h2⟩
end
end Go.Proofs.PantryEng
namespace Go.Proofs.PantryEng
open Go

def tcells (t : Frag) (b : Nat) : Option (List Value) :=
  match t b with
  | some (.cells cs) => some cs
  | some (.ro cs) => some cs
  | _ => none
theorem tcells_sub {t t' : Frag} (hs : Sub t t') {b : Nat} {cs : List Value} (h : tcells t b = some cs) : tcells t' b = some cs := by
  unfold tcells at *
  split at h
  · rename_i h1; rw [hs _ _ h1]; exact h
  · rename_i h1; rw [hs _ _ h1]; exact h
  · simp at h
theorem Sat.tcells {t : Frag} {R : List SL} {h : AHeap} (hh : Sat (hm t :: R) h) {b : Nat} {cs : List Value} (hc : tcells t b = some cs) : h.cells? b = some cs := by
  unfold PantryEng.tcells at hc
  unfold AHeap.cells?
  split at hc
  · rename_i h1; rw [hh.hget h1]; exact hc
  · rename_i h1; rw [hh.hget h1]; exact hc
  · simp at hc

/-- A slice that shows cells. -/
structure View (t : Frag) (size : Nat) (ws : List Value) (v : Value) : Prop where
  ex : ∃ a n c, v = .slice a n c ∧ ws.length = n * size ∧ ((ws = [] ∧ ∀ x, a = some x → x.spot = none) ∨ ∃ b o cs, a = some ⟨b, o, none⟩ ∧ tcells t b = some cs ∧ ∀ i, i < ws.length → cs[o + i]? = ws[i]?)

section
variable {t t' : Frag} {size : Nat} {ws : List Value} {v : Value} {h : AHeap} {R : List SL}
theorem View.sub (hv : View t size ws v) (hs : Sub t t') : View t' size ws v := by
  obtain ⟨a, n, c, h1, h2, h3⟩ := hv.ex
  refine ⟨a, n, c, h1, h2, ?_⟩
  rcases h3 with h3 | ⟨b, o, cs, h3, h4, h5⟩
  · exact .inl h3
  · exact .inr ⟨b, o, cs, h3, tcells_sub hs h4, h5⟩
theorem View.nil : View t size [] vn := ⟨_, 0, _, rfl, by simp, .inl ⟨rfl, by simp⟩⟩
theorem View.of {b n c : Nat} {cs : List Value} (hb : tcells t b = some cs) (hl : cs.length = n * size) : View t size cs (vs b 0 n c) :=
  ⟨_, _, _, rfl, hl, .inr ⟨b, 0, cs, rfl, hb, fun i hi => by rw [Nat.zero_add]⟩⟩
theorem View.len {a : Option Addr} {n c : Nat} (hv : View t size ws (.slice a n c)) : ws.length = n * size := by
  obtain ⟨_, _, _, e, h2, _⟩ := hv.ex
  injection e with _ e _; subst e; exact h2
/-- One element's cells. -/
theorem View.get {a : Option Addr} {n c : Nat} (hv : View t size ws (.slice a n c)) (hh : Sat (hm t :: R) h) (h0 : 0 < size) {i : Nat} (hi : i < n) :
    ∃ b o cs, a = some ⟨b, o, none⟩ ∧ h.cells? b = some cs ∧ (∀ j, j < size → cs[o + i * size + j]? = ws[i * size + j]?) ∧ o + i * size + size ≤ cs.length := by
  obtain ⟨a', n', c', e, h2, h3⟩ := hv.ex
  injection e with e1 e2 e3
  subst e1; subst e2; subst e3
  have hle : i * size + size ≤ n * size := by rw [← Nat.succ_mul]; exact Nat.mul_le_mul_right _ hi
  rcases h3 with ⟨h3, _⟩ | ⟨b, o, cs, h3, h4, h5⟩
  · subst h3; simp at h2; omega
  · refine ⟨b, o, cs, h3, hh.tcells h4, fun j hj => ?_, ?_⟩
    · have := h5 (i * size + j) (by omega)
      rw [← this]; congr 1; omega
    · have := h5 (i * size + size - 1) (by omega)
      rw [List.getElem?_eq_getElem (l := ws) (by omega)] at this
      have := (List.getElem?_eq_some_iff.1 this).1
      omega
theorem View.cell {a : Option Addr} {n c : Nat} (hv : View t 1 ws (.slice a n c)) (hh : Sat (hm t :: R) h) {i : Nat} (hi : i < n) : ∃ b o, a = some ⟨b, o, none⟩ ∧ h.cell b (o + i * 1) = ws[i]? := by
  obtain ⟨b, o, cs, h1, h2, h3, _⟩ := hv.get hh (by omega) hi
  refine ⟨b, o, h1, ?_⟩
  have := h3 0 (by omega)
  simp only [Nat.add_zero, Nat.mul_one] at this
  rw [cell_of h2, ← this, Nat.mul_one]
theorem View.cellsAt {a : Option Addr} {n c : Nat} (hv : View t size ws (.slice a n c)) (hh : Sat (hm t :: R) h) (h0 : 0 < size) {i : Nat} (hi : i < n) : ∃ b o, a = some ⟨b, o, none⟩ ∧ h.cellsAt b (o + i * size) size = some ((ws.drop (i * size)).take size) := by
  obtain ⟨b, o, cs, h1, h2, h3, h4⟩ := hv.get hh h0 hi
  refine ⟨b, o, h1, ?_⟩
  rw [cellsAt_of h2]
  have hl := hv.len
  have hle : i * size + size ≤ n * size := by rw [← Nat.succ_mul]; exact Nat.mul_le_mul_right _ hi
  have : (cs.drop (o + i * size)).take size = (ws.drop (i * size)).take size := by
    apply List.ext_getElem?
    intro j
    simp only [List.getElem?_take, List.getElem?_drop]
    split
    · rename_i hj; exact h3 j hj
    · rfl
  unfold takeN
  rw [this, if_pos]
  rw [List.length_take, List.length_drop]; omega
/-- All but the first ones. -/
theorem View.drop {b o n c k c' : Nat} (hv : View t 1 ws (vs b o n c)) (hk : k ≤ n) : View t 1 (ws.drop k) (vs b (o + k * 1) (n - k) c') := by
  obtain ⟨a', n', c2, e, h2, h3⟩ := hv.ex
  injection e with e1 e2 e3
  subst e2; subst e3
  refine ⟨_, _, _, rfl, by rw [List.length_drop]; omega, ?_⟩
  rcases h3 with ⟨h3, _⟩ | ⟨b', o', cs, h3, h4, h5⟩
  · subst h3; exact .inl ⟨by simp, by simp⟩
  · rw [← e1] at h3
    injection h3 with h3; injection h3 with h6 h7; subst h6; subst h7
    refine .inr ⟨_, _, cs, rfl, h4, fun i hi => ?_⟩
    rw [List.length_drop] at hi
    have := h5 (k + i) (by omega)
    rw [List.getElem?_drop, ← this]; congr 1; omega
/-- A block of one's own, to be looked at from now on. -/
theorem Sat.seen {b n c : Nat} {cs : List Value} (hh : Sat (pt b (.cells cs) :: hm t :: R) h) (hl : cs.length = n * size) : ∃ t', Sub t t' ∧ Sat (hm t' :: R) h ∧ View t' size cs (vs b 0 n c) := by
  have hn := hh.hnone
  refine ⟨hup t b (.cells cs), fun k o hk => ?_, hh.hin, View.of (by simp [PantryEng.tcells, hup]) hl⟩
  unfold hup
  split
  · rename_i e; subst e; rw [hn] at hk; simp at hk
  · exact hk
theorem Sat.seenS (hh : Sat (ownS v size ws :: hm t :: R) h) : ∃ t', Sub t t' ∧ Sat (hm t' :: R) h ∧ View t' size ws v := by
  rcases hh.own_cases with ⟨rfl, rfl, hs⟩ | ⟨b, n, rfl, hl, hs⟩
  · exact ⟨t, Sub.refl _, hs, View.nil⟩
  · exact hs.seen hl
end
@[simp] theorem ptrTo_eq {b : Nat} : ptrTo b = vp b 0 := rfl
@[simp] theorem scal_int {K : IntKind} {n : Int} : scal (.int K n) = true := rfl
@[simp] theorem scal_bool {b : Bool} : scal (.bool b) = true := rfl
@[simp] theorem scal_ptr {a : Option Addr} : scal (.pointer a) = true := rfl
@[simp] theorem scal_slice {a : Option Addr} {n c : Nat} : scal (.slice a n c) = true := rfl
@[simp] theorem scal_map {a : Option Nat} : scal (.map a) = true := rfl
@[simp] theorem evP_mf {e : Env} {h : AHeap} {f : FuncId} {a c : List Opd} : evP e h (.makeFunc f a c) = if ((a.map (·.ev e)).all scal && (c.map (·.ev e)).all scal) = true then some (.func (.func f) ⟨a.map (·.ev e)⟩ ⟨c.map (·.ev e)⟩) else none := rfl
@[simp] theorem evP_sl {e : Env} {h : AHeap} {n : Nat} {x : Opd} {lo hi mx : Option Opd} : evP e h (.slice false n x lo hi mx) = if isStr (x.ev e) != false then none else sliceV n (x.ev e) (lo.map (·.ev e)) (hi.map (·.ev e)) (mx.map (·.ev e)) := rfl
@[simp] theorem isStr_slice {a : Option Addr} {n c : Nat} : isStr (.slice a n c) = false := rfl
theorem sliceV_lo {size b o n c : Nat} {l : Int} (h0 : 0 ≤ l) (h1 : l ≤ n) : sliceV size (vs b o n c) (some (vi l)) none none = some (vs b (o + l.toNat * size) (n - l.toNat) (if c = 0 then 0 else if l = 0 then c else 1)) := by
  simp only [sliceV, asInt?]
  rw [if_pos ⟨h0, h1, by omega⟩]
  simp
theorem sliceV_hi {size b o n c : Nat} {m : Int} (h0 : 0 ≤ m) (h1 : m ≤ n) : sliceV size (vs b o n c) none (some (vi m)) none = some (vs b o m.toNat c) := by
  simp only [sliceV, asInt?]
  rw [if_pos ⟨by omega, h0, h1⟩]
  simp
  intro h; exact h.symm
@[simp] theorem CV_f {A : AProg} {F : FuncId} {a c l : List Value} {h : AHeap} {k : VK} : CV A (.func (.func F) ⟨a⟩ ⟨c⟩) l h k ↔ Ensures A F (a ++ l ++ c) h k := Iff.rfl
section
variable {h : AHeap} {R : List SL} {k : VK}
theorem Ly_al {cs : List Value} {e : Env} (hh : Sat R h) (hk : ∀ b h', Sat (pt b (.cells cs) :: R) h' → k (vp b 0) h') : Ly (evL e (.alloc cs)) h k := Ly_sat hh rfl hk
theorem Ly_bx {x : Value} {cs : List Value} {e : Env} (hh : Sat R h) (ht : isTup x = false) (hc : cellsOf x = cs) (hk : ∀ b h', Sat (pt b (.cells cs) :: R) h' → k (vp b 0) h') : Ly (evL e (.box (.lit x))) h k := by
  subst hc
  exact Ly_sat (x := .cells (cellsOf x)) (mk := fun b => vp b 0) hh (by simp [evL, ht]; rfl) hk
theorem Ly_mm {e : Env} (hh : Sat R h) (hk : ∀ b h', Sat (pt b (.map []) :: R) h' → k (vm b) h') : Ly (evL e .makeMap) h k := Ly_sat hh rfl hk
theorem setMany_all : ∀ {cs : List Value} {zs pre : List Value}, zs.length = cs.length → setMany (pre ++ zs) pre.length cs = pre ++ cs := by
  intro cs
  induction cs with
  | nil => intro zs pre hl; cases zs with | nil => rfl | cons _ _ => simp at hl
  | cons c cs ih =>
    intro zs pre hl
    cases zs with
    | nil => simp at hl
    | cons z zs =>
      have := ih (zs := zs) (pre := pre ++ [c]) (by simpa using hl)
      simp only [List.append_assoc, List.cons_append, List.nil_append, List.length_append, List.length_cons, List.length_nil] at this
      simp only [setMany]
      rw [← this]
      simp
theorem setMany_0 {cs zs : List Value} (hl : zs.length = cs.length) : setMany zs 0 cs = cs := setMany_all (pre := []) hl
/-- One element, for append. -/
theorem Ly_b1 {x : Value} {z cs : List Value} {size : Nat} {e : Env} (hh : Sat R h) (ht : isTup x = false) (hc : cellsOf x = cs) (hl : cs.length = size) (hz : z.length = size) (hk : ∀ b h', Sat (pt b (.cells cs) :: R) h' → k (vs b 0 1 (size + 1)) h') : Ly (evL e (.buildSlice z size 1 [(0, .lit x)])) h k := by
  subst hc
  refine Ly_sat (x := .cells (cellsOf x)) (mk := fun b => vs b 0 1 (size + 1)) hh ?_ hk
  simp [evL, fillS, zeroMany, ht, hl, hz]
  exact setMany_0 (by omega)
theorem Ly_ms {z : List Value} {bytes c l : Nat} {e : Env} (hh : Sat R h) (hlc : l ≤ c) (hb : c * bytes ≤ 1099511627776) (hb' : c ≤ 1099511627776) (hk : ∀ b h', Sat (pt b (.cells (zeroMany z c)) :: R) h' → k (vs b 0 l (z.length + 1)) h') : Ly (evL e (.makeSlice z bytes (.lit (vi l)) (.lit (vi c)))) h k := by
  refine Ly_sat (x := .cells (zeroMany z c)) (mk := fun b => vs b 0 l (z.length + 1)) hh ?_ hk
  have h3 : (c : Int) * bytes ≤ 1099511627776 := by have := Int.ofNat_le.2 hb; rw [Int.natCast_mul] at this; omega
  have h4 : (c : Int) ≤ 1099511627776 := by omega
  simp only [evL, Opd_lit]
  rw [if_pos ⟨Int.natCast_nonneg _, Int.ofNat_le.2 hlc, h3, h4⟩]
  rfl
end
/-- A loop's rounds: what comes next by a name. -/
theorem Lp_of {Bd : List Value → AHeap → (List Value → AHeap → Prop) → Prop} {l : List Value} {h : AHeap} (I : Nat → List Value → AHeap → Prop) (k : Nat) (h0 : I k l h)
    (step : ∀ (k : Nat) (l : List Value) (h : AHeap) (K : List Value → AHeap → Prop), I k l h → (∀ j l' h', j < k → I j l' h' → K l' h') → Bd l h K) : Lp Bd l h :=
  ⟨I, k, h0, fun k l h hi => step k l h _ hi fun j _ _ hj hi' => ⟨j, hj, hi'⟩⟩
theorem gen {A : AProg} {F : FuncId} {args : List Value} {h : AHeap} {k : VK} (hq : ∀ Q : VK, (∀ r h', k r h' → Q r h') → Ensures A F args h Q) : Ensures A F args h k := hq k fun _ _ h => h
theorem rem_nat {a b : Int} (h0 : 0 ≤ a) (h1 : 0 < b) : binV .rem (vi a) (vi b) = some (vi (a % b)) := by rw [binV_rem (by omega), Int.tmod_eq_emod_of_nonneg h0]
theorem ints_length {k : IntKind} (zs : List Int) : (ints k zs).length = zs.length := by simp [ints]
theorem ints_get {k : IntKind} {zs : List Int} {i : Nat} : (ints k zs)[i]? = zs[i]?.map (.int k) := by simp [ints]
theorem ints_app {k : IntKind} {a b : List Int} : ints k a ++ ints k b = ints k (a ++ b) := by simp [ints]
theorem ints_drop {k : IntKind} {a : List Int} {n : Nat} : (ints k a).drop n = ints k (a.drop n) := by simp [ints]
theorem ints_take {k : IntKind} {a : List Int} {n : Nat} : (ints k a).take n = ints k (a.take n) := by simp [ints]
end Go.Proofs.PantryEng
namespace Go.Proofs.PantryEng
open Go Go.RowKit Go.ChangeShapes Go.WideShapes

structure Args (w : World) (f : Inj) (h : AHeap) : Prop where
  wr : WR (Lt h.next) f h w
  pos : 0 < h.next
  no : NoOwn h

section
variable {H : Type} {enc : TypeId × Value → H} {P : Program} {w : World} {spare : Nat → Bool} {held : Bool} {f : Inj} {h : AHeap} {base : Nat} {r : Reach}
theorem Args.zero {tR tErr : Nat} (hlt : tErr < 65536) (hc : w.cell? ⟨0, 0, none⟩ = some (.iface tR (.agg #[.pointer (some ⟨1, tErr, none⟩)]))) : Args w inj0 (heap0 tR tErr) := ⟨heap0_R hlt hc, Nat.one_pos, heap0_noOwn⟩

/-- How great a datum of rows of numbers is. -/
def OneOf (size : Nat) (zs : List Int) (d : DataW H) : Prop := (zs = [] ∧ d = .nil) ∨ ∃ ds rest n, d = .slice ds rest ∧ ds.length = n ∧ zs.length = n * size

/-- A slice of numbers. -/
theorem Args.slice (ha : Args w f h) {k : IntKind} {t e : TypeId} {v : Value} {d : DataW H} {ps : List MemPlace} (ht : P.underlying t = some (.slice e)) (hf : Flat P k e) (hz : 0 < P.cellsOf e) (hok : Value.okWide P w r base t v) (hd : DataW.Trod enc P w 0 spare held t v d ps) :
    ∃ f' h' va zs, Args w f' h' ∧ Richer f h f' h' ∧ TR (Lt h'.next) f' va v ∧ Shows h' k (P.cellsOf e) zs va ∧ (∀ z ∈ zs, (Lit.int k z).wf = true) ∧ OneOf (P.cellsOf e) zs d := by
  obtain ⟨a, len, cap, rfl⟩ := okWide_slice ht hok
  obtain ⟨fuel, hd⟩ := hd
  obtain ⟨v', zs, h1, h2, h3, h4⟩ := open_flat ht hf hd
  simp [Value.cells] at h1
  subst h1
  obtain ⟨f', h', va, k1, k2, k3, k4, _⟩ := addSlice ha.wr ha.pos ha.no hz h2
  refine ⟨f', h', va, zs, ⟨k1, Nat.lt_of_lt_of_le ha.pos k2.next, k2.noOwn ha.no⟩, k2, .g (.c (.s k3)), k4, h3, ?_⟩
  rcases h4 with ⟨h5, h6⟩ | ⟨a', len', cap', ds, rest, h5, h6, h7, _⟩
  · rw [h5] at h2
    exact .inl ⟨h2, h6⟩
  · rw [h5] at h2
    obtain ⟨_, h8, _⟩ := h2
    exact .inr ⟨ds, rest, len', h6, h7, h8⟩

/-- A slice of slices. -/
theorem Args.slices (ha : Args w f h) {k : IntKind} {t te e : TypeId} {v : Value} {d : DataW H} {ps : List MemPlace} (ht : P.underlying t = some (.slice te)) (hte : P.underlying te = some (.slice e)) (hc : P.cellsOf te = 1) (hf : Flat P k e) (hz : 0 < P.cellsOf e) (hok : Value.okWide P w r base t v) (hd : DataW.Trod enc P w 0 spare held t v d ps) :
    ∃ f' h' va L, Args w f' h' ∧ Richer f h f' h' ∧ TR (Lt h'.next) f' va v ∧ ShowsL h' k (P.cellsOf e) L va ∧ (∀ zs ∈ L, ∀ z ∈ zs, (Lit.int k z).wf = true) ∧ ((L = [] ∧ d = .nil) ∨ ∃ ds rest, d = .slice ds rest ∧ L.length = ds.length ∧ All2 (OneOf (P.cellsOf e)) L ds) := by
  obtain ⟨a, len, cap, rfl⟩ := okWide_slice ht hok
  obtain ⟨fuel, hd⟩ := hd
  obtain ⟨v', L, h1, h2, h3, h4⟩ := open_flats ht hte hc hf hd
  simp [Value.cells] at h1
  subst h1
  obtain ⟨f', h', va, k1, k2, k3, k4⟩ := addSlices ha.wr ha.pos ha.no hz h2
  refine ⟨f', h', va, L, ⟨k1, Nat.lt_of_lt_of_le ha.pos k2.next, k2.noOwn ha.no⟩, k2, .g (.c (.s k3)), k4, h3, ?_⟩
  rcases h4 with ⟨h5, h6⟩ | ⟨a', len', cap', ds, rest, h5, h6, h7, h8, h9, h10⟩
  · rw [h5] at h2
    exact .inl ⟨h2, h6⟩
  · refine .inr ⟨ds, rest, h6, by omega, All2.of_get (by omega) fun i zs d hz hd => ?_⟩
    obtain ⟨d', e1, e2⟩ := h10 i zs hz
    rw [hd] at e1; injection e1 with e1; subst e1
    rcases e2 with e2 | ⟨ds', rest', n, e2, e3, e4⟩
    · exact .inl e2
    · exact .inr ⟨ds', rest', n, e2, e3, e4⟩

/-- A struct of numbers. -/
theorem Args.struct {k : IntKind} {t : TypeId} {fs : Array Field} {v : Value} {d : DataW H} {ps : List MemPlace} (ht : P.underlying t = some (.struct fs)) (hf : Flat P k t) (hok : Value.okWide P w r base t v) (hd : DataW.Trod enc P w 0 spare held t v d ps) :
    ∃ zs, v = .agg ⟨ints k zs⟩ ∧ zs.length = P.cellsOf t ∧ ∀ z ∈ zs, (Lit.int k z).wf = true := by
  obtain ⟨cs, rfl, hl⟩ := okWide_struct ht hok
  obtain ⟨fuel, hd⟩ := hd
  obtain ⟨zs, h1, h2, h3⟩ := hf _ _ _ _ _ _ _ _ hd
  have h1 : cs.toList = ints k zs := by simpa [Value.cells] using h1
  obtain ⟨l⟩ := cs
  simp only at h1
  subst h1
  exact ⟨zs, rfl, h2, h3⟩
theorem TR.ints {D : Dom} {f : Inj} {k : IntKind} (zs : List Int) : TR D f (.agg ⟨PantryEng.ints k zs⟩) (.agg ⟨PantryEng.ints k zs⟩) := by
  refine .g (.agg ?_)
  induction zs with
  | nil => exact .nil
  | cons z zs ih => exact .cons (.s (.int _ _)) ih

theorem Richer.tr {f' : Inj} {h' : AHeap} (x : Richer f h f' h') {v v' : Value} (ht : TR (Lt h.next) f v v') : TR (Lt h'.next) f' v v' := ht.mono x.le
end

/-! ### what is shown, as views -/
theorem Shows.view {h : AHeap} {k : IntKind} {size : Nat} {zs : List Int} {v : Value} (hs : Shows h k size zs v) : View h.get size (ints k zs) v := by
  rcases hs with ⟨rfl, rfl⟩ | ⟨rfl, rfl⟩ | ⟨b, len, rfl, _, hg, hl, _⟩
  · exact View.nil
  · exact ⟨_, 0, _, rfl, by simp [ints], .inl ⟨rfl, by simp⟩⟩
  · exact View.of (by simp [tcells, hg]) (by simpa [ints] using hl)
theorem ShowsL.view {h : AHeap} {k : IntKind} {size : Nat} {L : List (List Int)} {v : Value} (hs : ShowsL h k size L v) : ∃ vals, View h.get 1 vals v ∧ All2 (fun p c => View h.get size (ints k p) c) L vals := by
  rcases hs with ⟨rfl, rfl⟩ | ⟨rfl, rfl⟩ | ⟨b, cs, rfl, _, hg, hall, _⟩
  · exact ⟨[], View.nil, .nil⟩
  · exact ⟨[], ⟨_, 0, _, rfl, rfl, .inl ⟨rfl, by simp⟩⟩, .nil⟩
  · exact ⟨cs, View.of (by simp [tcells, hg]) (by rw [Nat.mul_one]; exact hall.length.symm), hall.mono fun _ _ h => h.view⟩
theorem Args.sat {w : World} {f : Inj} {h : AHeap} (ha : Args w f h) : Sat (hm h.get :: []) h :=
  ⟨fun b o hb => ha.wr.dom b o hb, h.get, fun _ => none, fun _ => .inr rfl, Sub.refl _, fun _ _ h => by simp at h, Sub.refl _, trivial⟩
theorem heap0_tok (tR tErr : Nat) : (heap0 tR tErr).get 0 = some (.ro [.complex .f64 tR (65536 + tErr)]) := by
  unfold AHeap.get heap0
  rw [Tree.get_put, if_pos rfl]
end Go.Proofs.PantryEng

/- The engine, part 6d: append, copy, delete, clear; all that writes in one. -/
import Derived.Test.YtgnmjfnkibbnkaaGreatDoorM3
set_option linter.unusedSimpArgs false
set_option linter.unusedVariables false
namespace Go.Proofs.PantryEng
open Go

/-! ### how the heap goes on -/
def upd (f : Inj) (b : Nat) (x : Spot) : Inj := fun j => if j = b then x else f j
theorem upd_same (f : Inj) (b : Nat) (x : Spot) : upd f b x b = x := by simp [upd]
theorem upd_lt {f : Inj} {n b : Nat} {x : Spot} (h : b < n) : upd f n x b = f b := by simp [upd]; omega

section heap
variable {D : Dom} {f : Inj} {h : AHeap} {w w' : World}

theorem WR.update (hw : WR D f h w) {b : Nat} {ob ob' : AObj} (hb : h.get b = some ob) (ho : ob.own = true) (ho' : ob'.own = true)
    (hsize : w.heap.size ≤ w'.heap.size) (hsame : ∀ c, c ≠ (f b).1 → w'.heap[c]? = w.heap[c]?) (hnew : ObjR D f w' (f b) ob') : WR D f (h.set b ob') w' where
  dom j o hj := by
    rw [AHeap.get_set] at hj
    split at hj
    · rename_i e; subst e; exact hw.dom _ _ hb
    · exact hw.dom _ _ hj
  obj j o hj := by
    rw [AHeap.get_set] at hj
    split at hj
    · rename_i e; subst e; injection hj with hj; subst hj; exact hnew
    · rename_i e
      exact ObjR.congr (hsame _ fun h => hw.apart b j _ _ hb hj ho e h.symm) hsize (hw.obj _ _ hj)
  apart i j oi oj hi hj hoi hne := by
    rw [AHeap.get_set] at hi hj
    split at hi
    · rename_i e; subst e
      rw [if_neg hne] at hj
      exact hw.apart _ _ _ _ hb hj ho hne
    · split at hj
      · rename_i e; subst e
        exact hw.apart _ _ _ _ hi hb hoi hne
      · exact hw.apart _ _ _ _ hi hj hoi hne

theorem Ext.update {b : Nat} {ob ob' : AObj} (hb : h.get b = some ob) (ho : ob.own = true) (ho' : ob'.own = true) (hsize : w'.heap.size = w.heap.size)
    (hsame : ∀ c, c ≠ (f b).1 → w'.heap[c]? = w.heap[c]?) (h1 : w'.os = w.os) (h2 : w'.tape = w.tape) (h3 : w'.output = w.output) : Ext f h w f (h.set b ob') w' where
  next := Nat.le_refl _
  inj _ _ := rfl
  size := by omega
  keep c _ hn := hsame c fun e => hn b ob hb ho e.symm
  fresh j o hj hoj := by
    rw [AHeap.get_set] at hj
    split at hj
    · rename_i e; subst e; exact .inr ⟨_, ob, hb, ho, rfl⟩
    · exact .inr ⟨j, o, hj, hoj, rfl⟩
  newId j o hj hoj := by
    rw [AHeap.get_set] at hj
    split at hj
    · injection hj with hj; subst hj; rw [ho'] at hoj; simp at hoj
    · exact hj
  os := h1
  tape := h2
  output := h3

theorem Le.upd {n : Nat} (f : Inj) (x : Spot) : Le (Lt n) (Lt (n + 1)) f (upd f n x) := fun b hb => ⟨Nat.lt_succ_of_lt hb, upd_lt hb⟩

/-- A new block. -/
theorem WR.new (hw : WR (Lt h.next) f h w) {ob : AObj} {c : Spot} (hc : w.heap.size ≤ c.1) (hsize : w.heap.size ≤ w'.heap.size) (hsame : ∀ j, j < w.heap.size → w'.heap[j]? = w.heap[j]?)
    (hnew : ObjR (Lt (h.next + 1)) (upd f h.next c) w' c ob) : WR (Lt (h.new ob).next) (upd f h.next c) (h.new ob) w' where
  dom j o hj := by
    rw [AHeap.get_new] at hj
    split at hj
    · rename_i e; subst e; exact Nat.lt_succ_self _
    · exact Nat.lt_succ_of_lt (hw.dom _ _ hj)
  obj j o hj := by
    rw [AHeap.get_new] at hj
    split at hj
    · rename_i e; subst e; injection hj with hj; subst hj; rw [upd_same]; exact hnew
    · have hlt := hw.dom _ _ hj
      rw [upd_lt hlt]
      have ho := hw.obj _ _ hj
      exact ObjR.congr (hsame _ ho.lt) hsize (ho.mono (Le.upd f c))
  apart i j oi oj hi hj hoi hne := by
    rw [AHeap.get_new] at hi hj
    split at hi
    · rename_i e; subst e
      rw [if_neg hne] at hj
      rw [upd_same, upd_lt (hw.dom _ _ hj)]
      have := (hw.obj _ _ hj).lt
      omega
    · rw [upd_lt (hw.dom _ _ hi)]
      split at hj
      · rename_i e; subst e
        rw [upd_same]
        have := (hw.obj _ _ hi).lt
        omega
      · rw [upd_lt (hw.dom _ _ hj)]
        exact hw.apart _ _ _ _ hi hj hoi hne

theorem Ext.new (hd : ∀ b o, h.get b = some o → b < h.next) {ob : AObj} {c : Spot} (hc : w.heap.size ≤ c.1) (hsize : w.heap.size ≤ w'.heap.size) (hsame : ∀ j, j < w.heap.size → w'.heap[j]? = w.heap[j]?) (ho : ob.own = true)
    (h1 : w'.os = w.os) (h2 : w'.tape = w.tape) (h3 : w'.output = w.output) : Ext f h w (upd f h.next c) (h.new ob) w' where
  next := Nat.le_succ _
  inj b hb := upd_lt hb
  size := hsize
  keep j hj _ := hsame j hj
  fresh j o hj hoj := by
    rw [AHeap.get_new] at hj
    split at hj
    · rename_i e; subst e; rw [upd_same]; exact .inl hc
    · rename_i e; rw [upd_lt (hd _ _ hj)]; exact .inr ⟨j, o, hj, hoj, rfl⟩
  newId j o hj hoj := by
    rw [AHeap.get_new] at hj
    split at hj
    · injection hj with hj; subst hj; rw [ho] at hoj; simp at hoj
    · exact hj
  os := h1
  tape := h2
  output := h3

/-- A block of one's own that goes on under a new number. -/
theorem WR.reuse {z : Nat} (hw : WR (Lt h.next) f h w) {b : Nat} {ob ob' : AObj} (hb : h.get b = some ob) (ho : ob.own = true) (hsize : w.heap.size ≤ w'.heap.size) (hsame : ∀ j, j ≠ (f b).1 → w'.heap[j]? = w.heap[j]?)
    (hnew : ObjR (Lt (h.next + 1)) (upd f h.next ⟨(f b).1, 0, z⟩) w' ⟨(f b).1, 0, z⟩ ob') : WR (Lt ((h.del b).new ob').next) (upd f h.next ⟨(f b).1, 0, z⟩) ((h.del b).new ob') w' where
  dom j o hj := by
    rw [AHeap.get_new] at hj
    split at hj
    · rename_i e; subst e; exact Nat.lt_succ_self _
    · rw [AHeap.get_del] at hj
      split at hj
      · simp at hj
      · exact Nat.lt_succ_of_lt (hw.dom _ _ hj)
  obj j o hj := by
    rw [AHeap.get_new] at hj
    split at hj
    · rename_i e; subst e; injection hj with hj; subst hj
      show ObjR _ _ w' (upd f h.next ⟨(f b).1, 0, z⟩ h.next) _
      rw [upd_same]; exact hnew
    · rw [AHeap.get_del] at hj
      split at hj
      · simp at hj
      · rename_i e
        have hlt := hw.dom _ _ hj
        rw [upd_lt hlt]
        have ho' := hw.obj _ _ hj
        exact ObjR.congr (hsame _ fun k => hw.apart b j _ _ hb hj ho e k.symm) hsize (ho'.mono (Le.upd f _))
  apart i j oi oj hi hj hoi hne := by
    rw [AHeap.get_new] at hi hj
    split at hi
    · rename_i e; rw [← e] at hne ⊢
      have e' : ¬ (h.del b).next = j := hne
      rw [if_neg e', AHeap.get_del] at hj
      split at hj
      · simp at hj
      · rename_i e2
        show (upd f h.next _ h.next).1 ≠ _
        rw [upd_same, upd_lt (hw.dom _ _ hj)]
        exact hw.apart b j _ _ hb hj ho e2
    · rw [AHeap.get_del] at hi
      split at hi
      · simp at hi
      · rename_i e0 e1
        rw [upd_lt (hw.dom _ _ hi)]
        split at hj
        · rename_i e2; rw [← e2]
          show _ ≠ (upd f h.next _ h.next).1
          rw [upd_same]
          exact fun k => hw.apart b i _ _ hb hi ho e1 k.symm
        · rw [AHeap.get_del] at hj
          split at hj
          · simp at hj
          · rw [upd_lt (hw.dom _ _ hj)]
            exact hw.apart _ _ _ _ hi hj hoi hne

theorem Ext.reuse {z : Nat} (hd : ∀ b o, h.get b = some o → b < h.next) {b : Nat} {ob ob' : AObj} (hb : h.get b = some ob) (ho : ob.own = true) (ho' : ob'.own = true) (hsize : w.heap.size ≤ w'.heap.size) (hsame : ∀ j, j ≠ (f b).1 → w'.heap[j]? = w.heap[j]?)
    (h1 : w'.os = w.os) (h2 : w'.tape = w.tape) (h3 : w'.output = w.output) : Ext f h w (upd f h.next ⟨(f b).1, 0, z⟩) ((h.del b).new ob') w' where
  next := Nat.le_succ _
  inj j hj := upd_lt hj
  size := hsize
  keep j _ hn := hsame j fun e => hn b ob hb ho e.symm
  fresh j o hj hoj := by
    rw [AHeap.get_new] at hj
    split at hj
    · rename_i e; rw [← e]
      refine .inr ⟨b, ob, hb, ho, ?_⟩
      show (upd f h.next _ h.next).1 = _
      rw [upd_same]
    · rw [AHeap.get_del] at hj
      split at hj
      · simp at hj
      · rw [upd_lt (hd _ _ hj)]; exact .inr ⟨j, o, hj, hoj, rfl⟩
  newId j o hj hoj := by
    rw [AHeap.get_new] at hj
    split at hj
    · injection hj with hj; subst hj; rw [ho'] at hoj; simp at hoj
    · rw [AHeap.get_del] at hj
      split at hj
      · simp at hj
      · exact hj
  os := h1
  tape := h2
  output := h3

/-- An old block that goes on under a new number in a new block: the old one is dropped. -/
theorem WR.del (hw : WR D f h w) (b : Nat) : WR D f (h.del b) w where
  dom j o hj := by
    rw [AHeap.get_del] at hj; split at hj
    · simp at hj
    · exact hw.dom _ _ hj
  obj j o hj := by
    rw [AHeap.get_del] at hj; split at hj
    · simp at hj
    · exact hw.obj _ _ hj
  apart i j oi oj hi hj hoi hne := by
    rw [AHeap.get_del] at hi hj
    split at hi
    · simp at hi
    · split at hj
      · simp at hj
      · exact hw.apart _ _ _ _ hi hj hoi hne

theorem Ext.del (b : Nat) : Ext f h w f (h.del b) w where
  next := Nat.le_refl _
  inj _ _ := rfl
  size := Nat.le_refl _
  keep _ _ _ := rfl
  fresh j o hj hoj := by
    rw [AHeap.get_del] at hj; split at hj
    · simp at hj
    · exact .inr ⟨j, o, hj, hoj, rfl⟩
  newId j o hj hoj := by
    rw [AHeap.get_del] at hj; split at hj
    · simp at hj
    · exact hj
  os := rfl
  tape := rfl
  output := rfl

theorem objR_row {c : Nat} {arr : Array Value} {t : TypeId} {cs : List Value} (hh : w'.heap[c]? = some (.cells arr t (0, 0))) (hl : cs.length ≤ arr.size) (hr : All2 (CR D f) cs (arr.toList.take cs.length)) : ObjR D f w' ⟨c, 0, arr.size⟩ (.cells cs) := by
  refine ⟨rfl, ⟨arr, t, hh, hl, Nat.le_refl _⟩, fun i v hv => ?_⟩
  obtain ⟨v', h1, h2⟩ := hr.get hv
  refine ⟨v', ?_, h2⟩
  rw [Nat.zero_add, cell?_of hh]
  rw [List.getElem?_take] at h1
  split at h1
  · simpa using h1
  · simp at h1

theorem heap_alloc_new (w : World) (o : Obj) : (w.alloc o).heap[w.heap.size]? = some o := World.alloc_heap_new w o
theorem heap_alloc_old (w : World) (o : Obj) (k : Nat) (hk : k < w.heap.size) : (w.alloc o).heap[k]? = w.heap[k]? := Go.RowKit.Below.heap_alloc w o k hk
end heap
end Go.Proofs.PantryEng
namespace Go.Proofs.PantryEng
open Go

section ops
variable {P : Program} {ms : List String} {N : Nat} {D : Dom} {f : Inj} {h : AHeap} {w : World} {e : Env} {a : Act}

/-- What a new block is, in whatever greater reading. -/
def Lays (D : Dom) (f : Inj) (w : World) (ob : AObj) (mk : Nat → Value) (O : Obj) (v' : Value) : Prop :=
  ob.own = true ∧ ∃ z, ∀ D' f' b, Le D D' f f' → D' b → f' b = ⟨w.heap.size, 0, z⟩ → (∀ w', w'.heap[w.heap.size]? = some O → ObjR D' f' w' ⟨w.heap.size, 0, z⟩ ob) ∧ TR D' f' (mk b) v'

theorem lays_ptr {cs cs' : List Value} {t : TypeId} (h : All2 (CR D f) cs cs') : Lays D f w (.cells cs) ptrTo (.cells ⟨cs'⟩ t) (.pointer (some ⟨w.heap.size, 0, none⟩)) := by
  refine ⟨rfl, cs'.length, fun D' f' b hl hb he => ⟨fun w' hw' => ?_, ?_⟩⟩
  · refine objR_row hw' (by simp [h.length]) ?_
    have : List.take cs.length cs' = cs' := by rw [h.length]; exact List.take_length
    simp only [this]
    exact h.mono fun _ _ => CR.mono hl
  · refine .sr ?_
    have := SR.ptr (D := D') (f := f') b 0 0 hb (by simp [he])
    rw [he] at this; exact this

theorem lays_slice {cs cs' : List Value} {t : TypeId} {len cap n : Nat} (h : All2 (CR D f) cs cs') (hl : len ≤ cap) (hn : 0 < n) (hc : cap * n ≤ cs'.length) : Lays D f w (.cells cs) (fun b => .slice (some ⟨b, 0, none⟩) len (n + 1)) (.cells ⟨cs'⟩ t) (.slice (some ⟨w.heap.size, 0, none⟩) len cap) := by
  refine ⟨rfl, cs'.length, fun D' f' b hl' hb he => ⟨fun w' hw' => ?_, ?_⟩⟩
  · refine objR_row hw' (by simp [h.length]) ?_
    have : List.take cs.length cs' = cs' := by rw [h.length]; exact List.take_length
    simp only [this]
    exact h.mono fun _ _ => CR.mono hl'
  · refine .sr ?_
    exact SR.slice (D := D') (f := f') b 0 ⟨w.heap.size, 0, none⟩ len (n + 1) cap hb ⟨hl, by omega, fun _ => by rw [he]; simpa using hc⟩ (.inl (by simp [he]))

theorem lays_map : Lays D f w (.map []) (fun b => .map (some b)) (.map #[] 0) (.map (some w.heap.size)) := by
  refine ⟨rfl, 0, fun D' f' b hl hb he => ⟨fun w' hw' => ⟨#[], 0, hw', .nil, by simp, by simp [BornOK]⟩, ?_⟩⟩
  refine .sr ?_
  have := SR.map (D := D') (f := f') b hb
  rw [he] at this; exact this

theorem run_newRow {t : TypeId} {cs : Array Value} : (newRow t cs).run P w = .ok ⟨w.heap.size, 0, none⟩ (w.alloc (.cells cs t)) := by simp [newRow]

theorem range0 {α : Type} (g : Nat → α) : (Array.range 0).map g = #[] := by apply Array.toList_inj.1; simp

theorem zeroMany_get {z : List Value} {n : Nat} (hz : z.length = n) (hn : 0 < n) : ∀ (k i : Nat), i < k * n → (zeroMany z k)[i]? = z[i % n]? := by
  intro k
  induction k with
  | zero => intro i hi; simp at hi
  | succ k ih =>
    intro i hi
    simp only [zeroMany]
    by_cases h : i < n
    · rw [List.getElem?_append_left (by omega), Nat.mod_eq_of_lt h]
    · rw [List.getElem?_append_right (by omega), hz, ih (i - n) (by rw [Nat.succ_mul] at hi; omega), Nat.mod_eq_sub_mod (Nat.le_of_not_lt h)]

theorem zeroMany_length {z : List Value} {n : Nat} (hz : z.length = n) : ∀ k, (zeroMany z k).length = k * n := by
  intro k
  induction k with
  | zero => simp [zeroMany]
  | succ k ih => simp [zeroMany, ih, hz, Nat.succ_mul]; omega

theorem zeroMany_eq {z : List Value} {n : Nat} (hz : z.length = n) (hn : 0 < n) (k : Nat) : (Array.range (k * n)).map (fun i => (⟨z⟩ : Array Value)[i % (⟨z⟩ : Array Value).size]!) = ⟨zeroMany z k⟩ := by
  apply Array.toList_inj.1
  apply List.ext_getElem?
  intro i
  have hs : (⟨z⟩ : Array Value).size = n := by simpa using hz
  rw [hs]
  by_cases hi : i < k * n
  · rw [zeroMany_get hz hn k i hi]
    have hm : i % n < z.length := by rw [hz]; exact Nat.mod_lt _ hn
    simp [hi, List.getElem?_eq_getElem hm, getElem!_pos, hm]
  · rw [List.getElem?_eq_none (by simpa using hi), List.getElem?_eq_none (by rw [zeroMany_length hz]; omega)]

theorem zeroMany_R {z : List Value} (hz : z.all litC = true) : ∀ k, All2 (CR D f) (zeroMany z k) (zeroMany z k) := by
  intro k
  induction k with
  | zero => exact .nil
  | succ k ih => exact (litL_CR D f hz).append ih

theorem fillS_eq {size : Nat} : ∀ {qs : List (Nat × Opd)} {cs : List Value}, fillS e size cs qs = fillC e cs (qs.map fun (i, x) => (i * size, size, x)) := by
  intro qs
  induction qs with
  | nil => intro cs; rfl
  | cons q qs ih => obtain ⟨i, x⟩ := q; intro cs; simp only [fillS, fillC, List.map_cons, ih]

theorem setMany_length' : ∀ (vs l : List Value) (o : Nat), (setMany l o vs).length = l.length := by
  intro vs
  induction vs with
  | nil => intro l o; rfl
  | cons v vs ih => intro l o; simp only [setMany, ih, List.length_set]

theorem fillC_length : ∀ {qs : List (Nat × Nat × Opd)} {cs r : List Value}, fillC e cs qs = some r → r.length = cs.length := by
  intro qs
  induction qs with
  | nil => intro cs r h; simp [fillC] at h; rw [h]
  | cons q qs ih =>
    obtain ⟨o, n, x⟩ := q
    intro cs r h
    simp only [fillC] at h
    split at h
    · rw [ih h, setMany_length']
    · simp at h

theorem cPartsS_eq {size : Nat} : ∀ {ps : List (Nat × Operand)} {qs : List (Nat × Opd)}, cPartsS N ps = some qs → cParts N (fun i => some (i * size, size)) ps = some (qs.map fun (i, x) => (i * size, size, x)) := by
  intro ps
  induction ps with
  | nil => intro qs h; simp [cPartsS] at h; subst h; rfl
  | cons p ps ih =>
    obtain ⟨i, x⟩ := p
    intro qs h
    simp only [cPartsS] at h
    split at h
    · rename_i y ys h1 h2
      injection h with h; subst h
      simp [cParts, h1, ih h2]
    · simp at h

theorem litCells_of {t : TypeId} {z : List Value} (hz : (zeroT P t).bind litCells = some z) : ∃ zv, zeroT P t = some zv ∧ zv.cells = ⟨z⟩ ∧ z.all litC = true := by
  cases hzz : zeroT P t with
  | none => rw [hzz] at hz; simp at hz
  | some zv =>
    rw [hzz] at hz
    simp only [Option.bind_some] at hz
    unfold litCells at hz
    split at hz
    · rename_i hl
      injection hz with hz; subst hz
      refine ⟨zv, rfl, ?_, hl⟩
      cases zv <;> first | rfl | (simp [cellsOf, litC] at hl)
    · simp at hz

theorem get1_ifl {c : Prop} [Decidable c] {x : AOp} {q : LOp} (h : (if c then x else .p .bad) = .l q) : c ∧ x = .l q := by
  split at h
  · exact ⟨by assumption, h⟩
  · simp at h

theorem i64_id {n : Int} (h0 : 0 ≤ n) (h1 : n ≤ 1099511627776) : IntKind.i64.wrap n = n := wrap_i64_in n (by omega) (by omega)

/-- AN OPERATION THAT LAYS A BLOCK. -/
theorem simL {o : Oper} {q : LOp} (hq : cOp P ms N o.op = .l q) (he : EnvR D f N e a) {ob : AObj} {mk : Nat → Value} (hv : evL e q = some (ob, mk)) :
    ∃ O v', (execOp a.eval o).run P w = .ok (.value v') (w.alloc O) ∧ Lays D f w ob mk O v' := by
  obtain ⟨dst, op, ty, pos, after, guard⟩ := o
  simp only at hq
  cases op with
  | alloc t =>
    obtain ⟨z, hz, hq⟩ := get1_l hq
    injection hq with hq; subst hq
    simp only [evL, Option.some.injEq, Prod.mk.injEq] at hv
    obtain ⟨rfl, rfl⟩ := hv
    obtain ⟨zv, h1, h2, h3⟩ := litCells_of hz
    refine ⟨.cells ⟨z⟩ t, _, ?_, lays_ptr (litL_CR D f h3)⟩
    simp [execOp, Instr.alloc, run_zeroT h1, newVar, run_newRow, h2]
  | box t x =>
    obtain ⟨x', hx, hq⟩ := get1_l hq
    injection hq with hq; subst hq
    simp only [evL] at hv
    split at hv
    · simp at hv
    · rename_i ht
      simp only [Option.some.injEq, Prod.mk.injEq] at hv
      obtain ⟨rfl, rfl⟩ := hv
      have hR := ((cOpd_R he hx).gr (by simpa using ht)).cells
      refine ⟨.cells (a.eval x).cells t, _, ?_, lays_ptr (cs' := (a.eval x).cells.toList) hR⟩
      simp [execOp, Instr.box, newVar, run_newRow]
  | buildSlice t len parts =>
    simp only [cOp] at hq
    split at hq
    · rename_i te hu
      obtain ⟨n, hn, hq⟩ := get1_l hq
      obtain ⟨z, hz, hq⟩ := get1_l hq
      obtain ⟨hc, hq⟩ := get1_ifl hq
      obtain ⟨ps, hps, hq⟩ := get1_l hq
      injection hq with hq; subst hq
      simp only [evL] at hv
      cases hf : fillS e n (zeroMany z len) ps with
      | none => rw [hf] at hv; simp at hv
      | some cs =>
        rw [hf] at hv
        simp only [Option.map_some, Option.some.injEq, Prod.mk.injEq] at hv
        obtain ⟨rfl, rfl⟩ := hv
        obtain ⟨zv, h1, h2, h3⟩ := litCells_of hz
        rw [fillS_eq] at hf
        have hlen : cs.length = len * n := by rw [fillC_length hf, zeroMany_length hc.1]
        obtain ⟨cs', k1, k2⟩ := sim_fill he (cPartsS_eq hps) (zeroMany_R h3 len) hf
        refine ⟨.cells ⟨cs'⟩ te, .slice (some ⟨w.heap.size, 0, none⟩) len len, ?_, lays_slice k2 (Nat.le_refl _) hc.2.1 (by rw [← k2.length, hlen]; exact Nat.le_refl _)⟩
        have hle : ¬ len * n > 2 ^ 24 := by have := hc.2.2; omega
        have e1 : (Array.range (len * n)).map (fun i => (⟨z⟩ : Array Value)[i % (⟨z⟩ : Array Value).size]!) = ⟨zeroMany z len⟩ := zeroMany_eq hc.1 hc.2.1 len
        by_cases h0 : len * n = 0
        · have hz0 : zeroMany z len = [] := by
            have := zeroMany_length hc.1 len
            rw [h0] at this; simpa using this
          rw [hz0] at k1
          have k1' : Instr.fill (fun i => some (i * n, n)) #[] (parts.toList.map fun (i, x) => (i, a.eval x)) = some ⟨cs'⟩ := k1
          simp only [execOp, Instr.buildSlice, Sem.run_bind, run_underlying hu, Result.andThen_ok, run_sizeT hn, hle, if_false, Sem.run_pure, Array.toList_map]
          simp only [h0, if_true, Sem.run_pure, Result.andThen_ok, range0, k1']
          simp [run_newRow]
        · simp only [execOp, Instr.buildSlice, Sem.run_bind, run_underlying hu, Result.andThen_ok, run_sizeT hn, hle, if_false, h0, run_zeroT h1, Sem.run_pure, h2, e1, Array.toList_map, k1]
          simp [run_newRow]
    · simp at hq
  | makeMap t r =>
    cases r with
    | none =>
      simp only [cOp, AOp.l.injEq] at hq
      subst hq
      simp only [evL, Option.some.injEq, Prod.mk.injEq] at hv
      obtain ⟨rfl, rfl⟩ := hv
      exact ⟨.map #[] 0, .map (some w.heap.size), by simp [execOp, Instr.makeMap], lays_map⟩
    | some r => simp [cOp] at hq
  | makeSlice t l c =>
    simp only [cOp] at hq
    split at hq
    · rename_i te hu
      obtain ⟨l', hl, hq⟩ := get1_l hq
      obtain ⟨c', hc, hq⟩ := get1_l hq
      obtain ⟨n, hn, hq⟩ := get1_l hq
      obtain ⟨b, hb, hq⟩ := get1_l hq
      obtain ⟨z, hz, hq⟩ := get1_l hq
      obtain ⟨hzn, hq⟩ := get1_ifl hq
      injection hq with hq; subst hq
      obtain ⟨zv, h1, h2, h3⟩ := litCells_of hz
      have hR1 := cOpd_R he hl
      have hR2 := cOpd_R he hc
      simp only [evL] at hv
      split at hv
      · rename_i lv cv e1 e2
        split at hv
        · rename_i hcond
          simp only [Option.some.injEq, Prod.mk.injEq] at hv
          obtain ⟨rfl, rfl⟩ := hv
          rw [e1] at hR1; rw [e2] at hR2
          have w1 := hR1.int_inv
          have w2 := hR2.int_inv
          obtain ⟨k1, k2, k3, k4⟩ := hcond
          obtain ⟨inf, hi1, hi2⟩ := run_infoT (w := w) hb
          have i1 := i64_id k1 (by omega)
          have i2 := i64_id (n := cv) (by omega) k4
          refine ⟨.cells ⟨zeroMany z cv.toNat⟩ te, .slice (some ⟨w.heap.size, 0, none⟩) lv.toNat cv.toNat, ?_, (by rw [hzn.1]; exact lays_slice (zeroMany_R h3 _) (by omega) hzn.2 (by rw [zeroMany_length hzn.1]; exact Nat.le_refl _))⟩
          have t1 : (decide (cv < 0) || decide ((inf.bytes : Int) * cv > 2 ^ 48)) = false := by
            have : (inf.bytes : Int) * cv ≤ 1099511627776 := by rw [hi2, Int.mul_comm]; exact k3
            simp; omega
          have e3 : (Array.range (cv.toNat * n)).map (fun i => (⟨z⟩ : Array Value)[i % (⟨z⟩ : Array Value).size]!) = ⟨zeroMany z cv.toNat⟩ := zeroMany_eq hzn.1 hzn.2 _
          have t2 : ¬ lv < 0 := by omega
          have t3 : ¬ lv > cv := by omega
          simp only [execOp, Instr.makeSlice, Sem.run_bind, run_underlying hu, Result.andThen_ok, w1, w2, asInt, asIntOf, Sem.run_pure, hi1, i1, i2, t1, t2, t3, Bool.false_or, Bool.or_false, decide_false, Bool.false_eq_true, if_false, run_askRoom, run_sizeT hn]
          by_cases h0 : cv.toNat * n = 0
          · have hz0 : zeroMany z cv.toNat = [] := by
              have := zeroMany_length hzn.1 cv.toNat
              rw [h0] at this; simpa using this
            rw [if_pos h0, h0, hz0]
            simp only [Sem.run_pure, Result.andThen_ok, range0, Sem.run_bind, run_newRow]
          · rw [if_neg h0]
            simp only [Sem.run_bind, run_zeroT h1, Result.andThen_ok, Sem.run_pure, h2, e3]
            simp [run_newRow]
        · simp at hv
      · simp at hv
    · simp at hq
  | move x => obtain ⟨_, _, hq⟩ := get1_l hq; simp at hq
  | assign x => obtain ⟨_, _, hq⟩ := get1_l hq; simp at hq
  | pick c x y =>
    obtain ⟨_, _, hq⟩ := get1_l hq
    obtain ⟨_, _, hq⟩ := get1_l hq
    obtain ⟨_, _, hq⟩ := get1_l hq
    simp at hq
  | build t parts =>
    obtain ⟨_, _, hq⟩ := get1_l hq
    split at hq
    · obtain ⟨_, _, hq⟩ := get1_l hq; obtain ⟨_, _, hq⟩ := get1_l hq; simp at hq
    · obtain ⟨_, _, hq⟩ := get1_l hq; obtain ⟨_, _, hq⟩ := get1_l hq; simp at hq
    · simp at hq
  | load t x => obtain ⟨_, _, hq⟩ := get1_l hq; obtain ⟨_, _, hq⟩ := get1_l hq; obtain ⟨_, _, hq⟩ := get1_l hq; simp at hq
  | store t x y => obtain ⟨_, _, hq⟩ := get1_l hq; obtain ⟨_, _, hq⟩ := get1_l hq; obtain ⟨_, _, hq⟩ := get1_l hq; simp at hq
  | nilCheck x => obtain ⟨_, _, hq⟩ := get1_l hq; simp at hq
  | binOp op t x y yt => obtain ⟨_, _, hq⟩ := get1_l hq; obtain ⟨_, _, hq⟩ := get1_l hq; simp at hq
  | unOp op t x => cases op <;> first | (simp [cOp] at hq; done) | (obtain ⟨_, _, hq⟩ := get1_l hq; simp at hq)
  | convert s d x => obtain ⟨_, _, hq⟩ := get1_l hq; simp at hq
  | makeInterface t x => obtain ⟨_, _, hq⟩ := get1_l hq; split at hq <;> simp at hq
  | makeFunc fn x y => cases fn <;> first | (simp [cOp] at hq; done) | (obtain ⟨_, _, hq⟩ := get1_l hq; obtain ⟨_, _, hq⟩ := get1_l hq; simp at hq)
  | slice t x lo hi mx =>
    obtain ⟨_, _, hq⟩ := get1_l hq; obtain ⟨_, _, hq⟩ := get1_l hq; obtain ⟨_, _, hq⟩ := get1_l hq; obtain ⟨_, _, hq⟩ := get1_l hq
    split at hq
    · obtain ⟨_, _, hq⟩ := get1_l hq; split at hq <;> simp at hq
    · simp at hq
    · simp at hq
  | fieldAddr t x i =>
    simp only [cOp] at hq
    split at hq
    · obtain ⟨_, _, hq⟩ := get1_l hq; obtain ⟨_, _, hq⟩ := get1_l hq; split at hq <;> simp at hq
    · simp at hq
  | field t x i =>
    simp only [cOp] at hq
    split at hq
    · obtain ⟨_, _, hq⟩ := get1_l hq; obtain ⟨_, _, hq⟩ := get1_l hq; obtain ⟨_, _, hq⟩ := get1_l hq; obtain ⟨_, _, hq⟩ := get1_l hq; simp at hq
    · simp at hq
  | indexAddr t x i =>
    obtain ⟨_, _, hq⟩ := get1_l hq; obtain ⟨_, _, hq⟩ := get1_l hq
    split at hq
    · obtain ⟨_, _, hq⟩ := get1_l hq; simp at hq
    · obtain ⟨_, _, hq⟩ := get1_l hq; simp at hq
    · simp at hq
  | index t x i =>
    obtain ⟨_, _, hq⟩ := get1_l hq; obtain ⟨_, _, hq⟩ := get1_l hq
    split at hq
    · obtain ⟨_, _, hq⟩ := get1_l hq; obtain ⟨_, _, hq⟩ := get1_l hq; simp at hq
    · simp at hq
    · simp at hq
  | lookup t m k ok =>
    simp only [cOp] at hq
    split at hq
    · split at hq
      · obtain ⟨_, _, hq⟩ := get1_l hq; obtain ⟨_, _, hq⟩ := get1_l hq; obtain ⟨_, _, hq⟩ := get1_l hq; split at hq <;> simp at hq
      · simp at hq
    · simp at hq
  | mapUpdate t m k x =>
    simp only [cOp] at hq
    split at hq
    · split at hq
      · obtain ⟨_, _, hq⟩ := get1_l hq; obtain ⟨_, _, hq⟩ := get1_l hq; obtain ⟨_, _, hq⟩ := get1_l hq; simp at hq
      · simp at hq
    · simp at hq
  | extract x i => obtain ⟨_, _, hq⟩ := get1_l hq; simp at hq
  | call c =>
    obtain ⟨callee, args, ts⟩ := c
    cases callee with
    | value g => obtain ⟨_, _, hq⟩ := get1_l hq; obtain ⟨_, _, hq⟩ := get1_l hq; simp at hq
    | invoke g m => obtain ⟨_, _, hq⟩ := get1_l hq; obtain ⟨_, _, hq⟩ := get1_l hq; split at hq <;> simp at hq
    | builtin b =>
      obtain ⟨l, hl, hq⟩ := get1_l hq
      unfold cBuiltin at hq
      split at hq <;> (repeat' split at hq) <;> simp at hq
  | _ => simp [cOp] at hq

end ops
end Go.Proofs.PantryEng
namespace Go.Proofs.PantryEng
open Go

/-! ### lists -/
theorem setMany_length : ∀ (vs l : List Value) (o : Nat), (setMany l o vs).length = l.length := by
  intro vs
  induction vs with
  | nil => intro l o; rfl
  | cons v vs ih => intro l o; simp only [setMany, ih, List.length_set]

theorem setMany_get : ∀ (vs l : List Value) (o i : Nat), o + vs.length ≤ l.length → (setMany l o vs)[i]? = if o ≤ i ∧ i < o + vs.length then vs[i - o]? else l[i]? := by
  intro vs
  induction vs with
  | nil => intro l o i _; simp only [setMany, List.length_nil]; rw [if_neg (by omega)]
  | cons v vs ih =>
    intro l o i h
    simp only [List.length_cons] at h
    simp only [setMany]
    rw [ih _ _ _ (by simp; omega)]
    by_cases h1 : o + 1 ≤ i ∧ i < o + 1 + vs.length
    · rw [if_pos h1, if_pos ⟨by omega, by simp only [List.length_cons]; omega⟩]
      have : i - o = (i - (o + 1)) + 1 := by omega
      rw [this, List.getElem?_cons_succ]
    · rw [if_neg h1]
      by_cases h2 : o = i
      · subst h2
        rw [if_pos ⟨Nat.le_refl _, by simp only [List.length_cons]; omega⟩, Nat.sub_self, List.getElem?_set_self (by omega)]
        rfl
      · rw [if_neg (by simp only [List.length_cons]; omega), List.getElem?_set_ne h2]

theorem setMany_eq (vs l : List Value) (o : Nat) (h : o + vs.length ≤ l.length) : l.take o ++ vs ++ l.drop (o + vs.length) = setMany l o vs := by
  apply List.ext_getElem?
  intro i
  rw [setMany_get vs l o i h]
  by_cases h1 : i < o
  · rw [if_neg (by omega), List.append_assoc, List.getElem?_append_left (by simp; omega), List.getElem?_take, if_pos h1]
  · by_cases h2 : i < o + vs.length
    · rw [if_pos (by omega), List.getElem?_append_left (by simp; omega), List.getElem?_append_right (by simp; omega)]
      congr 1; simp; omega
    · rw [if_neg (by omega), List.getElem?_append_right (by simp; omega), List.getElem?_drop]
      congr 1; simp; omega

section ops
variable {P : Program} {ms : List String} {N : Nat} {D : Dom} {f : Inj} {h h' : AHeap} {w : World} {e : Env} {a : Act}

theorem CR.ones {vs vs' : List Value} (hr : All2 (CR D f) vs vs') : ∀ v ∈ vs', v.oneCell' = true := by
  induction hr with
  | nil => intro v hv; simp at hv
  | cons h1 _ ih =>
    intro v hv
    rcases List.mem_cons.1 hv with rfl | hv
    · exact h1.one.1
    · exact ih v hv

theorem WR.storeRun (hw : WR D f h w) {b o : Nat} {vs vs' : List Value} (hs : h.store b o vs = some h') (hr : All2 (CR D f) vs vs') :
    ∃ w', (storeCells ⟨(f b).1, o + (f b).2, none⟩ vs').run P w = .ok () w' ∧ WR D f h' w' ∧ Ext f h w f h' w' ∧ h'.next = h.next := by
  unfold AHeap.store at hs
  split at hs
  · rename_i cs hg
    split at hs
    · rename_i hlen
      injection hs with hs; subst hs
      obtain ⟨h0, ⟨arr, t, ha, hl, hroom⟩, hc⟩ := hw.obj b _ hg
      have hvl := hr.length
      have hle : o + vs'.length ≤ arr.size := by omega
      have hrun := run_storeCells_at (P := P) (f b).1 o t vs' 0 arr w ha (by simpa using hle) (CR.ones hr)
      refine ⟨_, by rw [h0]; exact hrun, ?_, ?_, rfl⟩
      · refine hw.update hg rfl rfl (by simp) (fun c hc => setRow_other w _ c _ hc) ?_
        refine ⟨h0, ⟨_, t, setRow_heap w _ _ _ _ _ ha, ?_, ?_⟩, ?_⟩
        · simp only [Nat.add_zero]
          rw [setMany_length]
          have := congrArg List.length (setMany_eq vs' arr.toList o (by simpa using hle))
          rw [setMany_length] at this
          simp at this ⊢
          omega
        · simp only [Nat.add_zero]
          have := congrArg List.length (setMany_eq vs' arr.toList o (by simpa using hle))
          rw [setMany_length] at this
          simp at this ⊢
          omega
        · intro i v hv
          rw [Nat.zero_add, cell?_of (setRow_heap w _ _ _ _ _ ha)]
          simp only [Nat.add_zero]
          rw [setMany_eq vs' arr.toList o (by simpa using hle)]
          rw [setMany_get vs cs o i hlen] at hv
          have e1 : (setMany arr.toList o vs').toArray[i]? = (setMany arr.toList o vs')[i]? := by simp
          rw [e1, setMany_get vs' arr.toList o i (by simpa using hle)]
          by_cases hi : o ≤ i ∧ i < o + vs.length
          · rw [if_pos hi] at hv
            rw [if_pos (by omega)]
            exact hr.get hv
          · rw [if_neg hi] at hv
            rw [if_neg (by omega)]
            obtain ⟨v', k1, k2⟩ := hc i v hv
            rw [Nat.zero_add, cell?_of ha] at k1
            exact ⟨v', by simpa using k1, k2⟩
      · exact Ext.update hg rfl rfl (by simp) (fun c hc => setRow_other w _ c _ hc) rfl rfl rfl
    · simp at hs
  · simp at hs

/-- What a write leaves. -/
def Writes (P : Program) (f : Inj) (h : AHeap) (w : World) (s : Sem Next) (v : Value) (h' : AHeap) : Prop :=
  ∃ nx w' f' v', s.run P w = .ok nx w' ∧ (nx = .value v' ∨ (nx = .skip ∧ v' = undef)) ∧ TR (Lt h'.next) f' v v' ∧ WR (Lt h'.next) f' h' w' ∧ Ext f h w f' h' w'

theorem sim_store {t : TypeId} {n : Nat} {x y : Operand} {x' y' : Opd} {o : Oper} {tbl : List (List (TypeId × FuncId))} {call : CallF} {v : Value} (ho : o.op = .store t x y) (hx : cOpd N x = some x') (hy : cOpd N y = some y') (hn : sizeT P t = some n)
    (he : EnvR (Lt h.next) f N e a) (hw : WR (Lt h.next) f h w) (hv : evE tbl call e h (.store n x' y') = some (v, h')) : Writes P f h w (execOp a.eval o) v h' := by
  have hR := cOpd_R he hx
  have hR2 := cOpd_R he hy
  simp only [evE] at hv
  split at hv
  · rename_i b of e1
    split at hv
    · rename_i hc
      rw [e1] at hR
      obtain ⟨hb, e2⟩ := hR.ptr_inv
      cases hs : h.store b of (cellsOf (y'.ev e)) with
      | none => rw [hs] at hv; simp at hv
      | some h2 =>
        rw [hs] at hv
        simp only [Option.map_some, Option.some.injEq, Prod.mk.injEq] at hv
        obtain ⟨rfl, rfl⟩ := hv
        have hcells := (hR2.gr hc.2).cells
        obtain ⟨w', k1, k2, k3, k4⟩ := hw.storeRun (P := P) hs hcells
        have hlen : (a.eval y).cells.size = n := by
          have := hcells.length
          rw [hc.1] at this; simpa using this.symm
        refine ⟨.skip, w', f, undef, ?_, .inr ⟨rfl, rfl⟩, TR.undef _ _, by rw [k4]; exact k2, k3⟩
        simp [execOp, ho, Instr.storeAt, e2, Instr.sureAddr, storeVar, hlen, run_sizeT hn, k1]
    · simp at hv
  · simp at hv

/-! ### maps -/
theorem mGet_none : ∀ {es : List (Int × Value)} {x : Int}, mGet es x = none → x ∉ es.map (·.1) := by
  intro es
  induction es with
  | nil => intro x _; simp
  | cons p es ih =>
    obtain ⟨k, u⟩ := p
    intro x h
    simp only [mGet] at h
    split at h
    · simp at h
    · rename_i hk
      simp only [List.map_cons, List.mem_cons, not_or]
      exact ⟨fun e => hk e.symm, ih h⟩

theorem mPut_none : ∀ {es : List (Int × Value)} {x : Int} {v : Value}, mGet es x = none → mPut es x v = es ++ [(x, v)] := by
  intro es
  induction es with
  | nil => intro x v _; rfl
  | cons p es ih =>
    obtain ⟨k, u⟩ := p
    intro x v h
    simp only [mGet] at h
    split at h
    · simp at h
    · rename_i hk; simp [mPut, hk, ih h]

theorem mPut_mid : ∀ {es1 : List (Int × Value)} {es2 : List (Int × Value)} {x : Int} {u v : Value}, mGet es1 x = none → mPut (es1 ++ (x, u) :: es2) x v = es1 ++ (x, v) :: es2 := by
  intro es1
  induction es1 with
  | nil => intro es2 x u v _; simp [mPut]
  | cons p es ih =>
    obtain ⟨k, q⟩ := p
    intro es2 x u v h
    simp only [mGet] at h
    split at h
    · simp at h
    · rename_i hk; simp [mPut, hk, ih h]

theorem mDel_none : ∀ {es : List (Int × Value)} {x : Int}, mGet es x = none → mDel es x = es := by
  intro es
  induction es with
  | nil => intro x _; rfl
  | cons p es ih =>
    obtain ⟨k, u⟩ := p
    intro x h
    simp only [mGet] at h
    split at h
    · simp at h
    · rename_i hk; simp [mDel, hk, ih h]

theorem mDel_mid : ∀ {es1 : List (Int × Value)} {es2 : List (Int × Value)} {x : Int} {u : Value}, mGet es1 x = none → mDel (es1 ++ (x, u) :: es2) x = es1 ++ es2 := by
  intro es1
  induction es1 with
  | nil => intro es2 x u _; simp [mDel]
  | cons p es ih =>
    obtain ⟨k, q⟩ := p
    intro es2 x u h
    simp only [mGet] at h
    split at h
    · simp at h
    · rename_i hk; simp [mDel, hk, ih h]

theorem All2.eraseIdx {α β : Type} {R : α → β → Prop} {l : List α} {l' : List β} (h : All2 R l l') : ∀ n, All2 R (l.eraseIdx n) (l'.eraseIdx n) := by
  induction h with
  | nil => intro n; simp; exact .nil
  | cons h1 h2 ih => intro n; cases n with | zero => simpa using h2 | succ n => simpa using .cons h1 (ih n)

theorem WR.setMap (hw : WR D f h w) {b : Nat} {es es' : List (Int × Value)} {ents ents' : Array MapEntry} {clock clock' : Nat} (hb : h.get b = some (.map es)) (hg : w.heap[(f b).1]? = some (.map ents clock))
    (hr : All2 (EntR D f) es' ents'.toList) (hn : (es'.map (·.1)).Nodup) (ho : BornOK ents'.toList clock') :
    (setObj (f b).1 (.map ents' clock')).run P w = .ok () (w.putObj (f b).1 (.map ents' clock')) ∧ WR D f (h.set b (.map es')) (w.putObj (f b).1 (.map ents' clock')) ∧ Ext f h w f (h.set b (.map es')) (w.putObj (f b).1 (.map ents' clock')) := by
  have hlt : (f b).1 < w.heap.size := (Array.getElem?_eq_some_iff.1 hg).1
  refine ⟨by simp [setObj, Sem.run, hg, World.putObj], ?_, ?_⟩
  · refine hw.update hb rfl rfl (by simp [World.putObj]) (fun c hc => World.putObj_heap_other hc) ?_
    exact ⟨ents', clock', World.putObj_heap_same hlt, hr, hn, ho⟩
  · exact Ext.update hb rfl rfl (by simp [World.putObj]) (fun c hc => World.putObj_heap_other hc) rfl rfl rfl

theorem map?_get {b : Nat} {es : List (Int × Value)} (hm : h.map? b = some es) : h.get b = some (.map es) := by
  unfold AHeap.map? at hm
  split at hm
  · rename_i l hg; injection hm with hm; subst hm; exact hg
  · simp at hm

theorem born_push {l : List MapEntry} {c : Nat} {x : MapEntry} (h : BornOK l c) (hx : x.born = c) : BornOK (l ++ [x]) (c + 1) := by
  obtain ⟨h1, h2⟩ := h
  refine ⟨?_, ?_⟩
  · rw [List.map_append, List.pairwise_append]
    refine ⟨h1, by simp, ?_⟩
    intro p hp q hq
    simp only [List.map_cons, List.map_nil, List.mem_singleton] at hq
    subst hq
    obtain ⟨y, hy, rfl⟩ := List.mem_map.1 hp
    rw [hx]; exact h2 y hy
  · intro y hy
    rcases List.mem_append.1 hy with hy | hy
    · exact Nat.lt_succ_of_lt (h2 y hy)
    · rw [List.mem_singleton.1 hy, hx]; exact Nat.lt_succ_self _

theorem sim_mapUpdate {t tk te : TypeId} {m k x : Operand} {m' k' x' : Opd} {o : Oper} {tbl : List (List (TypeId × FuncId))} {call : CallF} {v : Value} (ho : o.op = .mapUpdate t m k x) (hm : cOpd N m = some m') (hk : cOpd N k = some k') (hx : cOpd N x = some x')
    (ht : P.underlying t = some (.map tk te)) (htk : P.underlying tk = some (.int .i64))
    (he : EnvR (Lt h.next) f N e a) (hw : WR (Lt h.next) f h w) (hv : evE tbl call e h (.mapUpdate m' k' x') = some (v, h')) : Writes P f h w (execOp a.eval o) v h' := by
  have hRm := cOpd_R he hm
  have hRk := cOpd_R he hk
  have hRx := cOpd_R he hx
  simp only [evE] at hv
  split at hv
  · rename_i b n e1 e2
    split at hv
    · simp at hv
    · rename_i htup
      rw [e1] at hRm; rw [e2] at hRk
      have w2 := hRk.int_inv
      have hgr := hRx.gr (by simpa using htup)
      cases hmp : h.map? b with
      | none => rw [hmp] at hv; simp at hv
      | some es =>
        rw [hmp] at hv
        simp only [Option.map_some, Option.some.injEq, Prod.mk.injEq] at hv
        obtain ⟨rfl, rfl⟩ := hv
        rcases hRm.map_inv with ⟨e3, _⟩ | ⟨b', e3, hb, w1⟩
        · simp at e3
        · injection e3 with e3; subst e3
          obtain ⟨ents, clock, g1, g2, g3, g4⟩ := hw.map? hmp
          have hgo : (getObj (f b).1).run P w = .ok (.map ents clock) w := by simp [getObj, Sem.run, g1]
          have hget := map?_get hmp
          rcases findNow_R (kd := .i64) (x := n) 0 g2 with ⟨q1, q2⟩ | ⟨u, j, en, q1, q2, q3, q4, q5, es1, u1, es2, q6, q7, q8⟩
          · -- a new key
            have hp := mPut_none (v := x'.ev e) q1
            have hr : All2 (EntR (Lt h.next) f) (mPut es n (x'.ev e)) (ents.push { key := .int .i64 n, val := a.eval x, born := clock }).toList := by
              rw [hp, Array.toList_push]
              exact g2.append (.cons ⟨rfl, hgr⟩ .nil)
            have hnd : ((mPut es n (x'.ev e)).map (·.1)).Nodup := by
              rw [hp, List.map_append, List.nodup_append]
              refine ⟨g3, by simp, ?_⟩
              intro z hz y hy
              simp only [List.map_cons, List.map_nil, List.mem_singleton] at hy
              subst hy
              exact fun e => mGet_none q1 (e ▸ hz)
            have hbo : BornOK (ents.push { key := .int .i64 n, val := a.eval x, born := clock }).toList (clock + 1) := by
              rw [Array.toList_push]; exact born_push g4 rfl
            obtain ⟨k1, k2, k3⟩ := hw.setMap (P := P) hget g1 hr hnd hbo
            refine ⟨.skip, _, f, undef, ?_, .inr ⟨rfl, rfl⟩, TR.undef _ _, k2, k3⟩
            simp only [execOp, ho, w1, w2, Instr.mapUpdate, Sem.run_bind, run_underlying ht, Result.andThen_ok, hgo, checkKey_int (d := 9999) htk, run_findKey htk q2, k1, Sem.run_pure]
          · have hp : mPut es n (x'.ev e) = es1 ++ (n, x'.ev e) :: es2 := by rw [q6]; exact mPut_mid q8
            have hfst : (mPut es n (x'.ev e)).map (·.1) = es.map (·.1) := by rw [hp, q6]; simp
            have hents : ents[j]? = some en := by simpa using q2
            have hr : All2 (EntR (Lt h.next) f) (mPut es n (x'.ev e)) (ents.modify j fun e => { e with key := .int .i64 n, val := a.eval x }).toList := by
              refine All2.of_get ?_ ?_
              · rw [hp]
                have := g2.length
                rw [q6] at this
                simpa using this
              · intro i p en' hi hi'
                rw [hp] at hi
                have hi2 : (ents.modify j fun e => { e with key := .int .i64 n, val := a.eval x })[i]? = some en' := by rwa [Array.getElem?_toList] at hi'
                rw [Array.getElem?_modify] at hi2
                by_cases hij : j = i
                · subst hij
                  rw [if_pos rfl, hents] at hi2
                  simp at hi2
                  rw [List.getElem?_append_right (by omega), q7] at hi
                  simp at hi
                  subst hi; subst hi2
                  exact ⟨rfl, hgr⟩
                · rw [if_neg hij] at hi2
                  have hes : es[i]? = some p := by
                    rw [q6]
                    rw [← hi]
                    by_cases hlt : i < es1.length
                    · rw [List.getElem?_append_left hlt, List.getElem?_append_left hlt]
                    · rw [List.getElem?_append_right (by omega), List.getElem?_append_right (by omega)]
                      have : i - es1.length ≠ 0 := by omega
                      obtain ⟨c, hc⟩ := Nat.exists_eq_succ_of_ne_zero this
                      rw [hc]; rfl
                  obtain ⟨en2, r1, r2⟩ := g2.get hes
                  have : ents[i]? = some en2 := by simpa using r1
                  rw [hi2] at this; injection this with this; subst this
                  exact r2
            have hbo : BornOK (ents.modify j fun e => { e with key := .int .i64 n, val := a.eval x }).toList clock := by
              have hmap : ((ents.modify j fun e => { e with key := .int .i64 n, val := a.eval x }).toList.map (·.born)) = ents.toList.map (·.born) := by
                apply List.ext_getElem?
                intro i
                simp only [List.getElem?_map]
                have e5 : (ents.modify j fun e => { e with key := .int .i64 n, val := a.eval x }).toList[i]? = (ents.modify j fun e => { e with key := .int .i64 n, val := a.eval x })[i]? := Array.getElem?_toList
                have e6 : ents.toList[i]? = ents[i]? := by simp
                rw [e5, e6, Array.getElem?_modify]
                split
                · cases ents[i]? <;> simp
                · rfl
              refine ⟨by rw [hmap]; exact g4.1, fun y hy => ?_⟩
              have : y.born ∈ ents.toList.map (·.born) := by rw [← hmap]; exact List.mem_map.2 ⟨y, hy, rfl⟩
              obtain ⟨z, hz, hzb⟩ := List.mem_map.1 this
              rw [← hzb]; exact g4.2 z hz
            obtain ⟨k1, k2, k3⟩ := hw.setMap (P := P) hget g1 hr (by rw [hfst]; exact g3) hbo
            refine ⟨.skip, _, f, undef, ?_, .inr ⟨rfl, rfl⟩, TR.undef _ _, k2, k3⟩
            have hkey : (Instr.keyThatStays (((ents[0 + j]?).map (·.key)).getD (.int .i64 n)) (.int .i64 n)).run P w = .ok (.int .i64 n) w := by
              rw [Nat.zero_add, hents]
              simp [Instr.keyThatStays, q3, Instr.sameBits]
            simp only [execOp, ho, w1, w2, Instr.mapUpdate, Sem.run_bind, run_underlying ht, Result.andThen_ok, hgo, checkKey_int (d := 9999) htk, run_findKey htk q5, hkey]
            simp only [Nat.zero_add, k1, Result.andThen_ok, Sem.run_pure]
  · simp at hv

end ops
end Go.Proofs.PantryEng
namespace Go.Proofs.PantryEng
open Go

theorem growBy_le (need : Nat) : ∀ (r c : Nat), c ≤ 3 * need → (c < need → 256 ≤ c) → Builtin.growBy need r c ≤ 3 * need := by
  intro r
  induction r with
  | zero => intro c h _; exact h
  | succ r ih =>
    intro c h1 h2
    simp only [Builtin.growBy]
    split
    · exact h1
    · rename_i hc
      have := h2 (by omega)
      exact ih _ (by omega) (fun _ => by omega)

theorem nextcap_le {need old : Nat} (h : old < need) : Builtin.nextslicecap need old ≤ 3 * need := by
  unfold Builtin.nextslicecap
  split
  · omega
  · split
    · omega
    · exact growBy_le need 4 old (by omega) (fun _ => by omega)

section ops
variable {P : Program} {ms : List String} {N : Nat} {D : Dom} {f : Inj} {h h' : AHeap} {w : World} {e : Env} {a : Act}

theorem loadCells_zero (ad : Addr) : (loadCells ad 0).run P w = .ok #[] w := by simp [loadCells, loadCellsFrom]

theorem sim_firstOf {size n : Nat} {x x' : Value} {cs : List Value} (hw : WR D f h w) (hR : TR D f x x') (hv : firstOf h size n x = some cs) (hlen : ∀ ad l c, x = .slice ad l c → n ≤ l) :
    ∃ cs', (∀ w', w'.heap = w.heap → (Builtin.firstCells size n x').run P w' = .ok ⟨cs'⟩ w') ∧ All2 (CR D f) cs cs' ∧ cs.length = n * size := by
  unfold firstOf at hv
  split at hv
  · rename_i b o l c
    rcases hR.slice_inv with ⟨e1, _⟩ | ⟨b1, o1, o', c', e1, hb, _, ho, rfl⟩
    · simp at e1
    · injection e1 with e1; injection e1 with e2 e3; subst e2; subst e3
      split at hv
      · rename_i hn
        injection hv with hv; subst hv; subst hn
        exact ⟨[], fun _ _ => by simp [Builtin.firstCells, loadCells_zero], .nil, by simp⟩
      · rename_i hn
        have := hlen _ _ _ rfl
        have ho' : o' = ⟨(f b).1, o + (f b).2, none⟩ := by
          rcases ho with ho | ho
          · exact ho
          · omega
        subst ho'
        obtain ⟨cs', k1, k2, k3⟩ := hw.loads' (P := P) hv
        exact ⟨cs', fun w' hw' => by simp [Builtin.firstCells, k3 w' hw'], k1, (hw.cellsAt hv).1⟩
  · rename_i l c
    rcases hR.slice_inv with ⟨_, rfl, _, rfl⟩ | ⟨_, _, _, _, e1, _⟩
    · split at hv
      · rename_i hn
        injection hv with hv; subst hv; subst hn
        exact ⟨[], fun _ _ => by simp [Builtin.firstCells], .nil, by simp⟩
      · simp at hv
    · simp at e1
  · simp at hv

theorem sim_appended_lays {t : TypeId} {size n newCap : Nat} {cs cs' rest : List Value} (h : All2 (CR D f) cs cs') (hlen : cs.length = n * size) (hn : 0 < size) (hc : n ≤ newCap) (hr : newCap * size ≤ cs'.length + rest.length) :
    Lays D f w (.cells cs) (fun b => .slice (some ⟨b, 0, none⟩) n (size + 1)) (.cells ⟨cs' ++ rest⟩ t) (.slice (some ⟨w.heap.size, 0, none⟩) n newCap) := by
  refine ⟨rfl, cs'.length + rest.length, fun D' f' b hl' hb he => ⟨fun w' hw' => ?_, ?_⟩⟩
  · have := objR_row (D := D') (f := f') (cs := cs) hw' (by simp [h.length]) (by
      have : List.take cs.length (cs' ++ rest) = cs' := by rw [h.length]; exact List.take_left
      simp only [this]
      exact h.mono fun _ _ => CR.mono hl')
    simpa using this
  · refine .sr ?_
    exact SR.slice (D := D') (f := f') b 0 ⟨w.heap.size, 0, none⟩ n (size + 1) newCap hb ⟨hc, by omega, fun _ => by rw [he]; simpa using hr⟩ (.inl (by simp [he]))

theorem WR.lay (hw : WR (Lt h.next) f h w) {ob : AObj} {mk : Nat → Value} {O : Obj} {v' : Value} (hl : Lays (Lt h.next) f w ob mk O v') :
    ∃ f', TR (Lt (h.new ob).next) f' (mk h.next) v' ∧ WR (Lt (h.new ob).next) f' (h.new ob) (w.alloc O) ∧ Ext f h w f' (h.new ob) (w.alloc O) := by
  obtain ⟨ho, z, hz⟩ := hl
  obtain ⟨h1, h2⟩ := hz (Lt (h.next + 1)) (upd f h.next ⟨w.heap.size, 0, z⟩) h.next (Le.upd f _) (Nat.lt_succ_self _) (upd_same _ _ _)
  refine ⟨upd f h.next ⟨w.heap.size, 0, z⟩, h2, hw.new (Nat.le_refl _) (by simp) (fun j hj => heap_alloc_old w O j hj) (h1 _ (heap_alloc_new w O)), Ext.new hw.dom (Nat.le_refl _) (by simp) (fun j hj => heap_alloc_old w O j hj) ho rfl rfl rfl⟩

theorem WR.drew (hw : WR D f h w) : WR D f h w.drew := ⟨hw.dom, fun b o hb => ObjR.congr (w := w) rfl (Nat.le_refl _) (hw.obj b o hb), hw.apart⟩
theorem Ext.drew (f : Inj) (h : AHeap) (w : World) : Ext f h w f h w.drew :=
  ⟨Nat.le_refl _, fun _ _ => rfl, Nat.le_refl _, fun _ _ _ => rfl, fun b o hb ho => .inr ⟨b, o, hb, ho, rfl⟩, fun _ _ h _ => h, rfl, rfl, rfl⟩

/-- The run of append, where the room is too small. -/
theorem run_grow {ts tt te : TypeId} {ty : TypeId} {size bytes n sLen sCap : Nat} {base : Option Addr} {x' : Value} {zv : Value} {old new : List Value} (hu : P.underlying ts = some (.slice te)) (hu2 : ∃ e2, P.underlying tt = some (.slice e2)) (hn : sizeT P te = some size) (hb : bytesT P te = some bytes) (hz : zeroT P te = some zv)
    (hl : (Builtin.lenOf x').run P w = .ok n w) (hgt : sCap < sLen + n) (hb0 : 0 < bytes) (hbd : (sLen + n) * bytes ≤ 1099511627776) (hbd2 : sLen + n ≤ 1099511627776)
    (hold : ∀ w', w'.heap = w.heap → (Builtin.firstCells size sLen (.slice base sLen sCap)).run P w' = .ok ⟨old⟩ w') (hnew : ∀ w', w'.heap = w.heap → (Builtin.firstCells size n x').run P w' = .ok ⟨new⟩ w') :
    ∃ newCap rest, sLen + n ≤ newCap ∧ rest = (Builtin.zeroCells zv.cells (newCap - (sLen + n))).toList ∧ (Builtin.append_ #[ts, tt] ty #[.slice base sLen sCap, x']).run P w = .ok (.slice (some ⟨w.heap.size, 0, none⟩) (sLen + n) newCap) (w.drew.alloc (.cells ⟨old ++ new ++ rest⟩ te)) := by
  obtain ⟨e2, hu2⟩ := hu2
  obtain ⟨inf, hi1, hi2⟩ := run_infoT (w := w) hb
  obtain ⟨inf2, hi3, hi4⟩ := run_infoT (w := w.drew) hb
  refine ⟨(Question.appendCap (sLen + n) sCap te).cut (w.tape w.drawn (.appendCap (sLen + n) sCap te)), _, by simp only [Question.cut]; omega, rfl, ?_⟩
  have h1 : ¬ sLen + n ≤ sCap := by omega
  have h2 : ¬ (((sLen + n : Nat) : Int) > IntKind.i64.max ∧ inf.bytes = 0) := by
    rintro ⟨_, h⟩
    omega
  have h3 : ¬ Builtin.nextslicecap (sLen + n) sCap * inf.bytes > 2 ^ 48 := by
    have := nextcap_le (need := sLen + n) (old := sCap) (by omega)
    have h4 : Builtin.nextslicecap (sLen + n) sCap * inf.bytes ≤ 3 * (sLen + n) * bytes := by rw [hi2]; exact Nat.mul_le_mul_right _ this
    have h5 : 3 * (sLen + n) * bytes = 3 * ((sLen + n) * bytes) := Nat.mul_assoc _ _ _
    omega
  have hold' := hold w.drew rfl
  have hnew' := hnew w.drew rfl
  have hz' := run_zeroT (w := w.drew) hz
  simp only [Builtin.append_]
  simp only [List.getElem?_toArray, List.getElem?_cons_zero, List.getElem?_cons_succ, Sem.run_bind, run_underlying hu, Result.andThen_ok, run_sizeT hn, run_underlying hu2, Sem.run_pure, Bool.false_eq_true, if_false, hl, h1, hi1, false_or]
  rw [if_neg h2]
  simp only [Sem.run_bind, hi1, Result.andThen_ok, h3, if_false, run_choose, Question.forced, Bool.false_eq_true, World.drew_eq, hi3, run_askRoom, hold', Bool.not_false, if_true, hnew', hz', run_newRow, Sem.run_pure]
  simp only [World.size_drew, Array.toList_append, List.append_assoc]
  congr 2
  simp


theorem zeroCells_length (z : Array Value) (k : Nat) : (Builtin.zeroCells z k).toList.length = k * z.size := by simp [Builtin.zeroCells]

theorem appendV_inv {size bytes : Nat} {s x v : Value} (hv : appendV h size bytes s x = some (v, h')) :
    ∃ base sLen c xb n xc, s = .slice base sLen c ∧ x = .slice xb n xc ∧ ((n = 0 ∧ v = s ∧ h' = h) ∨
      (n ≠ 0 ∧ (sLen + n) * bytes ≤ 1099511627776 ∧ sLen + n ≤ 1099511627776 ∧ ∃ new, firstOf h size n x = some new ∧
        ((c = 0 ∨ base = none) ∧ sLen = 0 ∧ v = .slice (some ⟨h.next, 0, none⟩) n (size + 1) ∧ h' = h.new (.cells new) ∨
         ∃ b cs, base = some ⟨b, 0, none⟩ ∧ c = size + 1 ∧ h.get b = some (.cells cs) ∧ sLen * size ≤ cs.length ∧ v = .slice (some ⟨h.next, 0, none⟩) (sLen + n) (size + 1) ∧ h' = (h.del b).new (.cells (cs.take (sLen * size) ++ new))))) := by
  unfold appendV at hv
  split at hv
  · rename_i base sLen c xb n xc
    refine ⟨base, sLen, c, xb, n, xc, rfl, rfl, ?_⟩
    split at hv
    · rename_i hn
      simp only [Option.some.injEq, Prod.mk.injEq] at hv
      exact .inl ⟨hn, hv.1.symm, hv.2.symm⟩
    · rename_i hn
      split at hv
      · rename_i hb
        split at hv
        · simp at hv
        · rename_i new hnew
          refine .inr ⟨hn, hb.1, hb.2, new, hnew, ?_⟩
          split at hv
          · split at hv
            · rename_i h0
              simp only [Option.some.injEq, Prod.mk.injEq] at hv
              exact .inl ⟨.inr rfl, h0, hv.1.symm, hv.2.symm⟩
            · simp at hv
          · rename_i b o
            split at hv
            · rename_i hc
              split at hv
              · rename_i h0
                simp only [Option.some.injEq, Prod.mk.injEq] at hv
                exact .inl ⟨.inl hc, h0, hv.1.symm, hv.2.symm⟩
              · simp at hv
            · split at hv
              · rename_i hco
                obtain ⟨hc, rfl⟩ := hco
                split at hv
                · rename_i cs hg
                  split at hv
                  · rename_i hle
                    simp only [Option.some.injEq, Prod.mk.injEq] at hv
                    exact .inr ⟨b, cs, rfl, hc, hg, hle, hv.1.symm, hv.2.symm⟩
                  · simp at hv
                · simp at hv
              · simp at hv
          · simp at hv
      · simp at hv
  · simp at hv

theorem sim_append {ts tt te e2 : TypeId} {ty : TypeId} {size bytes : Nat} {s x s' x' v zv : Value} (hu : P.underlying ts = some (.slice te)) (hu2 : P.underlying tt = some (.slice e2)) (hn : sizeT P te = some size) (hb : bytesT P te = some bytes) (hz : zeroT P te = some zv) (hzs : zv.cells.size = size) (hs0 : 0 < size) (hb0 : 0 < bytes)
    (hw : WR (Lt h.next) f h w) (hR : TR (Lt h.next) f s s') (hRx : TR (Lt h.next) f x x') (hv : appendV h size bytes s x = some (v, h')) :
    ∃ w' f' v', (Builtin.append_ #[ts, tt] ty #[s', x']).run P w = .ok v' w' ∧ TR (Lt h'.next) f' v v' ∧ WR (Lt h'.next) f' h' w' ∧ Ext f h w f' h' w' := by
  obtain ⟨base, sLen, c, xb, n, xc, rfl, rfl, hcase⟩ := appendV_inv hv
  have hlen : (Builtin.lenOf x').run P w = .ok n w := by
    rcases hRx.slice_inv with ⟨_, rfl, _, rfl⟩ | ⟨_, _, _, _, _, _, _, _, rfl⟩ <;> simp [Builtin.lenOf]
  rcases hcase with ⟨rfl, rfl, rfl⟩ | ⟨hn0, hbd, hbd2, new, hnew, hcase⟩
  · -- nothing is appended
    refine ⟨w, f, s', ?_, hR, hw, Ext.refl _ _ _⟩
    have hfc : (Builtin.firstCells size 0 x').run P w = .ok #[] w := by
      rcases hRx.slice_inv with ⟨_, _, _, rfl⟩ | ⟨_, _, _, _, _, _, _, _, rfl⟩ <;> simp [Builtin.firstCells, loadCells_zero]
    rcases hR.slice_inv with ⟨rfl, rfl, rfl, rfl⟩ | ⟨b, o, o', c', rfl, hb', hc', ho, rfl⟩
    · simp [Builtin.append_, run_underlying hu, run_underlying hu2, run_sizeT hn, hlen, hfc]
    · have : sLen ≤ c' := hc'.1
      simp [Builtin.append_, run_underlying hu, run_underlying hu2, run_sizeT hn, hlen, hfc, this, storeCells]
  · obtain ⟨new', k1, k2, k3⟩ := sim_firstOf (P := P) hw hRx hnew (fun ad l c e => by injection e with _ e _; omega)
    have k1' := k1
    have k1 := k1' w rfl
    rcases hcase with ⟨hc, rfl, rfl, rfl⟩ | ⟨b, cs, rfl, rfl, hg, hle, rfl, rfl⟩
    · -- a new block; there was none
      obtain ⟨base', hs'⟩ : ∃ base', s' = .slice base' 0 0 := by
        rcases hR.slice_inv with ⟨_, _, _, rfl⟩ | ⟨b, o, o', c', e1, hb', hc', ho, rfl⟩
        · exact ⟨none, rfl⟩
        · rcases hc with hc | hc
          · have := hc'.2.1 hc; subst this; exact ⟨_, rfl⟩
          · rw [hc] at e1; simp at e1
      subst hs'
      have hold : ∀ w', w'.heap = w.heap → (Builtin.firstCells size 0 (.slice base' 0 0)).run P w' = .ok ⟨[]⟩ w' := by
        intro w' _
        cases base' <;> simp [Builtin.firstCells, loadCells_zero]
      obtain ⟨newCap, rest, g1, g2, g3⟩ := run_grow (ty := ty) (base := base') (sCap := 0) hu ⟨e2, hu2⟩ hn hb hz hlen (by omega) hb0 hbd hbd2 hold k1'
      rw [Nat.zero_add] at g1 g2 g3
      have hrl : newCap * size ≤ new'.length + rest.length := by
        rw [g2, zeroCells_length, hzs, ← k2.length, k3, ← Nat.add_mul]
        exact Nat.mul_le_mul_right _ (by omega)
      have hl := sim_appended_lays (w := w.drew) (t := te) (rest := rest) k2 k3 hs0 g1 hrl
      obtain ⟨f', q1, q2, q3⟩ := hw.drew.lay hl
      exact ⟨_, f', _, by rw [g3]; rfl, q1, q2, (Ext.drew f h w).trans q3⟩
    · rcases hR.slice_inv with ⟨e1, _⟩ | ⟨b', o, o', c', e1, hb', hc', ho, rfl⟩
      · simp at e1
      injection e1 with e1; injection e1 with e3 e4; subst e3; subst e4
      obtain ⟨h0, ⟨arr, tr, ha, hl, hroom⟩, hcl⟩ := hw.obj b _ hg
      have ho' : o' = ⟨(f b).1, 0, none⟩ := by
        rcases ho with ho | ⟨_, ho⟩
        · rw [h0] at ho; exact ho
        · exact absurd rfl ho
      subst ho'
      have hcap : c' * size ≤ arr.size := by
        have := hc'.2.2 (by omega)
        simp only [Nat.add_sub_cancel] at this
        omega
      -- the old cells
      have hold : ∃ old', (∀ w', w'.heap = w.heap → (loadCells ⟨(f b).1, 0, none⟩ (sLen * size)).run P w' = .ok ⟨old'⟩ w') ∧ All2 (CR (Lt h.next) f) (cs.take (sLen * size)) old' ∧ old' = arr.toList.take (sLen * size) := by
        have hca : h.cellsAt b 0 (sLen * size) = some (cs.take (sLen * size)) := by
          have : h.cells? b = some cs := by simp [AHeap.cells?, hg]
          simp only [AHeap.cellsAt, this, Option.bind_some, List.drop_zero, takeN]
          rw [if_pos (by simp; omega)]
        obtain ⟨old', r1, r2, r3⟩ := hw.loads' (P := P) hca
        rw [h0] at r3
        refine ⟨old', by simpa using r3, r1, ?_⟩
        have := run_loadCells_list (P := P) w ⟨(f b).1, 0, none⟩ (arr.toList.take (sLen * size)) (fun j v hj => by
          rw [addr_add, Nat.zero_add, cell?_of ha]
          rw [List.getElem?_take] at hj
          split at hj
          · simpa using hj
          · simp at hj)
        have hlt : (arr.toList.take (sLen * size)).length = sLen * size := by simp; omega
        rw [hlt] at this
        have e5 : (loadCells ⟨(f b).1, 0, none⟩ (sLen * size)).run P w = .ok ⟨old'⟩ w := by simpa using r3 w rfl
        rw [this] at e5
        injection e5 with e5 _
        exact (congrArg Array.toList e5).symm
      obtain ⟨old', r1, r2, r3⟩ := hold
      have hLen2 : (cs.take (sLen * size) ++ new).length = (sLen + n) * size := by
        rw [List.length_append, k3, List.length_take, Nat.min_eq_left hle, Nat.add_mul]
      by_cases hfit : sLen + n ≤ c'
      · -- in its own block
        have hst : sLen * size + new'.length ≤ arr.size := by
          have : (sLen + n) * size ≤ c' * size := Nat.mul_le_mul_right _ hfit
          rw [← k2.length, k3]
          rw [Nat.add_mul] at this
          omega
        have hrun := run_storeCells_at (P := P) (f b).1 (sLen * size) tr new' 0 arr w ha (by simpa using hst) (CR.ones k2)
        obtain ⟨W1, hW1⟩ : ∃ W1, W1 = w.setRow (f b).1 (arr.toList.take (sLen * size + 0) ++ new' ++ arr.toList.drop (sLen * size + 0 + new'.length)).toArray := ⟨_, rfl⟩
        rw [← hW1] at hrun
        refine ⟨W1, upd f h.next ⟨(f b).1, 0, arr.size⟩, .slice (some ⟨(f b).1, 0, none⟩) (sLen + n) c', ?_, ?_, ?_, ?_⟩
        · have hadd : (⟨(f b).1, 0, none⟩ : Addr).add (sLen * size) = ⟨(f b).1, sLen * size, none⟩ := by rw [addr_add]; simp
          simp [Builtin.append_, run_underlying hu, run_underlying hu2, run_sizeT hn, hlen, hfit, k1, hadd, hrun]
        · refine .sr ?_
          have := SR.slice (D := Lt (h.next + 1)) (f := upd f h.next ⟨(f b).1, 0, arr.size⟩) h.next 0 ⟨(f b).1, 0, none⟩ (sLen + n) (size + 1) c' (Nat.lt_succ_self _) ⟨hfit, by omega, fun _ => by rw [upd_same]; simpa using hcap⟩ (.inl (by simp [upd_same]))
          exact this
        · rw [hW1]
          refine hw.reuse hg rfl (by simp) (fun j hj => setRow_other w _ j _ hj) ?_
          have hh := setRow_heap w (f b).1 arr (arr.toList.take (sLen * size + 0) ++ new' ++ arr.toList.drop (sLen * size + 0 + new'.length)).toArray tr (0, 0) ha
          have hsz : (arr.toList.take (sLen * size + 0) ++ new' ++ arr.toList.drop (sLen * size + 0 + new'.length)).length = arr.size := by
            simp; omega
          refine ⟨rfl, ⟨_, tr, hh, ?_, ?_⟩, ?_⟩
          · rw [hLen2, List.size_toArray, hsz]
            have : (sLen + n) * size ≤ c' * size := Nat.mul_le_mul_right _ hfit
            omega
          · show arr.size ≤ _
            exact Nat.le_of_eq (by rw [List.size_toArray]; exact hsz.symm)
          · intro i vv hvv
            rw [Nat.zero_add]
            show ∃ v', (w.setRow (f b).1 _).cell? ⟨(f b).1, i, none⟩ = some v' ∧ _
            rw [cell?_of hh]
            have hall := (r2.append k2).mono (fun _ _ => CR.mono (Le.upd f ⟨(f b).1, 0, arr.size⟩))
            obtain ⟨v', p1, p2⟩ := hall.get hvv
            refine ⟨v', ?_, p2⟩
            have hi : i < (old' ++ new').length := (List.getElem?_eq_some_iff.1 p1).1
            simp only [Nat.add_zero, List.getElem?_toArray]
            rw [← r3, List.getElem?_append_left hi]
            exact p1
        · rw [hW1]
          exact Ext.reuse hw.dom hg rfl rfl (by simp) (fun j hj => setRow_other w _ j _ hj) rfl rfl rfl
      · -- in a new block
        have hold1 : ∀ w', w'.heap = w.heap → (Builtin.firstCells size sLen (.slice (some ⟨(f b).1, 0, none⟩) sLen c')).run P w' = .ok ⟨old'⟩ w' := by simpa [Builtin.firstCells] using r1
        obtain ⟨newCap, rest, g1, g2, g3⟩ := run_grow (ty := ty) (base := some ⟨(f b).1, 0, none⟩) (sCap := c') hu ⟨e2, hu2⟩ hn hb hz hlen (by omega) hb0 hbd hbd2 hold1 k1'
        have hrl : newCap * size ≤ (old' ++ new').length + rest.length := by
          rw [g2, zeroCells_length, hzs, ← (r2.append k2).length, hLen2, ← Nat.add_mul]
          exact Nat.mul_le_mul_right _ (by omega)
        have hl := sim_appended_lays (w := w.drew) (t := te) (rest := rest) (r2.append k2) hLen2 hs0 g1 hrl
        have hw2 : WR (Lt (h.del b).next) f (h.del b) w.drew := hw.drew.del b
        obtain ⟨f', q1, q2, q3⟩ := hw2.lay hl
        exact ⟨_, f', _, by rw [g3]; rfl, q1, q2, ((Ext.drew f h w).trans (Ext.del b)).trans q3⟩


theorem storeS_run {s s' : Value} {vs vs' : List Value} (hw : WR (Lt h.next) f h w) (hR : TR (Lt h.next) f s s') (hvs : All2 (CR (Lt h.next) f) vs vs') (hv : storeS h s vs = some h') (hlen : ∀ ad l c, s = .slice ad l c → l = 0 → vs = []) :
    ∃ w', (∀ ad l c, s' = .slice ad l c → ((match ad with | some a => storeCells a vs' | none => pure ()) : Sem Unit).run P w = .ok () w') ∧ WR (Lt h'.next) f h' w' ∧ Ext f h w f h' w' := by
  unfold storeS at hv
  split at hv
  · rename_i h0
    subst h0
    cases hvs
    injection hv with hv; subst hv
    exact ⟨w, fun ad l c _ => by cases ad <;> simp [storeCells], hw, Ext.refl _ _ _⟩
  · rename_i h0
    split at hv
    · rename_i b o l c
      rcases hR.slice_inv with ⟨e1, _⟩ | ⟨b', o1, o', c', e1, hb', hc', ho, rfl⟩
      · simp at e1
      · injection e1 with e1; injection e1 with e3 e4; subst e3; subst e4
        have ho' : o' = ⟨(f b).1, o + (f b).2, none⟩ := by
          rcases ho with ho | ⟨ho, _⟩
          · exact ho
          · exact absurd (hlen _ _ _ rfl ho) h0
        subst ho'
        obtain ⟨w', k1, k2, k3, k4⟩ := hw.storeRun (P := P) hv hvs
        refine ⟨w', fun ad l c e => ?_, by rw [k4]; exact k2, k3⟩
        injection e with e _ _
        subst e
        exact k1
    · simp at hv

theorem get1_ife {c : Prop} [Decidable c] {x : AOp} {q : EOp} (h : (if c then x else .p .bad) = .e q) : c ∧ x = .e q := by
  split at h
  · exact ⟨by assumption, h⟩
  · simp at h

theorem Writes.of_value {s : Sem Value} {nx : Sem Next} {v v' : Value} {w' : World} {f' : Inj} (hs : nx = (do pure (.value (← s)))) (hr : s.run P w = .ok v' w') (h1 : TR (Lt h'.next) f' v v') (h2 : WR (Lt h'.next) f' h' w') (h3 : Ext f h w f' h' w') : Writes P f h w nx v h' :=
  ⟨.value v', w', f', v', by rw [hs]; simp [hr], .inl rfl, h1, h2, h3⟩

theorem sim_builtinE {b : Builtin} {args : Array Operand} {ts : Array TypeId} {dst : Option Tmp} {ty : TypeId} {pos : String} {after : Array Edge} {guard : Option (Nat × Bool)} {l : List Opd} {q : EOp} {tbl : List (List (TypeId × FuncId))} {call : CallF} {v : Value}
    (hl : cOpds N args.toList = some l) (hq : cBuiltin P b ts.toList l = .e q) (he : EnvR (Lt h.next) f N e a) (hw : WR (Lt h.next) f h w) (hv : evE tbl call e h q = some (v, h')) :
    Writes P f h w (execOp a.eval { dst, op := .call { callee := .builtin b, args, argTypes := ts }, type := ty, pos, after, guard }) v h' := by
  obtain ⟨consts, hx⟩ := run_call_builtin (a := a) (b := b) (args := args) (ts := ts) (dst := dst) (ty := ty) (pos := pos) (after := after) (guard := guard)
  rw [hx]
  have hR := cOpds_R he hl
  generalize args.toList.map a.eval = vs at hR
  unfold cBuiltin at hq
  split at hq
  · simp at hq
  · simp at hq
  · simp at hq
  · -- append
    rename_i t1 t2 x y ets
    have ets' : ts = #[t1, t2] := by apply Array.toList_inj.1; simpa using ets
    subst ets'
    cases hR with | @cons _ x' _ _ hx1 hx2 => cases hx2 with | @cons _ y' _ _ hy1 hy2 => cases hy2 with | nil =>
    have hx1 : TR (Lt h.next) f (x.ev e) x' := hx1
    have hy1 : TR (Lt h.next) f (y.ev e) y' := hy1
    split at hq
    · rename_i te e2 hu hu2
      split at hq
      · rename_i n bb z hn hb hz
        obtain ⟨hc, hq⟩ := get1_ife hq
        injection hq with hq; subst hq
        simp only [Bool.and_eq_true, decide_eq_true_eq, beq_iff_eq] at hc
        simp only [evE] at hv
        obtain ⟨w', f', v', k1, k2, k3, k4⟩ := sim_append (P := P) (ty := ty) hu hu2 hn hb hz hc.2 hc.1.1 hc.1.2 hw hx1 hy1 hv
        exact Writes.of_value rfl k1 k2 k3 k4
      · simp at hq
    · simp at hq
  · -- copy
    rename_i t1 t2 x y ets
    have ets' : ts = #[t1, t2] := by apply Array.toList_inj.1; simpa using ets
    subst ets'
    cases hR with | @cons _ x' _ _ hx1 hx2 => cases hx2 with | @cons _ y' _ _ hy1 hy2 => cases hy2 with | nil =>
    have hx1 : TR (Lt h.next) f (x.ev e) x' := hx1
    have hy1 : TR (Lt h.next) f (y.ev e) y' := hy1
    split at hq
    · rename_i te hu
      split at hq
      · rename_i n hn
        injection hq with hq; subst hq
        simp only [evE] at hv
        split at hv
        · rename_i ad dLen dc ad2 sLen sc e1 e2
          rw [e1] at hx1; rw [e2] at hy1
          split at hv
          · rename_i cs hfc
            cases hst : storeS h (x.ev e) cs with
            | none => rw [hst] at hv; simp at hv
            | some h2 =>
              rw [hst] at hv
              simp only [Option.map_some, Option.some.injEq, Prod.mk.injEq] at hv
              obtain ⟨rfl, rfl⟩ := hv
              rw [e2] at hfc
              obtain ⟨cs', k1, k2, k3⟩ := sim_firstOf (P := P) hw hy1 hfc (fun ad l c e => by injection e with _ e _; omega)
              rw [e1] at hst
              have hz : ∀ ad2 l c, (Value.slice ad dLen dc : Value) = .slice ad2 l c → l = 0 → cs = [] := by
                intro ad2 l c e hl0
                injection e with _ e _
                subst e; subst hl0
                have : cs.length = 0 := by rw [k3]; simp
                simpa using this
              obtain ⟨w', r1, r2, r3⟩ := storeS_run (P := P) hw hx1 k2 hst hz
              have hxs : ∃ ad' c', x' = .slice ad' dLen c' := by rcases hx1.slice_inv with ⟨_, rfl, _, rfl⟩ | ⟨_, _, _, _, _, _, _, _, rfl⟩ <;> exact ⟨_, _, rfl⟩
              have hys : (Builtin.lenOf y').run P w = .ok sLen w := by rcases hy1.slice_inv with ⟨_, rfl, _, rfl⟩ | ⟨_, _, _, _, _, _, _, _, rfl⟩ <;> simp [Builtin.lenOf]
              obtain ⟨ad', c', rfl⟩ := hxs
              have r1' := r1 _ _ _ rfl
              refine Writes.of_value rfl (v' := .int .i64 (min (sLen : Int) dLen)) ?_ (.sr (.int _ _)) r2 r3
              have k1' := k1 w rfl
              have hmin : Nat.min sLen dLen = min sLen dLen := rfl
              have hmin2 : ((min sLen dLen : Nat) : Int) = min (sLen : Int) dLen := by omega
              cases ad' with
              | none =>
                simp only [Sem.run_pure] at r1'
                injection r1' with _ r1'
                subst r1'
                simp [Builtin.copy_, run_underlying hu, hys, run_sizeT hn, k1', hmin, goInt, hmin2]
              | some ad1 =>
                simp only at r1'
                simp [Builtin.copy_, run_underlying hu, hys, run_sizeT hn, k1', hmin, r1', goInt, hmin2]
          · simp at hv
        · simp at hv
      · simp at hq
    · simp at hq
  · -- delete
    rename_i t1 t2 x y ets
    have ets' : ts = #[t1, t2] := by apply Array.toList_inj.1; simpa using ets
    subst ets'
    cases hR with | @cons _ x' _ _ hx1 hx2 => cases hx2 with | @cons _ y' _ _ hy1 hy2 => cases hy2 with | nil =>
    have hx1 : TR (Lt h.next) f (x.ev e) x' := hx1
    have hy1 : TR (Lt h.next) f (y.ev e) y' := hy1
    split at hq
    · rename_i tk te hu
      split at hq
      · rename_i hk
        injection hq with hq; subst hq
        simp only [evE] at hv
        split at hv
        · rename_i k e1 e2
          simp only [Option.some.injEq, Prod.mk.injEq] at hv
          obtain ⟨rfl, rfl⟩ := hv
          rw [e1] at hx1; rw [e2] at hy1
          obtain rfl := hy1.int_inv
          rcases hx1.map_inv with ⟨_, rfl⟩ | ⟨_, e3, _⟩
          · exact Writes.of_value rfl (v' := .tuple #[]) (w' := w) (by simp [Builtin.delete_, run_underlying hu, checkKey_int (d := 9999) hk]) (TR.undef _ _) hw (Ext.refl _ _ _)
          · simp at e3
        · rename_i r k e1 e2
          rw [e1] at hx1; rw [e2] at hy1
          obtain rfl := hy1.int_inv
          cases hm : h.map? r with
          | none => rw [hm] at hv; simp at hv
          | some es =>
            rw [hm] at hv
            simp only [Option.map_some, Option.some.injEq, Prod.mk.injEq] at hv
            obtain ⟨rfl, rfl⟩ := hv
            rcases hx1.map_inv with ⟨e3, _⟩ | ⟨b', e3, hb, rfl⟩
            · simp at e3
            · injection e3 with e3; subst e3
              obtain ⟨ents, clock, g1, g2, g3, g4⟩ := hw.map? hm
              have hgo : (getObj (f r).1).run P w = .ok (.map ents clock) w := by simp [getObj, Sem.run, g1]
              have hget := map?_get hm
              rcases findNow_R (kd := .i64) (x := k) 0 g2 with ⟨q1, q2⟩ | ⟨u, j, en, q1, q2, q3, q4, q5, es1, u1, es2, q6, q7, q8⟩
              · rw [mDel_none q1]
                obtain ⟨k1, k2, k3⟩ := hw.setMap (P := P) hget g1 g2 g3 g4
                exact Writes.of_value rfl (v' := .tuple #[]) (by simp [Builtin.delete_, run_underlying hu, hgo, checkKey_int (d := 9999) hk, run_findKey hk q2, k1]) (TR.undef _ _) k2 k3
              · have hd : mDel es k = es1 ++ es2 := by rw [q6]; exact mDel_mid q8
                have hd2 : es.eraseIdx j = es1 ++ es2 := by
                  rw [q6, List.eraseIdx_append_of_length_le (by omega)]
                  have : j - es1.length = 0 := by omega
                  rw [this]; rfl
                have hjlt : j < ents.size := by
                  have := (List.getElem?_eq_some_iff.1 q2).1
                  simpa using this
                have he2 : (ents.eraseIdxIfInBounds j).toList = ents.toList.eraseIdx j := by
                  simp [Array.eraseIdxIfInBounds, hjlt]
                have hr : All2 (EntR (Lt h.next) f) (mDel es k) (ents.eraseIdxIfInBounds j).toList := by
                  rw [he2, hd, ← hd2]; exact g2.eraseIdx j
                have hsub : (es1 ++ es2).Sublist es := by rw [← hd2]; exact List.eraseIdx_sublist _ _
                have hnd : ((mDel es k).map (·.1)).Nodup := by rw [hd]; exact g3.sublist (hsub.map _)
                have hbo : BornOK (ents.eraseIdxIfInBounds j).toList clock := by
                  rw [he2]
                  have hs := List.eraseIdx_sublist ents.toList j
                  exact ⟨g4.1.sublist (hs.map _), fun y hy => g4.2 y (hs.subset hy)⟩
                obtain ⟨k1, k2, k3⟩ := hw.setMap (P := P) hget g1 hr hnd hbo
                rw [Nat.zero_add] at q5
                exact Writes.of_value rfl (v' := .tuple #[]) (by simp [Builtin.delete_, run_underlying hu, hgo, checkKey_int (d := 9999) hk, run_findKey hk q5, k1]) (TR.undef _ _) k2 k3
        · simp at hv
      · simp at hq
    · simp at hq
  · -- clear
    rename_i t1 x ets
    have ets' : ts = #[t1] := by apply Array.toList_inj.1; simpa using ets
    subst ets'
    cases hR with | @cons _ x' _ _ hx1 hx2 => cases hx2 with | nil =>
    have hx1 : TR (Lt h.next) f (x.ev e) x' := hx1
    split at hq
    · rename_i te hu
      split at hq
      · rename_i z hz
        injection hq with hq; subst hq
        obtain ⟨zv, h1, h2, h3⟩ := litCells_of hz
        simp only [evE] at hv
        split at hv
        · rename_i ad n c e1
          rw [e1] at hx1 hv
          cases hst : storeS h (.slice ad n c) (zeroMany z n) with
          | none => rw [hst] at hv; simp at hv
          | some h2' =>
            rw [hst] at hv
            simp only [Option.map_some, Option.some.injEq, Prod.mk.injEq] at hv
            obtain ⟨rfl, rfl⟩ := hv
            obtain ⟨w', r1, r2, r3⟩ := storeS_run (P := P) hw hx1 (zeroMany_R h3 n) hst (fun ad' l c e hl0 => by injection e with e3 e4 e5; subst e4; subst hl0; rfl)
            have hzc : (Builtin.zeroCells zv.cells n).toList = zeroMany z n := by
              rw [h2]
              by_cases hz0 : z.length = 0
              · have : z = [] := by simpa using hz0
                subst this
                have : ∀ n, zeroMany [] n = [] := fun n => by
                  induction n with
                  | zero => rfl
                  | succ n ih => simp [zeroMany, ih]
                rw [this]
                simp [Builtin.zeroCells]
              · have := zeroMany_eq (z := z) rfl (by omega) n
                exact congrArg Array.toList this
            refine Writes.of_value rfl (v' := .tuple #[]) ?_ (TR.undef _ _) r2 r3
            have hxs : ∃ ad' c', x' = .slice ad' n c' := by rcases hx1.slice_inv with ⟨_, rfl, _, rfl⟩ | ⟨_, _, _, _, _, _, _, _, rfl⟩ <;> exact ⟨_, _, rfl⟩
            obtain ⟨ad', c', rfl⟩ := hxs
            have r1' := r1 _ _ _ rfl
            cases ad' with
            | none =>
              simp only [Sem.run_pure] at r1'
              injection r1' with _ r1'
              subst r1'
              simp [Builtin.clear_, run_underlying hu]
            | some ad1 =>
              simp only at r1'
              cases n with
              | zero =>
                simp only [zeroMany, storeCells, Sem.run_pure] at r1'
                injection r1' with _ r1'
                subst r1'
                simp [Builtin.clear_, run_underlying hu]
              | succ n => simp [Builtin.clear_, run_underlying hu, run_zeroT h1, hzc, r1']
        · simp at hv
      · simp at hq
    · simp at hq
  · simp at hq


/-- AN OPERATION THAT WRITES, but for calls. -/
theorem simE {o : Oper} {q : EOp} {tbl : List (List (TypeId × FuncId))} {call : CallF} {v : Value} (hq : cOp P ms N o.op = .e q) (hnc : ∀ c as, q ≠ .call c as) (he : EnvR (Lt h.next) f N e a) (hw : WR (Lt h.next) f h w) (hv : evE tbl call e h q = some (v, h')) :
    Writes P f h w (execOp a.eval o) v h' := by
  obtain ⟨dst, op, ty, pos, after, guard⟩ := o
  simp only at hq
  cases op with
  | store t x y =>
    obtain ⟨x', hx, hq⟩ := get1_e hq
    obtain ⟨y', hy, hq⟩ := get1_e hq
    obtain ⟨n, hn, hq⟩ := get1_e hq
    injection hq with hq; subst hq
    exact sim_store rfl hx hy hn he hw hv
  | mapUpdate t m k x =>
    simp only [cOp] at hq
    split at hq
    · rename_i tk te hu
      split at hq
      · rename_i hk
        obtain ⟨m', hm, hq⟩ := get1_e hq
        obtain ⟨k', hk', hq⟩ := get1_e hq
        obtain ⟨x', hx, hq⟩ := get1_e hq
        injection hq with hq; subst hq
        exact sim_mapUpdate rfl hm hk' hx hu hk he hw hv
      · simp at hq
    · simp at hq
  | call c =>
    obtain ⟨callee, args, ts⟩ := c
    cases callee with
    | value g =>
      obtain ⟨_, _, hq⟩ := get1_e hq; obtain ⟨_, _, hq⟩ := get1_e hq
      injection hq with hq; exact absurd hq.symm (hnc _ _)
    | invoke g m =>
      obtain ⟨_, _, hq⟩ := get1_e hq; obtain ⟨_, _, hq⟩ := get1_e hq
      split at hq
      · injection hq with hq; exact absurd hq.symm (hnc _ _)
      · simp at hq
    | builtin b =>
      obtain ⟨l, hl, hq⟩ := get1_e hq
      exact sim_builtinE hl hq he hw hv
  | alloc t => obtain ⟨_, _, hq⟩ := get1_e hq; simp at hq
  | box t x => obtain ⟨_, _, hq⟩ := get1_e hq; simp at hq
  | buildSlice t len parts =>
    simp only [cOp] at hq
    split at hq
    · obtain ⟨_, _, hq⟩ := get1_e hq
      obtain ⟨_, _, hq⟩ := get1_e hq
      obtain ⟨_, hq⟩ := get1_ife hq
      obtain ⟨_, _, hq⟩ := get1_e hq
      simp at hq
    · simp at hq
  | makeMap t r => cases r <;> simp [cOp] at hq
  | makeSlice t l c =>
    simp only [cOp] at hq
    split at hq
    · obtain ⟨_, _, hq⟩ := get1_e hq
      obtain ⟨_, _, hq⟩ := get1_e hq
      obtain ⟨_, _, hq⟩ := get1_e hq
      obtain ⟨_, _, hq⟩ := get1_e hq
      obtain ⟨_, _, hq⟩ := get1_e hq
      obtain ⟨_, hq⟩ := get1_ife hq
      simp at hq
    · simp at hq
  | move x => obtain ⟨_, _, hq⟩ := get1_e hq; simp at hq
  | assign x => obtain ⟨_, _, hq⟩ := get1_e hq; simp at hq
  | pick c x y =>
    obtain ⟨_, _, hq⟩ := get1_e hq
    obtain ⟨_, _, hq⟩ := get1_e hq
    obtain ⟨_, _, hq⟩ := get1_e hq
    simp at hq
  | build t parts =>
    obtain ⟨_, _, hq⟩ := get1_e hq
    split at hq
    · obtain ⟨_, _, hq⟩ := get1_e hq; obtain ⟨_, _, hq⟩ := get1_e hq; simp at hq
    · obtain ⟨_, _, hq⟩ := get1_e hq; obtain ⟨_, _, hq⟩ := get1_e hq; simp at hq
    · simp at hq
  | load t x => obtain ⟨_, _, hq⟩ := get1_e hq; obtain ⟨_, _, hq⟩ := get1_e hq; obtain ⟨_, _, hq⟩ := get1_e hq; simp at hq
  | nilCheck x => obtain ⟨_, _, hq⟩ := get1_e hq; simp at hq
  | binOp op t x y yt => obtain ⟨_, _, hq⟩ := get1_e hq; obtain ⟨_, _, hq⟩ := get1_e hq; simp at hq
  | unOp op t x => cases op <;> first | (simp [cOp] at hq; done) | (obtain ⟨_, _, hq⟩ := get1_e hq; simp at hq)
  | convert s d x => obtain ⟨_, _, hq⟩ := get1_e hq; simp at hq
  | makeInterface t x => obtain ⟨_, _, hq⟩ := get1_e hq; split at hq <;> simp at hq
  | makeFunc fn x y => cases fn <;> first | (simp [cOp] at hq; done) | (obtain ⟨_, _, hq⟩ := get1_e hq; obtain ⟨_, _, hq⟩ := get1_e hq; simp at hq)
  | slice t x lo hi mx =>
    obtain ⟨_, _, hq⟩ := get1_e hq; obtain ⟨_, _, hq⟩ := get1_e hq; obtain ⟨_, _, hq⟩ := get1_e hq; obtain ⟨_, _, hq⟩ := get1_e hq
    split at hq
    · obtain ⟨_, _, hq⟩ := get1_e hq; split at hq <;> simp at hq
    · simp at hq
    · simp at hq
  | fieldAddr t x i =>
    simp only [cOp] at hq
    split at hq
    · obtain ⟨_, _, hq⟩ := get1_e hq; obtain ⟨_, _, hq⟩ := get1_e hq; split at hq <;> simp at hq
    · simp at hq
  | field t x i =>
    simp only [cOp] at hq
    split at hq
    · obtain ⟨_, _, hq⟩ := get1_e hq; obtain ⟨_, _, hq⟩ := get1_e hq; obtain ⟨_, _, hq⟩ := get1_e hq; obtain ⟨_, _, hq⟩ := get1_e hq; simp at hq
    · simp at hq
  | indexAddr t x i =>
    obtain ⟨_, _, hq⟩ := get1_e hq; obtain ⟨_, _, hq⟩ := get1_e hq
    split at hq
    · obtain ⟨_, _, hq⟩ := get1_e hq; simp at hq
    · obtain ⟨_, _, hq⟩ := get1_e hq; simp at hq
    · simp at hq
  | index t x i =>
    obtain ⟨_, _, hq⟩ := get1_e hq; obtain ⟨_, _, hq⟩ := get1_e hq
    split at hq
    · obtain ⟨_, _, hq⟩ := get1_e hq; obtain ⟨_, _, hq⟩ := get1_e hq; simp at hq
    · simp at hq
    · simp at hq
  | lookup t m k ok =>
    simp only [cOp] at hq
    split at hq
    · split at hq
      · obtain ⟨_, _, hq⟩ := get1_e hq; obtain ⟨_, _, hq⟩ := get1_e hq; obtain ⟨_, _, hq⟩ := get1_e hq; split at hq <;> simp at hq
      · simp at hq
    · simp at hq
  | extract x i => obtain ⟨_, _, hq⟩ := get1_e hq; simp at hq
  | _ => simp [cOp] at hq

end ops
end Go.Proofs.PantryEng

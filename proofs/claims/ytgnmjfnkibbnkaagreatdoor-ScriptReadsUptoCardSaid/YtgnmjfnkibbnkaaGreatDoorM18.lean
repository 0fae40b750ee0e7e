/- What is said outright of errors.Is and api.Number is so. -/
import Derived.Test.YtgnmjfnkibbnkaaGreatDoorM17
import Derived.Test.YtgnmjfnkibbnkaaGreatDoorM6
import Derived.Test.YtgnmjfnkibbnkaaGreatDoorM7
set_option linter.unusedSimpArgs false
set_option linter.unusedVariables false
namespace Go.Proofs.PantryEng
open Go Go.RowKit

/-- A step that lays blocks that nobody asks for. -/
theorem WR.grow {D : Dom} {f : Inj} {h : AHeap} {w w' : World} (hw : WR D f h w) (hb : Below w.heap.size w w') : WR D f h w' :=
  ⟨hw.dom, fun b o hbo => ObjR.congr (hb.block _ (hw.obj b o hbo).lt) hb.size (hw.obj b o hbo), hw.apart⟩
theorem Ext.grow {f : Inj} {h : AHeap} {w w' : World} (hb : Below w.heap.size w w') : Ext f h w f h w' :=
  ⟨Nat.le_refl _, fun _ _ => rfl, hb.size, fun c hc _ => hb.block c hc, fun b o h1 h2 => .inr ⟨b, o, h1, h2, rfl⟩, fun _ _ h _ => h, hb.os, hb.tape, hb.output⟩

/-- An answer that leaves the heap. -/
theorem RetR.same {f : Inj} {h : AHeap} {w w' : World} {r r' : Value} {e : Ending} (hw : WR (Lt h.next) f h w) (he : e = .returned r') (hr : TR (Lt h.next) f r r') (hb : Below w.heap.size w w') : RetR f h w r h e w' :=
  ⟨f, r', he, hr, hw.grow hb, Ext.grow hb⟩

theorem tok_cell {D : Dom} {f : Inj} {h : AHeap} {w : World} (hw : WR D f h w) {tR tErr : Nat} (hlt : tErr < 65536) (ht : tokOK tR tErr h = true) : w.cell? ⟨0, 0, none⟩ = some (.iface tR (.agg #[.pointer (some ⟨1, tErr, none⟩)])) := by
  unfold tokOK at ht
  split at ht
  · rename_i k a b hg
    simp only [Bool.and_eq_true] at ht
    replace ht : a = tR ∧ b = 65536 + tErr := ⟨Nat.eq_of_beq_eq_true ht.1, Nat.eq_of_beq_eq_true ht.2⟩
    obtain ⟨h1, h2, h3⟩ := hw.obj 0 _ hg
    obtain ⟨e1, e2⟩ := h3 rfl
    obtain ⟨v', hc, hr⟩ := h2 0 _ rfl
    rw [e1, e2] at hc
    cases hr with
    | s h => cases h
    | tok k n m =>
      rw [ht.1, ht.2] at hc
      have : (65536 + tErr) / 65536 = 1 := by omega
      rw [this] at hc
      have : (65536 + tErr) % 65536 = tErr := by omega
      rw [this] at hc
      exact hc
  · simp at ht

/-- An error that holds a number, in the world. -/
theorem num_cases {D : Dom} {f : Inj} {h : AHeap} {w : World} (hw : WR D f h w) {tE tF : Nat} {x x' : Value} {m : Int} (hx : TR D f x x') (hn : numOf tE tF h x = some m) :
    (x = .nilIface ∧ x' = .nilIface ∧ m = 0) ∨ (x ≠ .nilIface ∧ x' = .iface tE (.int .i64 m)) ∨ (x ≠ .nilIface ∧ ∃ a, x' = .iface tF (.pointer (some a)) ∧ w.cell? a = some (.int .i64 m)) := by
  unfold numOf at hn
  split at hn
  · injection hn with hn
    exact .inl ⟨rfl, hx.nilIface_inv, hn.symm⟩
  · rename_i t n
    split at hn
    · rename_i ht
      injection hn with hn
      subst hn; subst ht
      obtain ⟨u, h1, h2⟩ := hx.iface_inv
      cases h1
      exact .inr (.inl ⟨by simp, h2⟩)
    · simp at hn
  · rename_i t b o
    split at hn
    · rename_i ht
      subst ht
      split at hn
      · rename_i n hc
        injection hn with hn
        subst hn
        obtain ⟨u, h1, h2⟩ := hx.iface_inv
        obtain ⟨v', k1, k2⟩ := hw.load1 hc
        cases h1 with
        | ptr _ _ o' hb ho =>
          refine .inr (.inr ⟨by simp, _, h2, ?_⟩)
          rw [ho, k2]
          rw [(TR.g (.c k1)).int_inv]
      · simp at hn
    · simp at hn
  · simp at hn

end Go.Proofs.PantryEng
namespace Go.Proofs.YtgnmjfnkibbnkaaGreatDoor
open Go Go.RowKit Go.Proofs.PantryEng

theorem enters {F : FuncId} {fn : Func} (h : Tryz.prog.funcs[F]? = some fn) (h1 : (fn.name == "runtime.NumGoroutine") = false) (h2 : fn.body.isNone = false) : ∀ args w, (callFunc F args).run Tryz.prog w = .ok (.enter F args) w := by
  intro args w
  have h3 : ¬ fn.name = "runtime.NumGoroutine" := by simpa using h1
  have h4 : fn.body.isNone ≠ true := by rw [h2]; simp
  simp [callFunc, h, h3]
  cases hb : fn.body with
  | none => rw [hb] at h2; simp at h2
  | some b => simp

theorem primIs_ok : PrimOK Tryz.prog 94 (primIs 30 279) := by
  intro args h r h' hp
  refine ⟨enters Tryz.func94 (by kernel_rfl) (by kernel_rfl), fun f w args' hw ha => ?_⟩
  unfold primIs at hp
  split at hp
  · rename_i x t n
    split at hp
    · rename_i ht
      subst ht
      cases ha with
      | @cons _ x' _ l hx ha =>
      cases ha with
      | @cons _ y' _ l hy ha =>
      cases ha
      obtain ⟨u, k1, k2⟩ := hy.iface_inv
      cases k1
      subst k2
      have key : ∀ m, numOf 30 279 h x = some m → x ≠ .nilIface → Calls Tryz.prog 94 #[x', .iface 30 (.int .i64 n)] w fun e w' => e = .returned (.bool (m == n)) ∧ w' = w := by
        intro m hm hnil
        rcases num_cases hw hx hm with ⟨e1, _⟩ | ⟨_, e2⟩ | ⟨_, a, e2, e3⟩
        · exact absurd e1 hnil
        · rw [e2]; exact is_errno m n w
        · rw [e2]; exact is_fault a m n w e3
      split at hp
      · simp only [Option.some.injEq, Prod.mk.injEq] at hp
        obtain ⟨rfl, rfl⟩ := hp
        have e := hx.nilIface_inv
        subst e
        refine (is_nil n w).mono fun e w' he => ?_
        obtain ⟨rfl, rfl⟩ := he
        exact RetR.same hw rfl (.sr (.bool _)) (Below.refl _ _)
      · rename_i hnil
        cases hm : numOf 30 279 h x with
        | none => rw [hm] at hp; simp at hp
        | some m =>
          rw [hm] at hp
          simp only [Option.map_some, Option.some.injEq, Prod.mk.injEq] at hp
          obtain ⟨rfl, rfl⟩ := hp
          refine (key m hm (fun e => hnil e)).mono fun e w' he => ?_
          obtain ⟨rfl, rfl⟩ := he
          exact RetR.same hw rfl (.sr (.bool _)) (Below.refl _ _)
    · simp at hp
  · simp at hp

theorem primNum_ok : PrimOK Tryz.prog 123 (primNum 30 279 270 212) := by
  intro args h r h' hp
  refine ⟨enters Tryz.func123 (by kernel_rfl) (by kernel_rfl), fun f w args' hw ha => ?_⟩
  unfold primNum at hp
  split at hp
  · rename_i x
    split at hp
    · rename_i htok
      have hg := tok_cell hw (by decide) htok
      cases ha with
      | @cons _ x' _ l hx ha =>
      cases ha
      cases hm : numOf 30 279 h x with
      | none => rw [hm] at hp; simp at hp
      | some m =>
        rw [hm] at hp
        simp only [Option.map_some, Option.some.injEq, Prod.mk.injEq] at hp
        obtain ⟨rfl, rfl⟩ := hp
        rcases num_cases hw hx hm with ⟨_, e1, e2⟩ | ⟨_, e2⟩ | ⟨_, a, e2, e3⟩
        · subst e1; subst e2
          refine (number_nil w).mono fun e w' he => ?_
          obtain ⟨rfl, rfl⟩ := he
          exact RetR.same hw rfl (.sr (.int _ _)) ((Below.refl _ w).alloc (Nat.le_refl _) _)
        · rw [e2]
          refine (number_errno m w hg).mono fun e w' he => ?_
          obtain ⟨rfl, hb⟩ := he
          exact RetR.same hw rfl (.sr (.int _ _)) hb
        · rw [e2]
          refine (number_fault a m w e3 hg).mono fun e w' he => ?_
          obtain ⟨rfl, hb⟩ := he
          exact RetR.same hw rfl (.sr (.int _ _)) hb
    · simp at hp
  · simp at hp
end Go.Proofs.YtgnmjfnkibbnkaaGreatDoor

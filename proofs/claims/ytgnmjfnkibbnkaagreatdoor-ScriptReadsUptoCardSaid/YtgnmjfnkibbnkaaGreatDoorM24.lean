/- ScriptBack, ahead of its row. -/
import Derived.Test.YtgnmjfnkibbnkaaGreatDoorM23
set_option linter.unusedSimpArgs false
set_option linter.unusedVariables false
namespace Go.Proofs.PantryEng
open Go
theorem badI_false {its : List WItem} : badI its = false ↔ ∀ x ∈ its, 0 ≤ x.2 ∧ x.2 ≤ x.1 := by
  simp only [badI, List.any_eq_false, badB, Bool.or_eq_true, decide_eq_true_eq, not_or, Int.not_lt]
theorem lowB_id {z : Int} (h0 : 0 ≤ z) (h1 : z ≤ 255) : lowB z = z := by unfold lowB; omega
theorem lowB_map {zs : List Int} (h : ∀ z ∈ zs, 0 ≤ z ∧ z ≤ 255) : zs.map lowB = zs := by
  induction zs with
  | nil => rfl
  | cons z zs ih => rw [List.map_cons, ih fun z hz => h z (by simp [hz]), lowB_id (h z (by simp)).1 (h z (by simp)).2]
theorem readN_app : ∀ {cs rest : List Int} {n : Nat}, cs.length = n → readN n (cs ++ rest) = (cs, rest) := by
  intro cs
  induction cs with
  | nil => intro rest n h; subst h; rfl
  | cons c cs ih => intro rest n h; subst h; simp only [List.length_cons, readN, List.cons_append, hd0, List.tail_cons, ih rfl]
theorem ops_app : ∀ {n : Nat} {p rest : List Int}, p.length = n * 4 → (∀ x ∈ itemsOps p, 0 ≤ x.2 ∧ x.2 ≤ x.1) → readOps n (bytesI (itemsOps p) ++ rest) = (p, rest) := by
  intro n
  induction n with
  | zero => intro p rest h _; have := List.length_eq_zero_iff.1 (show p.length = 0 by omega); subst this; rfl
  | succ n ih =>
    intro p rest h hb
    match p, h with
    | [], h => simp only [List.length_nil] at h; omega
    | [_], h => simp only [List.length_cons, List.length_nil] at h; omega
    | [_, _], h => simp only [List.length_cons, List.length_nil] at h; omega
    | [_, _, _], h => simp only [List.length_cons, List.length_nil] at h; omega
    | a :: b :: c :: d :: p, h =>
      have e := ih (p := p) (rest := rest) (by simp only [List.length_cons] at h; omega) fun x hx => hb x (by simp [itemsOps, hx])
      have ha := hb (4, a) (by simp [itemsOps])
      have hb' := hb (255, b) (by simp [itemsOps])
      have hc := hb (255, c) (by simp [itemsOps])
      have hd := hb (255, d) (by simp [itemsOps])
      simp only at ha hb' hc hd
      simp only [itemsOps, bytesI, List.map_cons, List.cons_append, readOps, readN, hd0, List.tail_cons, lowB_id ha.1 (by omega), lowB_id hb'.1 hb'.2, lowB_id hc.1 hc.2, lowB_id hd.1 hd.2] at e ⊢
      rw [e]
      simp
      omega
def rowOK (p : List Int) : Prop := ∃ n, p.length = n * 4
theorem progs_app : ∀ {ps : List (List Int)} {rest : List Int}, (∀ p ∈ ps, rowOK p) → (∀ x ∈ ps.flatMap itemsP, 0 ≤ x.2 ∧ x.2 ≤ x.1) → readProgs ps.length (bytesI (ps.flatMap itemsP) ++ rest) = (ps, rest) := by
  intro ps
  induction ps with
  | nil => intro rest _ _; rfl
  | cons p ps ih =>
    intro rest h4 hb
    obtain ⟨n, hn⟩ := h4 p (by simp)
    have e := ih (rest := rest) (fun q hq => h4 q (by simp [hq])) fun x hx => hb x (by simp only [List.flatMap_cons, List.mem_append]; exact .inr hx)
    have h0 := hb (32, ((p.length / 4 : Nat) : Int)) (by simp [itemsP])
    have h1 := ops_app (rest := bytesI (ps.flatMap itemsP) ++ rest) hn fun x hx => hb x (by simp only [List.flatMap_cons, List.mem_append, itemsP, List.mem_cons]; exact .inl (.inr hx))
    have h2 : p.length / 4 = n := by omega
    simp only [h2] at h0
    have h3 : ((n : Int) % 33).toNat = n := by omega
    have h5 : lowB (n : Int) = n := lowB_id (by omega) (by omega)
    simp only [List.flatMap_cons, itemsP, h2, bytesI_app, List.length_cons, readProgs]
    simp only [bytesI, List.map_cons, h5, List.cons_append, hd0, List.tail_cons, h3] at h1 e ⊢
    rw [List.append_assoc, h1]
    simp only [e]
theorem decode_items {cfg : List Int} {ps : List (List Int)} {l : List Int} (hc : cfg.length = 6) (h4 : ∀ p ∈ ps, rowOK p) (hb : badI (items cfg ps l) = false) : decodeL (bytesI (items cfg ps l)) = (cfg, ps, l) := by
  rw [badI_false] at hb
  have b1 : ∀ z ∈ cfg, 0 ≤ z ∧ z ≤ 255 := fun z hz => hb (255, z) (by simp [items, hz])
  have b2 := hb (8, (ps.length : Int)) (by simp [items])
  have b3 : ∀ x ∈ ps.flatMap itemsP, 0 ≤ x.2 ∧ x.2 ≤ x.1 := fun x hx => hb x (by simp only [items, List.mem_append, List.mem_cons]; exact .inr (.inr (.inl hx)))
  have b4 : ∀ z ∈ l, 0 ≤ z ∧ z ≤ 255 := fun z hz => hb (255, z) (by simp [items, hz])
  simp only at b2
  have e0 : bytesI (items cfg ps l) = cfg ++ ((ps.length : Int) :: (bytesI (ps.flatMap itemsP) ++ l)) := by
    unfold items
    rw [bytesI_app]
    have h1 : bytesI (cfg.map fun z => ((255 : Int), z)) = cfg := by
      have := bytesI_tag 255 cfg; unfold tag at this; rw [this, lowB_map b1]
    have h2 : bytesI (l.map fun z => ((255 : Int), z)) = l := by
      have := bytesI_tag 255 l; unfold tag at this; rw [this, lowB_map b4]
    rw [h1]
    have : bytesI ((8, (ps.length : Int)) :: (ps.flatMap itemsP ++ l.map fun z => ((255 : Int), z))) = lowB (ps.length : Int) :: bytesI (ps.flatMap itemsP ++ l.map fun z => ((255 : Int), z)) := rfl
    rw [this, bytesI_app, h2, lowB_id b2.1 (by omega)]
  have h5 : ((ps.length : Int) % 9).toNat = ps.length := by omega
  rw [e0]
  simp only [decodeL, readN_app hc, hd0, List.tail_cons, h5, progs_app h4 b3]

/-! ### what is decoded can be encoded -/
theorem Bytes.readN : ∀ {n : Nat} {bs : List Int}, Bytes bs → Bytes (readN n bs).1 ∧ Bytes (readN n bs).2 := by
  intro n
  induction n with
  | zero => intro bs h; exact ⟨fun z hz => by simp [PantryEng.readN] at hz, h⟩
  | succ n ih =>
    intro bs h
    obtain ⟨h1, h2⟩ := ih h.tail
    refine ⟨fun z hz => ?_, h2⟩
    simp only [PantryEng.readN, List.mem_cons] at hz
    rcases hz with rfl | hz
    · exact h.head
    · exact h1 z hz
theorem readOps_fine : ∀ {n : Nat} {bs : List Int}, Bytes bs → (readOps n bs).1.length = n * 4 ∧ (∀ x ∈ itemsOps (readOps n bs).1, 0 ≤ x.2 ∧ x.2 ≤ x.1) ∧ Bytes (readOps n bs).2 := by
  intro n
  induction n with
  | zero => intro bs h; exact ⟨rfl, by simp [readOps, itemsOps], h⟩
  | succ n ih =>
    intro bs h
    have ht := h.tail
    obtain ⟨h1, h2, h3⟩ := ih (Bytes.readN (n := 3) ht).2
    have ha := h.head
    have hb := ht.head
    have hc := ht.tail.head
    have hd := ht.tail.tail.head
    refine ⟨?_, fun x hx => ?_, h3⟩
    · simp only [readOps, readN, List.length_cons, List.length_append, List.length_nil] at h1 ⊢; omega
    · simp only [readOps, readN, List.cons_append, List.nil_append, itemsOps, List.mem_cons] at h2 hx
      rcases hx with rfl | rfl | rfl | rfl | hx
      · simp only; omega
      · exact hb
      · exact hc
      · exact hd
      · exact h2 x hx
theorem readProgs_fine : ∀ {n : Nat} {bs : List Int}, Bytes bs → (readProgs n bs).1.length = n ∧ (∀ p ∈ (readProgs n bs).1, rowOK p) ∧ (∀ x ∈ (readProgs n bs).1.flatMap itemsP, 0 ≤ x.2 ∧ x.2 ≤ x.1) ∧ Bytes (readProgs n bs).2 := by
  intro n
  induction n with
  | zero => intro bs h; exact ⟨rfl, by simp [readProgs], by simp [readProgs], h⟩
  | succ n ih =>
    intro bs h
    have hz := h.head
    obtain ⟨m, hm⟩ : ∃ m, m = (hd0 bs % 33).toNat := ⟨_, rfl⟩
    obtain ⟨h1, h2, h3⟩ := readOps_fine (n := m) h.tail
    obtain ⟨k1, k2, k3, k4⟩ := ih h3
    simp only [readProgs, ← hm]
    refine ⟨by simp [k1], fun p hp => ?_, fun x hx => ?_, k4⟩
    · rcases List.mem_cons.1 hp with rfl | hp
      · exact ⟨m, h1⟩
      · exact k2 p hp
    · simp only [List.flatMap_cons, List.mem_append, itemsP, List.mem_cons] at hx
      rcases hx with (rfl | hx) | hx
      · simp only [h1]; omega
      · exact h2 x hx
      · exact k3 x hx
theorem decode_fine {bs : List Int} (h : Bytes bs) : (decodeL bs).1.length = 6 ∧ (∀ p ∈ (decodeL bs).2.1, rowOK p) ∧ badI (items (decodeL bs).1 (decodeL bs).2.1 (decodeL bs).2.2) = false := by
  obtain ⟨h1, h2⟩ := Bytes.readN (n := 6) h
  have hz := h2.head
  obtain ⟨m, hm⟩ : ∃ m, m = (hd0 (readN 6 bs).2 % 9).toNat := ⟨_, rfl⟩
  obtain ⟨k1, k2, k3, k4⟩ := readProgs_fine (n := m) h2.tail
  have e : decodeL bs = ((readN 6 bs).1, (readProgs m (readN 6 bs).2.tail).1, (readProgs m (readN 6 bs).2.tail).2) := by unfold decodeL; rw [← hm]
  rw [e]
  refine ⟨rfl, k2, ?_⟩
  rw [badI_false]
  intro x hx
  simp only [items, List.mem_append, List.mem_cons, List.mem_map] at hx
  rcases hx with ⟨z, hz, rfl⟩ | rfl | hx | ⟨z, hz, rfl⟩
  · exact h1 z hz
  · simp only [k1]; omega
  · exact k3 x hx
  · exact k4 z hz
end Go.Proofs.PantryEng
namespace Go.Proofs.PantryEng
open Go
theorem ViewP.rowOK {t : Frag} {ps : List (List Int)} {v : Value} (h : ViewP t ps v) : ∀ p ∈ ps, rowOK p := by
  obtain ⟨vals, _, h2⟩ := h
  intro p hp
  obtain ⟨i, hi⟩ := List.getElem?_of_mem hp
  obtain ⟨w, _, hw⟩ := h2.get hi
  obtain ⟨_, n, _, _, h3, _⟩ := hw.ex
  exact ⟨n, by simpa [ints] using h3⟩
theorem flat_le {ps : List (List Int)} {m : Nat} (h : ∀ p ∈ ps, p.length ≤ m * 4 ∧ PantryEng.rowOK p) : (ps.flatMap itemsP).length ≤ ps.length * (m * 4 + 1) := by
  induction ps with
  | nil => simp
  | cons p ps ih =>
    obtain ⟨h1, n, h2⟩ := h p (by simp)
    have := ih fun q hq => h q (by simp [hq])
    have h3 := itemsOps_len h2
    simp only [List.flatMap_cons, List.length_append, itemsP, List.length_cons, h3, Nat.succ_mul]
    omega
theorem readProgs_small : ∀ {n : Nat} {bs : List Int}, Bytes bs → ∀ p ∈ (readProgs n bs).1, p.length ≤ 32 * 4 := by
  intro n
  induction n with
  | zero => intro bs _ p hp; simp [readProgs] at hp
  | succ n ih =>
    intro bs h p hp
    have hz := h.head
    obtain ⟨h1, _, h3⟩ := readOps_fine (n := (hd0 bs % 33).toNat) h.tail
    simp only [readProgs, List.mem_cons] at hp
    rcases hp with rfl | hp
    · rw [h1]; omega
    · exact ih h3 p hp
theorem decode_len {bs : List Int} (h : Bytes bs) : (items (decodeL bs).1 (decodeL bs).2.1 (decodeL bs).2.2).length ≤ 4000 + bs.length ∧ (decodeL bs).2.1.length ≤ 8 ∧ (∀ p ∈ (decodeL bs).2.1, p.length ≤ 128) ∧ (decodeL bs).2.2.length ≤ bs.length := by
  obtain ⟨_, h2⟩ := Bytes.readN (n := 6) h
  have hz := h2.head
  obtain ⟨m, hm⟩ : ∃ m, m = (hd0 (readN 6 bs).2 % 9).toNat := ⟨_, rfl⟩
  obtain ⟨k1, k2, _, _⟩ := readProgs_fine (n := m) h2.tail
  have e : decodeL bs = ((readN 6 bs).1, (readProgs m (readN 6 bs).2.tail).1, (readProgs m (readN 6 bs).2.tail).2) := by unfold decodeL; rw [← hm]
  have l1 := readN_len 6 bs
  have l2 := readProgs_len m (readN 6 bs).2.tail
  have l3 : (readN 6 bs).2.tail.length ≤ (readN 6 bs).2.length := by simp
  have l4 : (readN 6 bs).1.length = 6 := rfl
  have l5 := flat_le (m := 32) fun p hp => ⟨readProgs_small (n := m) h2.tail p hp, k2 p hp⟩
  rw [k1] at l5
  have hm8 : m ≤ 8 := by omega
  have l6 : m * (32 * 4 + 1) ≤ 8 * 129 := Nat.mul_le_mul hm8 (Nat.le_refl _)
  rw [e]
  refine ⟨?_, by simp only; omega, fun p hp => readProgs_small h2.tail p hp, by simp only; omega⟩
  simp only [items, List.length_append, List.length_map, List.length_cons]
  omega
theorem eq6 {a b : List Int} (ha : a.length = 6) (hb : b.length = 6) (neg : Bool) : eqAggV neg [false, false, false, false, false, false] (.agg ⟨ints .i64 a⟩) (.agg ⟨ints .i64 b⟩) = some (.bool (decide (a = b) != neg)) := by
  have : cellsEq [false, false, false, false, false, false] (ints .i64 a) (ints .i64 b) = some (decide (a = b)) := cellsEq4 (n := 6) ha hb
  simp [eqAggV, this, PantryEng.flip]
end Go.Proofs.PantryEng
namespace Go.Proofs.YtgnmjfnkibbnkaaGreatDoor
open Go Go.Proofs.PantryEng
set_option maxRecDepth 100000
variable {h : AHeap} {t : Frag} {R : List SL}
def tokT : AObj := .ro [.complex .f64 270 (65536 + 212)]
theorem small_ok (hh : Sat (hm t :: R) h) (ht : t 0 = some tokT) : Ensures prW n_pantrylaw26_small [] h fun r h' => r = vb true ∧ h' = h := by
  refine ⟨vb true, h, ans_prim (p := primSmall) rfl ?_, rfl, rfl⟩
  have := hh.hget ht
  simp only [primSmall, tokOK, this, tokT]
  rfl
theorem back_ok {x0 x2 x3 : Value} {bs cfg l : List Int} {ps : List (List Int)} (hh : Sat (hm t :: R) h) (ht : t 0 = some tokT) (hv : View t 1 (ints .u8 bs) x0) (hb : Bytes bs) (hc : cfg.length = 6) (hp : ViewP t ps x2) (hl : View t 1 (ints .i64 l) x3) (hbd : (items cfg ps l).length ≤ 8388608) (hbp : ∀ p ∈ ps, p.length ≤ 8388608) :
    Ensures prW n_pantrylaw26_ScriptBack [x0, .agg ⟨ints .i64 cfg⟩, x2, x3] h fun r _ => r = vb true := by
  refine gen fun Q hQ => ?_
  apply e_pantrylaw26_ScriptBack
  unfold w_pantrylaw26_ScriptBack
  obtain ⟨_, n0, _, rfl, hl0, _⟩ := hv.ex
  obtain ⟨_, ⟨_, n2, _, rfl, _⟩, _⟩ := id hp
  obtain ⟨_, n3, _, rfl, hl3, _⟩ := hl.ex
  have hl0 : bs.length = n0 := by simpa [ints] using hl0
  have fin : ∀ h, Q (vb true) h := fun h => hQ _ _ rfl
  refine Ly_bx hh rfl rfl fun C h hh => ?_
  refine (small_ok hh.pull1 ht).mono ?_
  rintro _ h' ⟨rfl, rfl⟩
  have hg := hh.cells
  have hcA : h'.cellsAt C 0 6 = some (ints .i64 cfg) := by rw [cellsAt_of hg]; exact takeN_eq (by simp [ints, hc])
  by_cases c1 : (2000 : Int) < n0
  · simp [c1]; exact fin _
  by_cases c2 : (20 : Int) < n2
  · simp [c1, c2]; exact fin _
  by_cases c3 : (300 : Int) < n3
  · simp [c1, c2, c3]; exact fin _
  simp [c1, c2, c3, hcA]
  refine (encode_ok hh.pull1 hc hp hl (by omega)).mono ?_
  rintro r h ⟨t1, hs1, hh, hr⟩
  have hrx : ∃ x y, r = .tuple #[x, y] := by
    rcases hr with ⟨_, rfl⟩ | ⟨_, x, rfl, _⟩ <;> exact ⟨_, _, rfl⟩
  obtain ⟨rx, ry, rfl⟩ := hrx
  simp
  refine J_of (fun l h => l = [] ∧ ∃ t', Sub t t' ∧ Sat (hm t' :: R) h) ?_ ?_
  · rintro _ h ⟨rfl, t1, hs1, hh⟩
    clear hr
    refine (decode_ok hh (hv.sub hs1) hb (by omega)).mono ?_
    rintro _ h ⟨t2, p, q, vals, rfl, hs2, hh, hvp, hall, hvq⟩
    obtain ⟨d1, d2, d3⟩ := decode_fine hb
    obtain ⟨e1, e2, e3, e4⟩ := decode_len hb
    have hdec := decode_items d1 d2 d3
    have hbb : Bytes (bytesI (items (decodeL bs).1 (decodeL bs).2.1 (decodeL bs).2.2)) := by
      intro z hz
      simp only [bytesI, List.mem_map, lowB] at hz
      obtain ⟨x, _, rfl⟩ := hz
      omega
    have hbl := bytesI_len (items (decodeL bs).1 (decodeL bs).2.1 (decodeL bs).2.2)
    generalize hcf : (decodeL bs).1 = cf at *
    generalize hpf : (decodeL bs).2.1 = pf at *
    generalize hqf : (decodeL bs).2.2 = qf at *
    simp
    refine Ly_al hh fun D h hh => ?_
    refine PH_st (ws := ints .i64 cf) hh rfl rfl (by simp [ints, d1]) (by simp [ints, d1]) fun h hh => ?_
    rw [setMany_0 (by simp [ints, d1])] at hh
    have hD : h.cellsAt D 0 6 = some (ints .i64 cf) := by rw [cellsAt_of hh.cells]; exact takeN_eq (by simp [ints, d1])
    simp [hD]
    refine (encode_ok hh.pull1 d1 ⟨vals, hvp, hall⟩ hvq (by omega)).mono ?_
    rintro _ h ⟨t3, hs3, hh, ⟨hbad, _⟩ | ⟨_, x, rfl, hvx⟩⟩
    · rw [d3] at hbad; simp at hbad
    simp
    refine (decode_ok hh hvx hbb (by omega)).mono ?_
    rintro _ h ⟨t4, p', q', vals', rfl, hs4, hh, hvp', hall', hvq'⟩
    rw [hdec] at hall' hvq' ⊢
    simp
    refine Ly_al hh fun E h hh => ?_
    refine PH_st (ws := ints .i64 cf) hh rfl rfl (by simp [ints, d1]) (by simp [ints, d1]) fun h hh => ?_
    rw [setMany_0 (by simp [ints, d1])] at hh
    have hE : h.cellsAt E 0 6 = some (ints .i64 cf) := by rw [cellsAt_of hh.cells]; exact takeN_eq (by simp [ints, d1])
    have hD : h.cellsAt D 0 6 = some (ints .i64 cf) := by rw [cellsAt_of hh.pull2.cells]; exact takeN_eq (by simp [ints, d1])
    simp [hE, hD, eq6 d1 d1]
    refine (progs_ok (a := pf) (b := pf) hh.pull1 ⟨vals', hvp', hall'⟩ ⟨vals, hvp.sub (hs3.trans hs4), hall.mono fun _ _ h => h.sub (hs3.trans hs4)⟩ (by omega) (fun p hp => by have := e3 p hp; omega)).mono ?_
    rintro _ h' ⟨rfl, rfl⟩
    simp
    refine (ints_ok (a := qf) (b := qf) hh.pull1 hvq' (hvq.sub (hs3.trans hs4)) (by omega)).mono ?_
    rintro _ h' ⟨rfl, rfl⟩
    simp
    exact fin _
  · intro K hK
    rcases hr with ⟨hbad, hr⟩ | ⟨hgood, x, hr, hvx⟩
    · injection hr with hr; injection hr with hr; injection hr with hr1 hr2; injection hr2 with hr2; subst hr1; subst hr2
      simp
      exact hK _ _ ⟨rfl, t1, hs1, hh.drop1⟩
    · injection hr with hr; injection hr with hr; injection hr with hr1 hr2; injection hr2 with hr2; subst hr1; subst hr2
      have hdec := decode_items hc hp.rowOK hgood
      have hbb : Bytes (bytesI (items cfg ps l)) := by
        intro z hz
        simp only [bytesI, List.mem_map, lowB] at hz
        obtain ⟨x, _, rfl⟩ := hz
        omega
      simp
      refine (decode_ok hh hvx hbb (by rw [bytesI_len]; omega)).mono ?_
      rintro _ h ⟨t2, p, q, vals, rfl, hs2, hh, hvp, hall, hvq⟩
      rw [hdec] at hall hvq ⊢
      simp
      refine Ly_al hh fun D h hh => ?_
      refine PH_st (ws := ints .i64 cfg) hh rfl rfl (by simp [ints, hc]) (by simp [ints, hc]) fun h hh => ?_
      rw [setMany_0 (by simp [ints, hc])] at hh
      have hD : h.cellsAt D 0 6 = some (ints .i64 cfg) := by rw [cellsAt_of hh.cells]; exact takeN_eq (by simp [ints, hc])
      have hC : h.cellsAt C 0 6 = some (ints .i64 cfg) := by rw [cellsAt_of hh.pull2.cells]; exact takeN_eq (by simp [ints, hc])
      simp [hD, hC, eq6 hc hc]
      have hpsl : ps.length ≤ 16777216 := by
        have := flat_len ps
        simp only [items, List.length_append, List.length_map, List.length_cons] at hbd
        omega
      refine (progs_ok (a := ps) (b := ps) hh.pull1 ⟨vals, hvp, hall⟩ (hp.sub (hs1.trans hs2)) hpsl (fun p hp => by have := hbp p hp; omega)).mono ?_
      rintro _ h' ⟨rfl, rfl⟩
      simp
      refine (ints_ok (a := l) (b := l) hh.pull1 hvq (hl.sub (hs1.trans hs2)) ?_).mono ?_
      · simp only [items, List.length_append, List.length_map, List.length_cons] at hbd; omega
      rintro _ h' ⟨rfl, rfl⟩
      simp
      exact hK _ _ ⟨rfl, t2, hs1.trans hs2, hh.tail.drop1⟩
end Go.Proofs.YtgnmjfnkibbnkaaGreatDoor

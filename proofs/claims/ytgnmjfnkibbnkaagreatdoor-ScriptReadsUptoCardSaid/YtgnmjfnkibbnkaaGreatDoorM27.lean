/- ScriptCuts, ahead of its row. -/
import Derived.Test.YtgnmjfnkibbnkaaGreatDoorM24
set_option linter.unusedSimpArgs false
set_option linter.unusedVariables false
namespace Go.Proofs.PantryEng
open Go
section
variable {t : Frag} {size : Nat} {ws new cs : List Value} {v x : Value} {h : AHeap} {R : List SL} {k : VK}
theorem View.first {a : Option Addr} {m c : Nat} (hv : View t size new (.slice a m c)) (hh : Sat (hm t :: R) h) (h0 : 0 < size) : firstOf h size m (.slice a m c) = some new := by
  have hl := hv.len
  obtain ⟨_, _, _, e, _, h3⟩ := hv.ex
  injection e with e1 e2 e3
  subst e1; subst e2; subst e3
  rcases h3 with ⟨rfl, hsp⟩ | ⟨b, o, cs, rfl, h4, h5⟩
  · have hm : m = 0 := by
      rcases Nat.eq_zero_or_pos m with h | h
      · exact h
      · have := Nat.mul_pos h h0; simp at hl; omega
    subst hm
    cases a with
    | none => simp only [firstOf, if_true]
    | some a =>
      obtain ⟨b, o, s⟩ := a
      have : s = none := hsp _ rfl
      subst this
      simp only [firstOf, if_true]
  · by_cases hm : m = 0
    · subst hm
      have : new = [] := List.length_eq_zero_iff.1 (by omega)
      subst this
      simp only [firstOf, if_true]
    · simp only [firstOf, if_neg hm]
      rw [cellsAt_of (hh.tcells h4)]
      have : (cs.drop o).take (m * size) = new := by
        apply List.ext_getElem?
        intro j
        rw [List.getElem?_take, List.getElem?_drop]
        split
        · rename_i hj; exact h5 j (by omega)
        · rename_i hj; rw [List.getElem?_eq_none (by omega)]
      unfold takeN
      rw [this, if_pos hl]
/-- What is looked at is appended. -/
theorem PH_apV {bytes n m c : Nat} {a : Option Addr} (hh : Sat (ownS v size cs :: hm t :: R) h) (h0 : 0 < size) (hx : View t size new (.slice a m c)) (hcl : cs.length = n * size) (hb : (n + m) * bytes ≤ 1099511627776) (hb' : n + m ≤ 1099511627776)
    (hk : ∀ v' h', Sat (ownS v' size (cs ++ new) :: hm t :: R) h' → k v' h') : PH (apE size bytes v (.slice a m c) h) k := by
  obtain ⟨v', h', h1, h2⟩ := Sat.append (x := .slice a m c) hh h0 ⟨_, _, rfl⟩ (hx.first hh.tail h0) hx.len hcl hb hb'
  exact ⟨v', h', h1, hk _ _ h2⟩
/-- The first ones. -/
theorem View.takeV {a : Option Addr} {n c m : Nat} (hv : View t 1 ws (.slice a n c)) (hk : m ≤ n) : ∃ v', sliceV 1 (.slice a n c) none (some (vi m)) none = some v' ∧ View t 1 (ws.take m) v' := by
  have hl := hv.len
  obtain ⟨_, _, _, e, _, h3⟩ := hv.ex
  injection e with e1 e2 e3
  subst e1; subst e2; subst e3
  rcases h3 with ⟨rfl, hsp⟩ | ⟨b, o, cs, rfl, h4, h5⟩
  · have hn : n = 0 := by simp at hl; omega
    subst hn
    have hm : m = 0 := by omega
    subst hm
    cases a with
    | none => exact ⟨vn, by simp [sliceV, asInt?], View.nil⟩
    | some a =>
      obtain ⟨b, o, s⟩ := a
      have : s = none := hsp _ rfl
      subst this
      exact ⟨vs b o 0 c, sliceV_hi (by omega) (by omega), ⟨_, _, _, rfl, rfl, .inl ⟨rfl, by simp⟩⟩⟩
  · exact ⟨_, sliceV_hi (by omega) (by omega), ⟨_, _, _, rfl, by rw [List.length_take, Int.toNat_natCast]; omega, .inr ⟨b, o, cs, rfl, h4, fun i hi => by
      rw [List.length_take] at hi
      rw [h5 i (by omega), List.getElem?_take, if_pos (by omega)]⟩⟩⟩
end
theorem items_app (cfg : List Int) (ps : List (List Int)) (l : List Int) : items cfg ps l = items cfg ps [] ++ tag 255 l := by simp [items, tag]
theorem decode_head {cfg : List Int} {ps : List (List Int)} (hc : cfg.length = 6) (h4 : ∀ p ∈ ps, rowOK p) (hb : badI (items cfg ps []) = false) (rest : List Int) : decodeL (bytesI (items cfg ps []) ++ rest) = (cfg, ps, rest) := by
  rw [badI_false] at hb
  have b1 : ∀ z ∈ cfg, 0 ≤ z ∧ z ≤ 255 := fun z hz => hb (255, z) (by simp [items, hz])
  have b2 := hb (8, (ps.length : Int)) (by simp [items])
  have b3 : ∀ x ∈ ps.flatMap itemsP, 0 ≤ x.2 ∧ x.2 ≤ x.1 := fun x hx => hb x (by simp only [items, List.mem_append, List.mem_cons]; exact .inr (.inr (.inl hx)))
  simp only at b2
  have e0 : bytesI (items cfg ps []) = cfg ++ ((ps.length : Int) :: bytesI (ps.flatMap itemsP)) := by
    unfold items
    rw [bytesI_app]
    have h1 : bytesI (cfg.map fun z => ((255 : Int), z)) = cfg := by
      have := bytesI_tag 255 cfg; unfold tag at this; rw [this, lowB_map b1]
    rw [h1]
    simp only [List.map_nil, List.append_nil]
    have : bytesI ((8, (ps.length : Int)) :: ps.flatMap itemsP) = lowB (ps.length : Int) :: bytesI (ps.flatMap itemsP) := rfl
    rw [this, lowB_id b2.1 (by omega)]
  have h5 : ((ps.length : Int) % 9).toNat = ps.length := by omega
  rw [e0, List.append_assoc, List.cons_append]
  simp only [decodeL, readN_app hc, hd0, List.tail_cons, h5, progs_app h4 b3]
end Go.Proofs.PantryEng
namespace Go.Proofs.YtgnmjfnkibbnkaaGreatDoor
open Go Go.Proofs.PantryEng
set_option maxRecDepth 100000
variable {h : AHeap} {t : Frag} {R : List SL}
theorem cuts_ok {x1 x2 x3 : Value} {more cfg l : List Int} {ps : List (List Int)} (hh : Sat (hm t :: R) h) (ht : t 0 = some tokT) (hc : cfg.length = 6) (hp : ViewP t ps x1) (hl : View t 1 (ints .i64 l) x2) (hmv : View t 1 (ints .u8 more) x3) (hmb : Bytes more) (hbd : (items cfg ps l).length ≤ 8388608) (hbp : ∀ p ∈ ps, p.length ≤ 8388608) :
    Ensures prW n_pantrylaw26_ScriptCuts [.agg ⟨ints .i64 cfg⟩, x1, x2, x3] h fun r _ => r = vb true := by
  refine gen fun Q hQ => ?_
  apply e_pantrylaw26_ScriptCuts
  unfold w_pantrylaw26_ScriptCuts
  obtain ⟨_, ⟨_, n1, _, rfl, _⟩, _⟩ := id hp
  obtain ⟨_, n2, _, rfl, hl2, _⟩ := hl.ex
  obtain ⟨_, n3, _, rfl, hl3, _⟩ := hmv.ex
  have hl2 : l.length = n2 := by simpa [ints] using hl2
  have hl3 : more.length = n3 := by simpa [ints] using hl3
  have fin : ∀ h, Q (vb true) h := fun h => hQ _ _ rfl
  refine Ly_bx hh rfl rfl fun C h hh => ?_
  refine (small_ok hh.pull1 ht).mono ?_
  rintro _ h' ⟨rfl, rfl⟩
  have hg := hh.cells
  have hcA : h'.cellsAt C 0 6 = some (ints .i64 cfg) := by rw [cellsAt_of hg]; exact takeN_eq (by simp [ints, hc])
  by_cases c1 : (20 : Int) < n1
  · simp [c1]; exact fin _
  by_cases c2 : (300 : Int) < n2
  · simp [c1, c2]; exact fin _
  by_cases c3 : (300 : Int) < n3
  · simp [c1, c2, c3]; exact fin _
  simp [c1, c2, c3, hcA]
  refine (encode_ok hh.pull1 hc hp hl (by omega)).mono ?_
  rintro _ h ⟨t1, hs1, hh, ⟨hbad, rfl⟩ | ⟨hgood, x, rfl, hvx⟩⟩
  · simp
    exact fin _
  obtain ⟨xa, xn, xc, rfl, hxl, _⟩ := hvx.ex
  have hxl : (items cfg ps l).length = xn := by simpa [ints, bytesI_len] using hxl
  simp
  -- what is decoded of the whole, and of its beginnings
  have hitems := items_app cfg ps l
  have hgood0 : badI (items cfg ps []) = false := by
    rw [hitems, badI_app, Bool.or_eq_false_iff] at hgood; exact hgood.1
  have hdec := decode_head hc hp.rowOK hgood0
  have hlb : ∀ z ∈ l, 0 ≤ z ∧ z ≤ 255 := by
    rw [hitems, badI_app, Bool.or_eq_false_iff] at hgood
    intro z hz
    exact badI_false.1 hgood.2 (255, z) (by simp [tag, hz])
  have hB : bytesI (items cfg ps l) = bytesI (items cfg ps []) ++ l := by rw [hitems, bytesI_app, bytesI_tag, lowB_map hlb]
  have hBl : xn = (items cfg ps []).length + n2 := by rw [← hxl, hitems, List.length_append]; simp [tag, hl2]
  have hH7 : 7 ≤ (items cfg ps []).length := by simp [items, hc]; omega
  have hBB : Bytes (bytesI (items cfg ps l)) := by
    intro z hz
    simp only [bytesI, List.mem_map, lowB] at hz
    obtain ⟨x, _, rfl⟩ := hz
    omega
  have hxn : xn ≤ 8388608 := by omega
  refine Ly_sat (x := .cells []) (mk := fun b => vs b 0 0 2) hh (by simp [evL, fillS, zeroMany]) fun E h hh => ?_
  refine PH_apV (n := 0) (hh.own_of (size := 1) (n := 0) rfl) (by omega) hvx rfl (by omega) (by omega) fun y1 h hh => ?_
  refine PH_apV (n := xn) hh (by omega) (hmv.sub hs1) (by simp [ints, bytesI_len, hxl]) (by omega) (by omega) fun y2 h hh => ?_
  simp only [List.nil_append, ints_app] at hh
  obtain ⟨t2, hs2, hh, hvy⟩ := Sat.seenS hh
  have hym : Bytes (bytesI (items cfg ps l) ++ more) := by
    intro z hz
    rcases List.mem_append.1 hz with h | h
    · exact hBB z h
    · exact hmb z h
  refine (decode_ok hh hvy hym (by rw [List.length_append, bytesI_len]; omega)).mono ?_
  rintro _ h ⟨t3, p, q, vals, rfl, hs3, hh, hvp, hall, hvq⟩
  rw [hB, List.append_assoc, hdec] at hall hvq ⊢
  obtain ⟨qa, qn, qc, rfl, hql, _⟩ := hvq.ex
  have hql : n2 + n3 = qn := by simpa [ints, hl2, hl3] using hql
  simp
  refine Ly_al hh fun D h hh => ?_
  refine PH_st (ws := ints .i64 cfg) hh rfl rfl (by simp [ints, hc]) (by simp [ints, hc]) fun h hh => ?_
  rw [setMany_0 (by simp [ints, hc])] at hh
  have hs13 := hs2.trans hs3
  refine Lp_of (fun k l' h => (items cfg ps []).length ≤ k ∧ k ≤ xn ∧ l' = [vi k] ∧ Sat (pt D (.cells (ints .i64 cfg)) :: hm t3 :: pt C (.cells (ints .i64 cfg)) :: R) h) xn ⟨by omega, by omega, rfl, hh⟩ ?_
  clear hh
  rintro k l' h K ⟨hn0, hn1, rfl, hh⟩ hK
  have hvx3 := hvx.sub hs13
  obtain ⟨xb, xo, rfl, hcell⟩ := hvx3.cell hh.tail (i := k - 1) (by omega)
  have hw1 : wr .i64 ((k : Int) - 1) = ((k - 1 : Nat) : Int) := by rw [wr_small (by omega) (by omega)]; omega
  have hw2 : wr .i64 ((xn : Int) - n2) = ((xn - n2 : Nat) : Int) := by rw [wr_small (by omega) (by omega)]; omega
  have hw3 : wr .i64 ((n2 : Int) + n3) = ((n2 + n3 : Nat) : Int) := by rw [wr_small (by omega) (by omega)]; omega
  obtain ⟨z, hz⟩ : ∃ z, (bytesI (items cfg ps l))[k - 1]? = some z := ⟨_, List.getElem?_eq_getElem (by rw [bytesI_len]; omega)⟩
  rw [ints_get, hz] at hcell
  simp only [Option.map_some, Nat.mul_one] at hcell
  have hpos : 0 < k := by omega
  have hD : h.cellsAt D 0 6 = some (ints .i64 cfg) := by rw [cellsAt_of hh.cells]; exact takeN_eq (by simp [ints, hc])
  by_cases hA : z = 0 ∧ xn - n2 < k
  · obtain ⟨h1, h2⟩ := hA
    have h2' : ((xn - n2 : Nat) : Int) < k := by omega
    simp [hpos, hw1, hw2, indexAddrV_nat (show k - 1 < xn by omega), hcell, h1, h2]
    exact hK _ _ _ (show k - 1 < k by omega) ⟨by omega, by omega, by simp, hh⟩
  · have hB2 : (bytesI (items cfg ps l)).take k = bytesI (items cfg ps []) ++ l.take (k - (items cfg ps []).length) := by
      rw [hB, List.take_append, bytesI_len, List.take_of_length_le (by rw [bytesI_len]; omega)]
    obtain ⟨y3, hy3, hv3⟩ := hvx3.takeV (m := k) hn1
    rw [ints_take, hB2] at hv3
    have hb3 : Bytes (bytesI (items cfg ps []) ++ l.take (k - (items cfg ps []).length)) := by
      rw [← hB2]; exact fun z hz => hBB z (List.mem_of_mem_take hz)
    have hlast : (k : Int) ≤ xn := by omega
    have goal2 : ∀ h', h' = h → P (sliceV 1 (vs xb xo xn xc) none (some (vi k)) none) (fun x86 => x86 = y3) := fun _ _ => by rw [hy3]; simp
    rcases (show z ≠ 0 ∨ (z = 0 ∧ ¬ xn - n2 < k) from by
      by_cases e : z = 0
      · exact .inr ⟨e, fun h => hA ⟨e, h⟩⟩
      · exact .inl e) with h1 | ⟨h1, h2⟩
    all_goals first | simp [hpos, hw1, hw2, hw3, indexAddrV_nat (show k - 1 < xn by omega), hcell, h1, h2, hy3] | simp [hpos, hw1, hw2, hw3, indexAddrV_nat (show k - 1 < xn by omega), hcell, h1, hy3]
    all_goals refine (decode_ok hh.pull1 hv3 hb3 (by rw [List.length_append, bytesI_len]; have := List.length_take_le (k - (items cfg ps []).length) l; omega)).mono ?_
    all_goals rintro _ h ⟨t4, p', q', vals', rfl, hs4, hh, hvp', hall', hvq'⟩
    all_goals rw [hdec] at hall' hvq' ⊢
    all_goals simp
    all_goals refine Ly_al hh fun F h hh => ?_
    all_goals refine PH_st (ws := ints .i64 cfg) hh rfl rfl (by simp [ints, hc]) (by simp [ints, hc]) fun h hh => ?_
    all_goals rw [setMany_0 (by simp [ints, hc])] at hh
    all_goals (
      have hF : h.cellsAt F 0 6 = some (ints .i64 cfg) := by rw [cellsAt_of hh.cells]; exact takeN_eq (by simp [ints, hc])
      have hD : h.cellsAt D 0 6 = some (ints .i64 cfg) := by rw [cellsAt_of hh.pull2.cells]; exact takeN_eq (by simp [ints, hc])
      have hC : h.cellsAt C 0 6 = some (ints .i64 cfg) := by rw [cellsAt_of hh.pull3.cells]; exact takeN_eq (by simp [ints, hc])
      have hne : (qn : Int) = ((n2 + n3 : Nat) : Int) := by omega
      simp [hF, hD, hC, eq6 hc hc, hw3, hne]
      have hpsl : ps.length ≤ 16777216 := by
        have := flat_len ps
        simp only [items, List.length_append, List.length_map, List.length_cons] at hbd
        omega
      have hpb : ∀ p ∈ ps, p.length ≤ 16777216 := fun p hp => by have := hbp p hp; omega
      have hp3 : ViewP t4 ps (.slice _ n1 _) := hp.sub ((hs1.trans hs13).trans hs4)
      refine (progs_ok (a := ps) (b := ps) hh.pull1 ⟨vals, hvp.sub hs4, hall.mono fun _ _ h => h.sub hs4⟩ hp3 hpsl hpb).mono ?_
      rintro _ h2 ⟨rfl, rfl⟩
      simp
      refine (progs_ok (a := ps) (b := ps) hh.pull1 ⟨vals', hvp', hall'⟩ hp3 hpsl hpb).mono ?_
      rintro _ h2 ⟨rfl, rfl⟩
      simp
      have hvq4 := hvq.sub hs4
      have hm4 := hmv.sub ((hs1.trans hs13).trans hs4)
      refine Lp_of (fun k l' h3 => ∃ j : Nat, k = n3 - j ∧ j ≤ n3 ∧ l' = [vb false, vi j] ∧ h3 = h2) n3 ⟨0, rfl, by omega, rfl, rfl⟩ ?_
      rintro k2 l' h3 K2 ⟨j, hk2, hj, rfl, hh3⟩ hK2
      subst hh3
      simp
      refine If_d (fun hlt => ?_) (fun hge => ?_)
      · have hj3 : j < n3 := by omega
        have hw4 : wr .i64 ((n2 : Int) + j) = ((n2 + j : Nat) : Int) := by rw [wr_small (by omega) (by omega)]; omega
        obtain ⟨b5, o5, e5, hc5⟩ := hvq4.cell hh.tail (i := n2 + j) (by omega)
        obtain ⟨b6, o6, e6, hc6⟩ := hm4.cell hh.tail hj3
        obtain ⟨z6, hz6⟩ : ∃ z, more[j]? = some z := ⟨_, List.getElem?_eq_getElem (by omega)⟩
        have hz5 : (l ++ more)[n2 + j]? = some z6 := by rw [List.getElem?_append_right (by omega), ← hz6]; congr 1; omega
        rw [ints_get, hz5] at hc5
        rw [ints_get, hz6] at hc6
        simp only [Option.map_some, Nat.mul_one] at hc5 hc6
        have hzb := hmb z6 (List.mem_of_getElem? hz6)
        subst e5; subst e6
        have e9 : indexAddrV 1 (vs b5 o5 qn qc) (vi ((n2 : Int) + j)) = some (vp b5 (o5 + (n2 + j))) := by
          have := indexAddrV_nat (size := 1) (b := b5) (o := o5) (c := qc) (show n2 + j < qn by omega)
          simpa using this
        simp [hw4, e9, indexAddrV_nat hj3, hc5, hc6, wr_small hzb.1 (show z6 ≤ 9223372036854775807 by omega), wr_succ (show j < 4611686018427387904 by omega)]
        refine hK2 (n3 - (j + 1)) [vb false, vi ((j + 1 : Nat) : Int)] _ (by omega) ⟨j + 1, rfl, by omega, rfl, rfl⟩
      · obtain ⟨y7, hy7, hv7⟩ := hvq4.takeV (m := n2) (by omega)
        rw [ints_take, List.take_left' hl2] at hv7
        simp [hy7]
        refine (ints_ok (a := l) (b := l) hh.pull1 hv7 (hl.sub ((hs1.trans hs13).trans hs4)) (by omega)).mono ?_
        rintro _ h4 ⟨rfl, rfl⟩
        simp
        exact fin _)
end Go.Proofs.YtgnmjfnkibbnkaaGreatDoor

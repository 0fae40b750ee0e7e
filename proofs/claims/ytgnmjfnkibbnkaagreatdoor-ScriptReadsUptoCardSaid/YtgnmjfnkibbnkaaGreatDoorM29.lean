/- ScriptReads, ahead of its row. -/
import Derived.Test.YtgnmjfnkibbnkaaGreatDoorM27
import Derived.Test.YtgnmjfnkibbnkaaGreatDoorM10
set_option linter.unusedSimpArgs false
set_option linter.unusedVariables false
namespace Go.Proofs.PantryEng
open Go
/-- The document's reader, with what is left. -/
def Rd (r : Nat) (x : Value) (bs rest : List Int) : SL := ex fun pos : Nat => many [pu (pos ≤ bs.length ∧ bs.drop pos = rest), pt r (.cells [x, vi pos])]
theorem Rd_open {r : Nat} {x : Value} {bs rest : List Int} {R : List SL} {h : AHeap} : Sat (Rd r x bs rest :: R) h ↔ ∃ pos : Nat, (pos ≤ bs.length ∧ bs.drop pos = rest) ∧ Sat (pt r (.cells [x, vi pos]) :: R) h := by
  constructor
  · intro hh
    obtain ⟨pos, hh⟩ := Sat_ex.1 hh
    exact ⟨pos, Sat_pu.1 (Sat_many.1 hh)⟩
  · rintro ⟨pos, h1, h2⟩
    exact Sat_ex.2 ⟨pos, Sat_many.2 (Sat_pu.2 ⟨h1, h2⟩)⟩
end Go.Proofs.PantryEng
namespace Go.Proofs.YtgnmjfnkibbnkaaGreatDoor
open Go Go.Proofs.PantryEng
set_option maxRecDepth 100000
set_option linter.unusedSimpArgs false
variable {h : AHeap} {t : Frag} {R : List SL}
theorem rnext_ok {r : Nat} {x : Value} {bs rest : List Int} (hh : Sat (Rd r x bs rest :: hm t :: R) h) (hv : View t 1 (ints .u8 bs) x) (hb : Bytes bs) (hbl : bs.length ≤ 16777216) :
    Ensures prW n_pantryref26_reader_next [vp r 0] h fun v h' => v = vi (hd0 rest) ∧ Sat (Rd r x bs rest.tail :: hm t :: R) h' := by
  refine gen fun Q hQ => ?_
  apply e_pantryref26_reader_next
  unfold w_pantryref26_reader_next
  obtain ⟨pos, ⟨hp, he⟩, hh⟩ := Rd_open.1 hh
  obtain ⟨a, n, c, rfl, hl, _⟩ := hv.ex
  have hl : bs.length = n := by simpa [ints] using hl
  simp [cell_of hh.cells]
  refine If_d (fun hge => ?_) (fun hlt => ?_)
  · have e : bs.drop pos = [] := List.drop_of_length_le (by omega)
    refine hQ _ _ ⟨by rw [← he, e]; rfl, Rd_open.2 ⟨pos, ⟨hp, by rw [← he, e]; rfl⟩, hh⟩⟩
  · have hpn : pos < n := by omega
    refine PH_st1 hh rfl rfl (by simp) fun h hh => ?_
    obtain ⟨b, o, rfl, hcell⟩ := hv.cell hh.tail hpn
    obtain ⟨z, hz⟩ : ∃ z, bs[pos]? = some z := ⟨_, List.getElem?_eq_getElem (by omega)⟩
    rw [ints_get, hz] at hcell
    simp only [Option.map_some, Nat.mul_one] at hcell
    have hzb := hb z (List.mem_of_getElem? hz)
    have hw : wr .i64 ((pos : Int) + 1) = (pos : Int) + 1 := wr_small (by omega) (by omega)
    have hw2 : wr .i64 ((pos : Int) + 1 - 1) = (pos : Int) := by rw [wr_small (by omega) (by omega)]; omega
    have hw3 : wr .i64 (pos : Int) = (pos : Int) := wr_small (by omega) (by omega)
    simp at hh
    rw [hw] at hh
    simp [cell_of hh.cells, hw2, hw3, indexAddrV_nat hpn, hcell, wr_small hzb.1 (show z ≤ 9223372036854775807 by omega)]
    have e := one hz
    refine hQ _ _ ⟨by rw [← he, e]; rfl, Rd_open.2 ⟨pos + 1, ⟨by omega, by rw [← he, e]; rfl⟩, by simpa using hh⟩⟩

theorem rdecode_ok {v : Value} {bs : List Int} (hh : Sat (hm t :: R) h) (hv : View t 1 (ints .u8 bs) v) (hb : Bytes bs) (hbl : bs.length ≤ 16777216) :
    Ensures prW n_pantryref26_Decode [v] h (DecodeR t R bs) := by
  refine gen fun Q hQ => ?_
  apply e_pantryref26_Decode
  unfold w_pantryref26_Decode
  obtain ⟨a, n0, c, rfl, hl, _⟩ := hv.ex
  have hl : bs.length = n0 := by simpa [ints] using hl
  refine Ly_al hh fun D h hh => ?_
  simp
  refine Ly_bx (cs := [.slice a n0 c, vi 0]) hh rfl rfl fun r h hh => ?_
  refine Ly_al hh fun C h hh => ?_
  have hh : Sat (Rd r (.slice a n0 c) bs bs :: hm t :: pt C (.cells (ints .i64 [0, 0, 0, 0, 0, 0])) :: pt D (.cells (ints .i64 [0, 0, 0, 0, 0, 0])) :: R) h := Rd_open.2 ⟨0, ⟨by omega, rfl⟩, hh.re [1, 3, 0, 2]⟩
  have step : ∀ {rest : List Int} {cs : List Value} {h : AHeap} {i : Nat} {K : VK}, Sat (Rd r (.slice a n0 c) bs rest :: hm t :: pt C (.cells cs) :: pt D (.cells (ints .i64 [0, 0, 0, 0, 0, 0])) :: R) h → i < cs.length →
      (∀ h', Sat (Rd r (.slice a n0 c) bs rest.tail :: hm t :: pt C (.cells (cs.set i (vi (hd0 rest)))) :: pt D (.cells (ints .i64 [0, 0, 0, 0, 0, 0])) :: R) h' → K noValue h') → Ensures prW n_pantryref26_reader_next [vp r 0] h (fun x h => P (fieldAddrV i (vp C 0)) fun a => PH (stE 1 a x h) K) := by
    intro rest cs h i K hh hi hk
    refine (rnext_ok hh hv hb hbl).mono ?_
    rintro _ h ⟨rfl, hh⟩
    simp only [fieldAddrV_p, P_some, Nat.zero_add]
    refine PH_st1 hh.pull2 rfl rfl hi fun h hh => ?_
    exact hk _ (hh.re [1, 2, 0])
  refine step (i := 0) hh (by simp [ints]) fun h hh => ?_
  refine step (i := 1) hh (by simp [ints]) fun h hh => ?_
  refine step (i := 2) hh (by simp [ints]) fun h hh => ?_
  refine step (i := 3) hh (by simp [ints]) fun h hh => ?_
  refine step (i := 4) hh (by simp [ints]) fun h hh => ?_
  refine step (i := 5) hh (by simp [ints]) fun h hh => ?_
  have hh : Sat (Rd r (.slice a n0 c) bs (readN 6 bs).2 :: hm t :: pt C (.cells (ints .i64 (readN 6 bs).1)) :: pt D (.cells (ints .i64 [0, 0, 0, 0, 0, 0])) :: R) h := hh
  generalize hbq : (readN 6 bs).2 = b1 at *
  generalize hcf : (readN 6 bs).1 = cfg at *
  have hb1 : Bytes b1 := by rw [← hbq]; exact (Bytes.readN hb).2
  try simp
  refine (rnext_ok hh hv hb hbl).mono ?_
  rintro _ h ⟨rfl, hh⟩
  have hb2 := hb1.tail
  have hz := hb1.head
  simp [rem_nat hz.1 (show (0 : Int) < 9 by omega)]
  generalize hb2e : b1.tail = b2 at *
  generalize hz0 : hd0 b1 = z0 at *
  obtain ⟨n, hn1, hn2, hn9⟩ : ∃ n : Nat, (n : Int) = z0 % 9 ∧ n = (z0 % 9).toNat ∧ n < 9 := ⟨(z0 % 9).toNat, by omega, rfl, by omega⟩
  have hdec : decodeL bs = (cfg, (readProgs n b2).1, (readProgs n b2).2) := by
    simp only [decodeL, hcf, hbq, hb2e, hz0, ← hn2]
  simp only [← hn1]
  clear step
  refine Lp_of (fun k l h => ∃ (i : Nat) (t' : Frag) (x3 : Value) (vals : List Value) (ps : List (List Int)) (bs' : List Int), k = n - i ∧ i ≤ n ∧ l = [x3, vi i] ∧ Sub t t' ∧ Sat (ownS x3 1 vals :: Rd r (.slice a n0 c) bs bs' :: pt C (.cells (ints .i64 cfg)) :: pt D (.cells (ints .i64 [0, 0, 0, 0, 0, 0])) :: hm t' :: R) h ∧
      Bytes bs' ∧ vals.length = i ∧ All2 (fun p c => View t' 4 (ints .i64 p) c) ps vals ∧ ps ++ (readProgs (n - i) bs').1 = (readProgs n b2).1 ∧ (readProgs (n - i) bs').2 = (readProgs n b2).2)
    n ⟨0, t, vn, [], [], b2, rfl, by omega, rfl, Sub.refl _, (hh.re [0, 2, 3, 1]).own_nil, hb2, rfl, .nil, by simp, rfl⟩ ?_
  clear hh hb2
  rintro k l h K ⟨i, t', x3, vals, ps, bs', rfl, hin, rfl, hsub, hh, hb', hvl, hall, q1, q2⟩ hK
  try simp
  refine If_d (fun hlt => ?_) (fun hge => ?_)
  · have e1 : n - i = (n - (i + 1)) + 1 := by omega
    rw [e1] at q1 q2
    simp only [readProgs] at q1 q2
    refine (rnext_ok (hh.re [1, 4]) (hv.sub hsub) hb hbl).mono ?_
    rintro _ h ⟨rfl, hh⟩
    have hb3 := hb'.tail
    have hz := hb'.head
    simp [rem_nat hz.1 (show (0 : Int) < 33 by omega)]
    generalize bs'.tail = b3 at *
    generalize hd0 bs' = z1 at *
    obtain ⟨m, hm1, hm2, hm33⟩ : ∃ m : Nat, (m : Int) = z1 % 33 ∧ m = (z1 % 33).toNat ∧ m < 33 := ⟨(z1 % 33).toNat, by omega, rfl, by omega⟩
    rw [← hm2] at q1 q2
    simp only [← hm1]
    refine Lp_of (fun k l h => ∃ (j : Nat) (x8 : Value) (p : List Int) (bs' : List Int), k = m - j ∧ j ≤ m ∧ l = [x8, vi j] ∧ Sat (ownS x8 4 (ints .i64 p) :: ownS x3 1 vals :: Rd r (.slice a n0 c) bs bs' :: pt C (.cells (ints .i64 cfg)) :: pt D (.cells (ints .i64 [0, 0, 0, 0, 0, 0])) :: hm t' :: R) h ∧
        Bytes bs' ∧ p.length = j * 4 ∧ p ++ (readOps (m - j) bs').1 = (readOps m b3).1 ∧ (readOps (m - j) bs').2 = (readOps m b3).2)
      m ⟨0, vn, [], b3, rfl, by omega, rfl, (hh.re [2, 0, 3, 4, 1]).own_nil, hb3, rfl, by simp, rfl⟩ ?_
    clear hh hb3 hb'
    rintro k l h K' ⟨j, x8, p, bs', rfl, hjm, rfl, hh, hb', hpl, r1, r2⟩ hK'
    try simp
    refine If_d (fun hlt => ?_) (fun hge => ?_)
    · have e1 : m - j = (m - (j + 1)) + 1 := by omega
      generalize hbs0 : bs' = bs0 at *
      rw [e1] at r1 r2
      simp only [readOps] at r1 r2
      refine Ly_al hh fun O h hh => ?_
      try simp
      refine (rnext_ok (hh.re [3, 6]) (hv.sub hsub) hb hbl).mono ?_
      rintro _ h ⟨rfl, hh⟩
      have hz := hb'.head
      simp [rem_nat hz.1 (show (0 : Int) < 5 by omega)]
      refine PH_st1 hh.pull2 rfl rfl (by simp) fun h hh => ?_
      try simp
      have hh := hh.re [1, 2, 0]
      refine (rnext_ok hh (hv.sub hsub) hb hbl).mono ?_
      rintro _ h ⟨rfl, hh⟩
      refine PH_st1 hh.pull2 rfl rfl (by simp) fun h hh => ?_
      have hh := hh.re [1, 2, 0]
      refine (rnext_ok hh (hv.sub hsub) hb hbl).mono ?_
      rintro _ h ⟨rfl, hh⟩
      refine PH_st1 hh.pull2 rfl rfl (by simp) fun h hh => ?_
      have hh := hh.re [1, 2, 0]
      refine (rnext_ok hh (hv.sub hsub) hb hbl).mono ?_
      rintro _ h ⟨rfl, hh⟩
      refine PH_st1 hh.pull2 rfl rfl (by simp) fun h hh => ?_
      have hh : Sat (pt O (.cells (ints .i64 (hd0 bs0 % 5 :: (readN 3 bs0.tail).1))) :: Rd r (.slice a n0 c) bs (readN 3 bs0.tail).2 :: hm t' :: ownS x8 4 (ints .i64 p) :: ownS x3 1 vals :: pt C (.cells (ints .i64 cfg)) :: pt D (.cells (ints .i64 [0, 0, 0, 0, 0, 0])) :: R) h := hh
      have hb4 : Bytes (readN 3 bs0.tail).2 := (Bytes.readN hb'.tail).2
      have hl3 : (readN 3 bs0.tail).1.length = 3 := rfl
      generalize (readN 3 bs0.tail).1 = c3 at *
      generalize (readN 3 bs0.tail).2 = b4 at *
      have hcells : h.cellsAt O 0 4 = some (ints .i64 (hd0 bs0 % 5 :: c3)) := by
        rw [cellsAt_of hh.cells]
        exact takeN_eq (by simp [ints, hl3])
      simp [hcells]
      refine Ly_b1 hh rfl rfl (by simp [ints, hl3]) rfl fun E h hh => ?_
      refine PH_ap (n := j) (m := 1) (hh.re [0, 4]) (by omega) (by simp [ints, hl3]) (by simp [ints, hpl]) (by omega) (by omega) fun x8' h hh => ?_
      simp [wr_succ (show j < 4611686018427387904 by omega)]
      simp only [cellsOf_agg, ints_app] at hh
      refine hK' _ _ _ (show m - (j + 1) < m - j by omega) ⟨j + 1, x8', p ++ (hd0 bs0 % 5 :: c3), b4, rfl, by omega, by simp, (hh.re [0, 5, 3, 6, 7, 4]).pull7.tail.pull6.tail, hb4, by simp [hl3, hpl]; omega, ?_, ?_⟩
      · rw [← r1]; simp
      · rw [← r2]
    · have hj : j = m := by omega
      subst hj
      simp only [Nat.sub_self, readOps, List.append_nil] at r1 r2
      clear hK'
      obtain ⟨t2, hs2, hh, hview⟩ := Sat.seenS (hh.re [0, 5])
      obtain ⟨a8, n8, c8, rfl, _⟩ := hview.ex
      refine Ly_b1 hh rfl rfl rfl rfl fun E h hh => ?_
      refine PH_ap (n := i) (m := 1) (hh.re [0, 2]) (by omega) rfl (by simp [hvl]) (by omega) (by omega) fun x3' h hh => ?_
      simp [wr_succ (show i < 4611686018427387904 by omega)]
      refine hK _ _ _ (show n - (i + 1) < n - i by omega) ⟨i + 1, t2, x3', _, ps ++ [p], bs', rfl, by omega, by simp, hsub.trans hs2, (hh.re [0, 3, 4, 5, 2]).drop5, hb', by simp [hvl], hall.app1 (fun _ _ hv => hv.sub hs2) hview, ?_, ?_⟩
      · rw [← q1, r1, ← r2]; simp
      · rw [← q2, ← r2]
  · have hin : i = n := by omega
    subst hin
    simp only [Nat.sub_self, readProgs, List.append_nil] at q1 q2
    clear hK
    have hlen : bs'.length ≤ 16777216 := by
      have h1 := readProgs_len i b2
      have h2 := readN_len 6 bs
      rw [hbq] at h2
      rw [← q2] at h1
      have h3 : b2.length ≤ b1.length := by rw [← hb2e]; simp
      omega
    refine Lp_of (fun k l h => ∃ (t2 : Frag) (x4 : Value) (ds : List Int) (bs2 : List Int), k = bs2.length ∧ l = [x4] ∧ Sub t t2 ∧ Sat (ownS x4 1 (ints .i64 ds) :: Rd r (.slice a n0 c) bs bs2 :: pt C (.cells (ints .i64 cfg)) :: pt D (.cells (ints .i64 [0, 0, 0, 0, 0, 0])) :: hm t2 :: R) h ∧ View t2 1 vals x3 ∧
        Bytes bs2 ∧ All2 (fun p c => View t2 4 (ints .i64 p) c) ps vals ∧ ds ++ bs2 = bs' ∧ ds.length + bs2.length ≤ 16777216) bs'.length ?_ ?_
    · obtain ⟨t2, hs2, hh, hview⟩ := Sat.seenS (hh.re [0, 4])
      exact ⟨t2, vn, [], bs', rfl, rfl, hsub.trans hs2, (hh.re [1, 2, 3]).own_nil, hview, hb', hall.mono fun _ _ hv => hv.sub hs2, rfl, by simpa using hlen⟩
    · clear hh hall
      rintro k l h K ⟨t2, x4, ds, bs2, rfl, rfl, hs2, hh, hview, hb2, hall, q3, q4⟩ hK
      obtain ⟨pos, ⟨hp, he⟩, hh⟩ := Rd_open.1 hh.pull1
      simp [cell_of hh.cells]
      refine If_d (fun hlt => ?_) (fun hge => ?_)
      · obtain ⟨z, bs3, hz⟩ : ∃ z bs3, bs2 = z :: bs3 := by
          cases bs2 with
          | nil => have := congrArg List.length he; simp at this; omega
          | cons z bs' => exact ⟨z, bs', rfl⟩
        rw [hz] at he q3 q4 hb2
        have hh : Sat (Rd r (.slice a n0 c) bs (z :: bs3) :: ownS x4 1 (ints .i64 ds) :: pt C (.cells (ints .i64 cfg)) :: pt D (.cells (ints .i64 [0, 0, 0, 0, 0, 0])) :: hm t2 :: R) h := Rd_open.2 ⟨pos, ⟨hp, he⟩, hh⟩
        refine (rnext_ok (hh.re [0, 4]) (hv.sub hs2) hb hbl).mono ?_
        rintro _ h ⟨rfl, hh⟩
        refine Ly_b1 hh rfl rfl rfl rfl fun E h hh => ?_
        refine PH_ap (n := ds.length) (m := 1) (hh.re [0, 3]) (by omega) rfl (by simp [ints]) (by simp at q4; omega) (by simp at q4; omega) fun x4' h hh => ?_
        refine hK _ _ _ (show bs3.length < bs2.length by rw [hz]; simp) ⟨t2, x4', ds ++ [z], bs3, rfl, rfl, hs2, ?_, hview, hb2.tail, hall, by rw [← q3]; simp, by simp at q4 ⊢; omega⟩
        simpa [ints, hd0] using (hh.re [0, 2, 4, 5, 3]).drop5
      · have hb0 : bs2 = [] := by rw [← he]; exact List.drop_of_length_le (by omega)
        rw [hb0, List.append_nil] at q3
        rw [q3] at hh
        have hcfl : cfg.length = 6 := by rw [← hcf]; rfl
        have hcf6 : h.cellsAt C 0 6 = some (ints .i64 cfg) := by
          rw [cellsAt_of hh.pull2.cells]; exact takeN_eq (by simp [ints, hcfl])
        simp [hcf6]
        refine PH_st (ws := ints .i64 cfg) hh.pull3 rfl rfl (by simp [ints, hcfl]) (by simp [ints, hcfl]) fun h hh => ?_
        rw [setMany_0 (by simp [ints, hcfl])] at hh
        have hcf6 : h.cellsAt D 0 6 = some (ints .i64 cfg) := by
          rw [cellsAt_of hh.cells]; exact takeN_eq (by simp [ints, hcfl])
        obtain ⟨t3, hs3, hh, hview2⟩ := Sat.seenS (hh.re [2, 4])
        obtain ⟨xa, xn, xc, rfl, _⟩ := hview2.ex
        obtain ⟨ya, yn, yc, rfl, _⟩ := hview.ex
        simp [hcf6]
        refine hQ _ _ ⟨t3, _, _, vals, by rw [hdec], (hs2.trans hs3), hh.drop1.drop1.drop1, hview.sub hs3, by rw [hdec]; simpa [q1] using hall.mono fun _ _ hv => hv.sub hs3, by rw [hdec]; simpa [q2] using hview2⟩
end Go.Proofs.YtgnmjfnkibbnkaaGreatDoor
namespace Go.Proofs.PantryEng
open Go
def fitB (most z : Int) : Prop := 0 ≤ z ∧ z ≤ most
theorem bad_of {its : List WItem} {m z : Int} (h : (m, z) ∈ its) (hz : ¬ fitB m z) : badI its = true := by
  cases hb : badI its with
  | true => rfl
  | false => exact absurd (badI_false.1 hb _ h) hz
theorem good_of {its : List WItem} (h : ∀ m z, (m, z) ∈ its → fitB m z) : badI its = false := badI_false.2 fun x hx => h x.1 x.2 hx
theorem ViewP.getT {t : Frag} {ps : List (List Int)} {a : Option Addr} {n c : Nat} (hv : ViewP t ps (.slice a n c)) {i : Nat} (hi : i < n) :
    ∃ b o cs p w, a = some ⟨b, o, none⟩ ∧ tcells t b = some cs ∧ cs[o + i]? = some w ∧ ps[i]? = some p ∧ View t 4 (ints .i64 p) w := by
  obtain ⟨vals, h1, h2⟩ := hv
  obtain ⟨_, _, _, e, h3, h4⟩ := h1.ex
  injection e with e1 e2 e3
  subst e1; subst e2; subst e3
  have hl := h2.length
  rcases h4 with ⟨rfl, _⟩ | ⟨b, o, cs, rfl, h5, h6⟩
  · simp at h3; omega
  · have hp : i < ps.length := by omega
    obtain ⟨w, h7, h8⟩ := h2.get (List.getElem?_eq_getElem hp)
    exact ⟨b, o, cs, _, w, rfl, h5, by rw [h6 i (by omega), h7], List.getElem?_eq_getElem hp, h8⟩
end Go.Proofs.PantryEng
namespace Go.Proofs.YtgnmjfnkibbnkaaGreatDoor
open Go Go.Proofs.PantryEng
set_option maxRecDepth 100000
set_option linter.unusedSimpArgs false
variable {h : AHeap} {t : Frag} {R : List SL}
theorem rbyte_ok (z : Int) (h : AHeap) : Ensures prW n_pantryref26_byteOf [vi z] h fun v h' => v = vb (decide (0 ≤ z ∧ z ≤ 255)) ∧ h' = h := by
  refine gen fun Q hQ => ?_
  apply e_pantryref26_byteOf
  unfold w_pantryref26_byteOf
  by_cases h1 : 0 ≤ z
  · by_cases h2 : z ≤ 255
    · simp [h1, h2]; exact hQ _ _ ⟨by simp [h1, h2], rfl⟩
    · simp [h1, h2]; exact hQ _ _ ⟨by simp [h2], rfl⟩
  · simp [h1]; exact hQ _ _ ⟨by simp [h1], rfl⟩

theorem rencode_ok {cfg : List Int} {ps : List (List Int)} {l : List Int} {pv lv : Value} (hh : Sat (hm t :: R) h) (hc : cfg.length = 6) (hp : ViewP t ps pv) (hl : View t 1 (ints .i64 l) lv) (hb : (items cfg ps l).length ≤ 16777216) :
    Ensures prW n_pantryref26_Encode [.agg ⟨ints .i64 cfg⟩, pv, lv] h (EncR t R (items cfg ps l)) := by
  refine gen fun Q hQ => ?_
  apply e_pantryref26_Encode
  unfold w_pantryref26_Encode
  obtain ⟨_, ⟨pa, pn, pc, rfl, _⟩, _⟩ := id hp
  obtain ⟨la, ln, lc, rfl, hll, _⟩ := hl.ex
  have hll : l.length = ln := by simpa [ints] using hll
  have hpl := hp.len
  refine Ly_bx hh rfl rfl fun c h hh => ?_
  obtain ⟨a0, a1, a2, a3, a4, a5, rfl⟩ := six hc
  simp only [cellsOf_agg] at hh
  have fail : ∀ {h : AHeap} {t' : Frag}, Sub t t' → Sat (hm t' :: R) h → badI (items [a0, a1, a2, a3, a4, a5] ps l) = true → Q (.tuple #[vn, vi 1]) h := fun hs hh hbad => hQ _ _ ⟨_, hs, hh, .inl ⟨hbad, rfl⟩⟩
  have hg := hh.cells
  have hbad : ∀ z, z ∈ [a0, a1, a2, a3, a4, a5] → ¬ (0 ≤ z ∧ z ≤ 255) → Q (.tuple #[vn, vi 1]) h := fun z hz hn => hQ _ _ ⟨t, Sub.refl _, hh.tail, .inl ⟨bad_of (m := 255) (z := z) (by simp only [items, List.mem_append, List.mem_map]; exact .inl ⟨z, hz, rfl⟩) hn, rfl⟩⟩
  have e0 := cell_of (o := 0) hg
  have e1 := cell_of (o := 1) hg
  have e2 := cell_of (o := 2) hg
  have e3 := cell_of (o := 3) hg
  have e4 := cell_of (o := 4) hg
  have e5 := cell_of (o := 5) hg
  simp [ints] at e0 e1 e2 e3 e4 e5
  simp [e0]
  refine (rbyte_ok a0 h).mono ?_
  rintro _ h' ⟨rfl, rfl⟩
  by_cases k0 : 0 ≤ a0 ∧ a0 ≤ 255
  case neg => simp [k0]; exact hbad a0 (by simp) k0
  simp [k0, e1]
  refine (rbyte_ok a1 h').mono ?_
  rintro _ h2 ⟨rfl, rfl⟩
  by_cases k1 : 0 ≤ a1 ∧ a1 ≤ 255
  case neg => simp [k1]; exact hbad a1 (by simp) k1
  simp [k1, e2]
  refine (rbyte_ok a2 h2).mono ?_
  rintro _ h3 ⟨rfl, rfl⟩
  by_cases k2 : 0 ≤ a2 ∧ a2 ≤ 255
  case neg => simp [k2]; exact hbad a2 (by simp) k2
  simp [k2, e3]
  refine (rbyte_ok a3 h3).mono ?_
  rintro _ h4 ⟨rfl, rfl⟩
  by_cases k3 : 0 ≤ a3 ∧ a3 ≤ 255
  case neg => simp [k3]; exact hbad a3 (by simp) k3
  simp [k3, e4]
  refine (rbyte_ok a4 h4).mono ?_
  rintro _ h5 ⟨rfl, rfl⟩
  by_cases k4 : 0 ≤ a4 ∧ a4 ≤ 255
  case neg => simp [k4]; exact hbad a4 (by simp) k4
  simp [k4, e5]
  refine (rbyte_ok a5 h5).mono ?_
  rintro _ h6 ⟨rfl, rfl⟩
  by_cases k5 : 0 ≤ a5 ∧ a5 ≤ 255
  case neg => simp [k5]; exact hbad a5 (by simp) k5
  simp [k5]
  by_cases k8 : (pn : Int) ≤ 8
  case neg =>
    simp [k8]
    exact hQ _ _ ⟨t, Sub.refl _, hh.tail, .inl ⟨bad_of (m := 8) (z := ps.length) (by simp [items]) (by unfold fitB; omega), rfl⟩⟩
  simp [k8, e0, e1, e2, e3, e4, e5]
  obtain ⟨base, hbase⟩ : ∃ base, base = tag 255 [a0, a1, a2, a3, a4, a5] ++ [(8, (pn : Int))] := ⟨_, rfl⟩
  have htot : items [a0, a1, a2, a3, a4, a5] ps l = base ++ (ps.flatMap itemsP ++ tag 255 l) := by rw [hbase]; simp [items, tag, hpl]
  have hbg : badI base = false := good_of fun m z hz => by
    rw [hbase] at hz
    simp only [tag, List.map_cons, List.map_nil, List.cons_append, List.nil_append, List.mem_cons, Prod.mk.injEq, List.not_mem_nil, or_false] at hz
    unfold fitB
    rcases hz with ⟨rfl, rfl⟩ | ⟨rfl, rfl⟩ | ⟨rfl, rfl⟩ | ⟨rfl, rfl⟩ | ⟨rfl, rfl⟩ | ⟨rfl, rfl⟩ | ⟨rfl, rfl⟩ <;> omega
  have hpn : pn ≤ 16777216 := by
    have := flat_len ps
    rw [htot] at hb
    simp only [List.length_append] at hb
    omega
  have hln : ln ≤ 16777216 := by
    rw [htot] at hb
    simp only [List.length_append, tag, List.length_map] at hb
    omega
  refine Ly_sat (x := .cells (ints .u8 (bytesI base))) (mk := fun b => vs b 0 7 2) hh.tail (by
    rw [hbase]; simp [evL, fillS, zeroMany, ints, bytesI, tag, wr_u8, lowB]) fun S h hh => ?_
  have hh := hh.own_of (size := 1) (n := 7) (by rw [hbase]; simp [ints, bytesI, tag])
  generalize hitems : items [a0, a1, a2, a3, a4, a5] ps l = its0 at *
  refine Lp_of (fun k l' h => ∃ (i : Nat) (t' : Frag) (its : List WItem) (o : Value), k = pn - i ∧ i ≤ pn ∧ l' = [vn, vi 0, o, vi i] ∧ Sub t t' ∧ Sat (ownS o 1 (ints .u8 (bytesI its)) :: hm t' :: R) h ∧ badI its = false ∧ its ++ ((ps.drop i).flatMap itemsP ++ tag 255 l) = its0)
    pn ⟨0, t, base, _, rfl, by omega, rfl, Sub.refl _, hh, hbg, by rw [htot]; rfl⟩ ?_
  clear hh
  rintro k l' h K ⟨i, t', its, o, rfl, hi, rfl, hs, hh, hg1, hits⟩ hK
  have hbound : ∀ {x y : List WItem}, x ++ y = its0 → x.length + y.length ≤ 16777216 := by
    intro x y e
    rw [← e, List.length_append] at hb
    exact hb
  simp
  refine If_d (fun hlt => ?_) (fun hge => ?_)
  · have hin : i < pn := by omega
    obtain ⟨b, o1, cs1, p, pw, rfl, htc, hcs1, hpi, hview⟩ := (hp.sub hs).getT hin
    have hcell := (cell_of (hh.tail.tcells htc)).trans hcs1
    obtain ⟨wa, wn, wc, rfl, hwl, _⟩ := hview.ex
    have hwl : p.length = wn * 4 := by simpa [ints] using hwl
    have hp4 : p.length / 4 = wn := by omega
    rw [one hpi] at hits
    simp only [List.flatMap_cons, itemsP, hp4] at hits
    rw [indexAddrV_nat hin]
    simp [hcell]
    by_cases w32 : (wn : Int) ≤ 32
    case neg =>
      simp [show (32 : Int) < wn by omega]
      exact fail hs hh.tail (bad_of (m := 32) (z := wn) (by rw [← hits]; simp) (by unfold fitB; omega))
    simp [show ¬ (32 : Int) < wn by omega]
    refine Ly_b1 hh rfl rfl rfl rfl fun S h hh => ?_
    refine PH_ap (n := its.length) (m := 1) hh (by omega) rfl (by simp [ints, bytesI_len]) (by have := hbound hits; omega) (by have := hbound hits; omega) fun o2 h hh => ?_
    have hh : Sat (ownS o2 1 (ints .u8 (bytesI (its ++ [(32, (wn : Int))]))) :: hm t' :: R) h := by
      have := hh.drop1
      simpa [ints, bytesI, wr_u8, lowB] using this
    have hg2 : badI (its ++ [(32, (wn : Int))]) = false := by rw [badI_app, hg1]; exact good_of fun m z hz => by simp at hz; unfold fitB; omega
    have hits' : (its ++ [(32, (wn : Int))]) ++ (itemsOps p ++ ((ps.drop (i + 1)).flatMap itemsP ++ tag 255 l)) = its0 := by rw [← hits]; simp
    generalize its ++ [(32, (wn : Int))] = its1 at *
    have hwn : wn ≤ 32 := by omega
    refine Lp_of (fun k l' h => ∃ (j : Nat) (its : List WItem) (o : Value), k = wn - j ∧ j ≤ wn ∧ l' = [vn, vi 0, o, vi j] ∧ Sat (ownS o 1 (ints .u8 (bytesI its)) :: hm t' :: R) h ∧ badI its = false ∧ its ++ (itemsOps (p.drop (j * 4)) ++ ((ps.drop (i + 1)).flatMap itemsP ++ tag 255 l)) = its0)
      wn ⟨0, its1, o2, rfl, by omega, rfl, hh, hg2, by rw [← hits']; simp⟩ ?_
    clear hh
    clear hcell
    rintro k l' h K' ⟨j, its2, o3, rfl, hj, rfl, hh, hg3, hits2⟩ hK'
    have hcell := (cell_of (hh.tail.tcells htc)).trans hcs1
    simp [hcell]
    refine If_d (fun hlt => ?_) (fun hge => ?_)
    · have hjn : j < wn := by omega
      obtain ⟨z0, z1, z2, z3, hd⟩ := four hwl hjn
      obtain ⟨b2, o4, rfl, hcs⟩ := hview.cellsAt hh.tail (by omega) hjn
      rw [ints_drop, hd] at hcs
      rw [hd] at hits2
      simp only [itemsOps] at hits2
      rw [indexAddrV_nat hjn]
      simp [hcs, ints]
      refine Ly_al hh fun O h hh => ?_
      refine PH_st hh rfl rfl rfl (by simp) fun h hh => ?_
      simp at hh
      have hg := hh.cells
      have f0 := cell_of (o := 0) hg
      have f1 := cell_of (o := 1) hg
      have f2 := cell_of (o := 2) hg
      have f3 := cell_of (o := 3) hg
      simp at f0 f1 f2 f3
      have m0 : ((4 : Int), z0) ∈ its0 := by rw [← hits2]; simp
      have m1 : ((255 : Int), z1) ∈ its0 := by rw [← hits2]; simp
      have m2 : ((255 : Int), z2) ∈ its0 := by rw [← hits2]; simp
      have m3 : ((255 : Int), z3) ∈ its0 := by rw [← hits2]; simp
      have hht : Sat (hm t' :: R) h := hh.tail.tail
      by_cases q0 : z0 < 0
      · simp [f0, q0]
        exact fail hs hht (bad_of m0 (by unfold fitB; omega))
      by_cases q1 : 4 < z0
      · simp [f0, q0, q1]
        exact fail hs hht (bad_of m0 (by unfold fitB; omega))
      simp [f0, q0, q1, f1]
      refine (rbyte_ok z1 h).mono ?_
      rintro _ h7 ⟨rfl, rfl⟩
      by_cases q2 : 0 ≤ z1 ∧ z1 ≤ 255
      case neg => simp [q2]; exact fail hs hht (bad_of m1 q2)
      simp [q2, f2]
      refine (rbyte_ok z2 h7).mono ?_
      rintro _ h8 ⟨rfl, rfl⟩
      by_cases q3 : 0 ≤ z2 ∧ z2 ≤ 255
      case neg => simp [q3]; exact fail hs hht (bad_of m2 q3)
      simp [q3, f3]
      refine (rbyte_ok z3 h8).mono ?_
      rintro _ h9 ⟨rfl, rfl⟩
      by_cases q4 : 0 ≤ z3 ∧ z3 ≤ 255
      case neg => simp [q4]; exact fail hs hht (bad_of m3 q4)
      simp [q4, f0, f1, f2, f3, wr_succ (show j < 4611686018427387904 by omega)]
      have hits3 : (its2 ++ [(4, z0), (255, z1), (255, z2), (255, z3)]) ++ (itemsOps (p.drop ((j + 1) * 4)) ++ ((ps.drop (i + 1)).flatMap itemsP ++ tag 255 l)) = its0 := by rw [← hits2]; simp
      refine Ly_sat (x := .cells (ints .u8 (bytesI [(4, z0), (255, z1), (255, z2), (255, z3)]))) (mk := fun b => vs b 0 4 2) hh.tail (by simp [evL, fillS, zeroMany, ints, bytesI, wr_u8, lowB]) fun S h hh => ?_
      have hbd := hbound hits3
      rw [List.length_append] at hbd
      refine PH_ap (n := its2.length) (m := 4) hh (by omega) (by simp [ints, bytesI]) (by simp [ints, bytesI_len]) (by simp at hbd; omega) (by simp at hbd; omega) fun o5 h hh => ?_
      rw [ints_app, ← bytesI_app] at hh
      refine hK' _ _ _ (show wn - (j + 1) < wn - j by omega) ⟨j + 1, _, o5, rfl, by omega, by simp, hh.drop1, ?_, hits3⟩
      rw [badI_app, hg3]
      exact good_of fun m z hz => by
        simp at hz
        unfold fitB
        omega
    · have hjn : j = wn := by omega
      rw [hjn, List.drop_of_length_le (by omega)] at hits2
      simp [wr_succ (show i < 4611686018427387904 by omega)]
      exact hK _ _ _ (show pn - (i + 1) < pn - i by omega) ⟨i + 1, t', its2, o3, rfl, by omega, by simp, hs, hh, hg3, by rw [← hits2]; simp [itemsOps]⟩
  · have hin : i = pn := by omega
    rw [hin, List.drop_of_length_le (by omega)] at hits
    simp only [List.flatMap_nil, List.nil_append] at hits
    clear hK
    refine Lp_of (fun k l' h => ∃ (j : Nat) (its : List WItem) (o : Value), k = ln - j ∧ j ≤ ln ∧ l' = [vn, vi 0, o, vi j] ∧ Sat (ownS o 1 (ints .u8 (bytesI its)) :: hm t' :: R) h ∧ badI its = false ∧ its ++ tag 255 (l.drop j) = its0) ln ⟨0, its, o, rfl, by omega, rfl, hh, hg1, hits⟩ ?_
    clear hh
    rintro k l' h K ⟨j, its2, o3, rfl, hj, rfl, hh, hg3, hits2⟩ hK
    simp
    refine If_d (fun hlt => ?_) (fun hge => ?_)
    · have hjn : j < ln := by omega
      obtain ⟨b5, o5, rfl, hc5⟩ := (hl.sub hs).cell hh.tail hjn
      obtain ⟨z, hz⟩ : ∃ z, l[j]? = some z := ⟨_, List.getElem?_eq_getElem (by omega)⟩
      rw [ints_get, hz] at hc5
      simp only [Option.map_some, Nat.mul_one] at hc5
      rw [one hz] at hits2
      rw [indexAddrV_nat hjn]
      simp [hc5]
      refine (rbyte_ok z h).mono ?_
      rintro _ h9 ⟨rfl, rfl⟩
      by_cases q4 : 0 ≤ z ∧ z ≤ 255
      case neg => simp [q4]; exact fail hs hh.tail (bad_of (m := 255) (z := z) (by rw [← hits2]; simp [tag]) q4)
      simp [q4, hc5, wr_succ (show j < 4611686018427387904 by omega)]
      have hits3 : (its2 ++ [(255, z)]) ++ tag 255 (l.drop (j + 1)) = its0 := by rw [← hits2]; simp [tag]
      refine Ly_b1 hh rfl rfl rfl rfl fun S h hh => ?_
      have hbd := hbound hits3
      rw [List.length_append] at hbd
      refine PH_ap (n := its2.length) (m := 1) hh (by omega) rfl (by simp [ints, bytesI_len]) (by simp at hbd; omega) (by simp at hbd; omega) fun o6 h hh => ?_
      refine hK _ _ _ (show ln - (j + 1) < ln - j by omega) ⟨j + 1, its2 ++ [(255, z)], o6, rfl, by omega, by simp, ?_, ?_, hits3⟩
      · have := hh.drop1
        simpa [ints, bytesI, wr_u8, lowB] using this
      · rw [badI_app, hg3]
        exact good_of fun m z hz => by simp at hz; unfold fitB; omega
    · have hjn : j = ln := by omega
      rw [hjn, List.drop_of_length_le (by omega)] at hits2
      simp [tag] at hits2
      obtain ⟨t3, hs3, hh3, hv⟩ := Sat.seenS hh
      obtain ⟨oa, on, oc, rfl, _⟩ := hv.ex
      simp
      exact hQ _ _ ⟨t3, hs.trans hs3, hh3, .inr ⟨by rw [← hits2]; exact hg3, _, rfl, by rw [← hits2]; exact hv⟩⟩
end Go.Proofs.YtgnmjfnkibbnkaaGreatDoor
namespace Go.Proofs.PantryEng
open Go
def strB (bs : List Int) : ByteArray := ⟨⟨bs.map fun z => UInt8.ofNat z.toNat⟩⟩
theorem bytesOf_ints : ∀ bs : List Int, bytesOf? (ints .u8 bs) = some (bs.map fun z => UInt8.ofNat z.toNat) := by
  intro bs
  induction bs with
  | nil => rfl
  | cons z bs ih => simp only [ints, List.map_cons, bytesOf?] at ih ⊢; rw [ih]; rfl
/-- A slice whose bytes are a text's, from a table on. -/
def StrOK (t : Frag) (v : Value) (bs : List Int) : Prop := ∀ t' R h, Sub t t' → Sat (hm t' :: R) h → strOf h v = some (.string (strB bs))
theorem StrOK.sub {t t' : Frag} {v : Value} {bs : List Int} (h : StrOK t v bs) (hs : Sub t t') : StrOK t' v bs := fun t2 R h2 h3 h4 => h t2 R h2 (hs.trans h3) h4
theorem StrOK.nil (t : Frag) : StrOK t vn [] := fun _ _ _ _ _ => rfl
theorem StrOK.of {t : Frag} {b o n c : Nat} {cs : List Value} {bs : List Int} (hb : tcells t b = some cs) (hc : takeN n (cs.drop o) = some (ints .u8 bs)) : StrOK t (vs b o n c) bs := by
  intro t' R h hs hh
  simp only [strOf, cellsAt_of (hh.tcells (tcells_sub hs hb)), hc, Option.bind_some, bytesOf_ints, Option.map_some]
  rfl
theorem View.str {t : Frag} {v : Value} {bs : List Int} (hv : View t 1 (ints .u8 bs) v) (hne : bs ≠ []) : StrOK t v bs := by
  obtain ⟨a, n, c, rfl, hl, h3⟩ := hv.ex
  rcases h3 with ⟨h3, _⟩ | ⟨b, o, cs, rfl, h4, h5⟩
  · cases bs with
    | nil => exact absurd rfl hne
    | cons z bs => simp [ints] at h3
  · refine StrOK.of h4 ?_
    have : (cs.drop o).take n = ints .u8 bs := by
      apply List.ext_getElem?
      intro j
      rw [List.getElem?_take, List.getElem?_drop]
      split
      · rename_i hj; exact h5 j (by omega)
      · rename_i hj; rw [List.getElem?_eq_none (by omega)]
    unfold takeN
    rw [this, if_pos (by omega)]
theorem Sat.seenB {t : Frag} {v : Value} {bs : List Int} {R : List SL} {h : AHeap} (hh : Sat (ownS v 1 (ints .u8 bs) :: hm t :: R) h) : ∃ t', Sub t t' ∧ Sat (hm t' :: R) h ∧ View t' 1 (ints .u8 bs) v ∧ StrOK t' v bs := by
  rcases hh.own_cases with ⟨rfl, h0, hs⟩ | ⟨b, n, rfl, hl, hs⟩
  · have : bs = [] := by cases bs with | nil => rfl | cons _ _ => simp [ints] at h0
    subst this
    exact ⟨t, Sub.refl _, hs, View.nil, StrOK.nil t⟩
  · have hn := hs.hnone
    have hb : PantryEng.tcells (hup t b (.cells (ints .u8 bs))) b = some (ints .u8 bs) := by simp [PantryEng.tcells, hup]
    refine ⟨hup t b (.cells (ints .u8 bs)), fun k o hk => ?_, hs.hin, View.of hb hl, StrOK.of hb (by rw [List.drop_zero]; exact takeN_eq (by omega))⟩
    unfold hup
    split
    · rename_i e; subst e; rw [hn] at hk; simp at hk
    · exact hk
theorem Shows.str {h : AHeap} {zs : List Int} {v : Value} (hs : Shows h .u8 1 zs v) {cs : List Value} (h0 : h.get 0 = some (.ro cs)) (hl : 1 ≤ cs.length) : StrOK h.get v zs := by
  rcases hs with ⟨rfl, rfl⟩ | ⟨rfl, rfl⟩ | ⟨b, len, rfl, _, hg, hl, _⟩
  · exact StrOK.nil _
  · exact StrOK.of (cs := cs) (by simp [tcells, h0]) (by simp [ints])
  · exact StrOK.of (cs := ints .u8 zs) (by simp [tcells, hg]) (by rw [List.drop_zero]; exact takeN_eq (by rw [ints_length]; omega))
theorem eqStr (s : ByteArray) : binV .eql (.string s) (.string s) = some (.bool true) := by simp [binV]
end Go.Proofs.PantryEng
namespace Go.Proofs.YtgnmjfnkibbnkaaGreatDoor
open Go Go.Proofs.PantryEng
set_option maxRecDepth 100000
set_option linter.unusedSimpArgs false
variable {h : AHeap} {t : Frag} {R : List SL}
theorem reads_ok {x0 x2 x3 : Value} {bs cfg l : List Int} {ps : List (List Int)} (hh : Sat (hm t :: R) h) (ht : t 0 = some tokT) (hv : View t 1 (ints .u8 bs) x0) (hstr : StrOK t x0 bs) (hb : Bytes bs) (hc : cfg.length = 6) (hp : ViewP t ps x2) (hl : View t 1 (ints .i64 l) x3) (hbd : (items cfg ps l).length ≤ 8388608) :
    Ensures prW n_pantrylaw26_ScriptReads [x0, .agg ⟨ints .i64 cfg⟩, x2, x3] h fun r _ => r = vb true := by
  refine gen fun Q hQ => ?_
  apply e_pantrylaw26_ScriptReads
  unfold w_pantrylaw26_ScriptReads
  obtain ⟨_, n0, _, rfl, hl0, _⟩ := hv.ex
  obtain ⟨_, ⟨_, n2, _, rfl, _⟩, _⟩ := id hp
  obtain ⟨_, n3, _, rfl, hl3, _⟩ := hl.ex
  have hl0 : bs.length = n0 := by simpa [ints] using hl0
  have fin : ∀ h, Q (vb true) h := fun h => hQ _ _ rfl
  refine Ly_bx hh rfl rfl fun C h hh => ?_
  refine (small_ok hh.pull1 ht).mono ?_
  rintro _ h' ⟨rfl, rfl⟩
  by_cases c1 : (2000 : Int) < n0
  · simp [c1]; exact fin _
  by_cases c2 : (20 : Int) < n2
  · simp [c1, c2]; exact fin _
  by_cases c3 : (300 : Int) < n3
  · simp [c1, c2, c3]; exact fin _
  simp [c1, c2, c3]
  refine Ly_sat (x := .cells []) (mk := fun b => vs b 0 0 2) hh.pull1 (by simp [evL, fillS, zeroMany]) fun E h hh => ?_
  refine PH_apV (n := 0) (hh.own_of (size := 1) (n := 0) rfl) (by omega) hv rfl (by omega) (by omega) fun y1 h hh => ?_
  obtain ⟨t1, hs1, hh, hvy, hstry⟩ := Sat.seenB (by simpa using hh)
  refine (decode_ok hh hvy hb (by omega)).mono ?_
  rintro _ h ⟨t2, p, q, vals, rfl, hs2, hh, hvp, hall, hvq⟩
  obtain ⟨d1, d2, d3⟩ := decode_fine hb
  obtain ⟨e1, e2, e3, e4⟩ := decode_len hb
  generalize hcf : (decodeL bs).1 = cf at *
  generalize hpf : (decodeL bs).2.1 = pf at *
  generalize hqf : (decodeL bs).2.2 = qf at *
  simp
  refine Ly_al hh fun D h hh => ?_
  refine PH_st (ws := ints .i64 cf) hh rfl rfl (by simp [ints, d1]) (by simp [ints, d1]) fun h hh => ?_
  rw [setMany_0 (by simp [ints, d1])] at hh
  refine (rdecode_ok hh.pull1 (hv.sub (hs1.trans hs2)) hb (by omega)).mono ?_
  rintro _ h ⟨t3, p', q', vals', rfl, hs3, hh, hvp', hall', hvq'⟩
  rw [hcf, hpf, hqf] at *
  simp
  refine Ly_al hh fun F h hh => ?_
  refine PH_st (ws := ints .i64 cf) hh rfl rfl (by simp [ints, d1]) (by simp [ints, d1]) fun h hh => ?_
  rw [setMany_0 (by simp [ints, d1])] at hh
  have hC : h.cellsAt C 0 6 = some (ints .i64 cfg) := by rw [cellsAt_of hh.pull3.cells]; exact takeN_eq (by simp [ints, hc])
  simp [hC]
  have hs13 := (hs1.trans hs2).trans hs3
  refine (encode_ok hh.pull1 hc (hp.sub hs13) (hl.sub hs13) (by omega)).mono ?_
  rintro r1 h ⟨t4, hs4, hh, hr1⟩
  have hx1 : ∃ x y, r1 = .tuple #[x, vi y] ∧ ((badI (items cfg ps l) = true ∧ x = vn ∧ y = 1) ∨ (badI (items cfg ps l) = false ∧ y = 0 ∧ View t4 1 (ints .u8 (bytesI (items cfg ps l))) x)) := by
    rcases hr1 with ⟨h1, rfl⟩ | ⟨h1, x, rfl, hvx⟩
    · exact ⟨_, _, rfl, .inl ⟨h1, rfl, rfl⟩⟩
    · exact ⟨_, _, rfl, .inr ⟨h1, rfl, hvx⟩⟩
  obtain ⟨x, ex, rfl, hx⟩ := hx1
  have hC : h.cellsAt C 0 6 = some (ints .i64 cfg) := by rw [cellsAt_of hh.pull3.cells]; exact takeN_eq (by simp [ints, hc])
  simp [hC]
  refine (rencode_ok hh hc ((hp.sub hs13).sub hs4) ((hl.sub hs13).sub hs4) (by omega)).mono ?_
  rintro r2 h ⟨t5, hs5, hh, hr2⟩
  have hx2 : ∃ x y, r2 = .tuple #[x, vi y] ∧ ((badI (items cfg ps l) = true ∧ x = vn ∧ y = 1) ∨ (badI (items cfg ps l) = false ∧ y = 0 ∧ View t5 1 (ints .u8 (bytesI (items cfg ps l))) x)) := by
    rcases hr2 with ⟨h1, rfl⟩ | ⟨h1, x, rfl, hvx⟩
    · exact ⟨_, _, rfl, .inl ⟨h1, rfl, rfl⟩⟩
    · exact ⟨_, _, rfl, .inr ⟨h1, rfl, hvx⟩⟩
  obtain ⟨y, ey, rfl, hy⟩ := hx2
  have hne : bytesI (items cfg ps l) ≠ [] := by
    intro e
    have := congrArg List.length e
    rw [bytesI_len] at this
    simp [items] at this
  have hsame : ∃ zs, StrOK t5 x zs ∧ StrOK t5 y zs ∧ ex = ey := by
    rcases hx with ⟨h1, rfl, rfl⟩ | ⟨h1, rfl, h2⟩
    · rcases hy with ⟨_, rfl, rfl⟩ | ⟨h3, _⟩
      · exact ⟨[], StrOK.nil _, StrOK.nil _, rfl⟩
      · rw [h1] at h3; simp at h3
    · rcases hy with ⟨h3, _⟩ | ⟨_, rfl, h4⟩
      · rw [h1] at h3; simp at h3
      · exact ⟨_, ((h2.str hne).sub hs5), h4.str hne, rfl⟩
  obtain ⟨zs, sx, sy, rfl⟩ := hsame
  have hF : h.cellsAt F 0 6 = some (ints .i64 cf) := by rw [cellsAt_of hh.pull1.cells]; exact takeN_eq (by simp [ints, d1])
  have hD : h.cellsAt D 0 6 = some (ints .i64 cf) := by rw [cellsAt_of hh.pull2.cells]; exact takeN_eq (by simp [ints, d1])
  simp [hF, hD, eq6 d1 d1]
  have hs35 := hs4.trans hs5
  have hs25 := hs3.trans hs35
  refine (progs_ok (a := pf) (b := pf) hh ⟨vals, hvp.sub hs25, hall.mono fun _ _ h => h.sub hs25⟩ ⟨vals', hvp'.sub hs35, hall'.mono fun _ _ h => h.sub hs35⟩ (by omega) (fun p hp => by have := e3 p hp; omega)).mono ?_
  rintro _ h2 ⟨rfl, rfl⟩
  simp
  refine (ints_ok (a := qf) (b := qf) hh (hvq.sub hs25) (hvq'.sub hs35) (by omega)).mono ?_
  rintro _ h3 ⟨rfl, rfl⟩
  simp [sx t5 _ _ (Sub.refl _) hh, sy t5 _ _ (Sub.refl _) hh, eqStr, (hstry.sub (hs2.trans hs25)) t5 _ _ (Sub.refl _) hh, (hstr.sub (hs1.trans (hs2.trans hs25))) t5 _ _ (Sub.refl _) hh]
  exact fin _
end Go.Proofs.YtgnmjfnkibbnkaaGreatDoor

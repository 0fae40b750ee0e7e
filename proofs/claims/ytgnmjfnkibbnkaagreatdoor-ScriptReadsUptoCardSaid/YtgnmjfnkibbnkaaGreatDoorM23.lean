/- The document's comparisons: rows of numbers, rows of programs. -/
import Derived.Test.YtgnmjfnkibbnkaaGreatDoorM22
set_option linter.unusedSimpArgs false
set_option linter.unusedVariables false
namespace Go.Proofs.PantryEng
open Go
def hd0 : List Int → Int
  | [] => 0
  | z :: _ => z
def Bytes (bs : List Int) : Prop := ∀ z ∈ bs, 0 ≤ z ∧ z ≤ 255
theorem Bytes.tail {bs : List Int} (h : Bytes bs) : Bytes bs.tail := fun z hz => h z (List.mem_of_mem_tail hz)
theorem Bytes.head {bs : List Int} (h : Bytes bs) : 0 ≤ hd0 bs ∧ hd0 bs ≤ 255 := by
  cases bs with
  | nil => simp [hd0]
  | cons z bs => exact h z (by simp)
theorem All2.app1 {α β : Type} {Q Q' : α → β → Prop} {l : List α} {m : List β} {a : α} {b : β} (h : All2 Q l m) (hQ : ∀ a b, Q a b → Q' a b) (hab : Q' a b) : All2 Q' (l ++ [a]) (m ++ [b]) := (h.mono hQ).append (.cons hab .nil)
theorem wr_succ {i : Nat} (h : i < 4611686018427387904) : wr .i64 ((i : Int) + 1) = (i : Int) + 1 := wr_small (by omega) (by omega)
/-! ### what bytes tell -/
def readN : Nat → List Int → List Int × List Int
  | 0, bs => ([], bs)
  | n + 1, bs => (hd0 bs :: (readN n bs.tail).1, (readN n bs.tail).2)
def readOps : Nat → List Int → List Int × List Int
  | 0, bs => ([], bs)
  | n + 1, bs => (hd0 bs % 5 :: ((readN 3 bs.tail).1 ++ (readOps n (readN 3 bs.tail).2).1), (readOps n (readN 3 bs.tail).2).2)
def readProgs : Nat → List Int → List (List Int) × List Int
  | 0, bs => ([], bs)
  | n + 1, bs => ((readOps (hd0 bs % 33).toNat bs.tail).1 :: (readProgs n (readOps (hd0 bs % 33).toNat bs.tail).2).1, (readProgs n (readOps (hd0 bs % 33).toNat bs.tail).2).2)
theorem readN_len : ∀ (n : Nat) (bs : List Int), (readN n bs).2.length ≤ bs.length := by
  intro n
  induction n with
  | zero => intro bs; exact Nat.le_refl _
  | succ n ih => intro bs; exact Nat.le_trans (ih bs.tail) (by simp)
theorem readOps_len : ∀ (n : Nat) (bs : List Int), (readOps n bs).2.length ≤ bs.length := by
  intro n
  induction n with
  | zero => intro bs; exact Nat.le_refl _
  | succ n ih => intro bs; exact Nat.le_trans (ih _) (Nat.le_trans (readN_len 3 _) (by simp))
theorem readProgs_len : ∀ (n : Nat) (bs : List Int), (readProgs n bs).2.length ≤ bs.length := by
  intro n
  induction n with
  | zero => intro bs; exact Nat.le_refl _
  | succ n ih => intro bs; exact Nat.le_trans (ih _) (Nat.le_trans (readOps_len _ _) (by simp))
/-- Configuration, programs, picks. -/
def decodeL (bs : List Int) : List Int × List (List Int) × List Int :=
  ((readN 6 bs).1, (readProgs (hd0 (readN 6 bs).2 % 9).toNat (readN 6 bs).2.tail).1, (readProgs (hd0 (readN 6 bs).2 % 9).toNat (readN 6 bs).2.tail).2)
end Go.Proofs.PantryEng
namespace Go.Proofs.YtgnmjfnkibbnkaaGreatDoor
open Go Go.Proofs.PantryEng
set_option maxRecDepth 100000
variable {h : AHeap} {t : Frag} {R : List SL}

theorem next_ok {box : Nat} {v : Value} {bs : List Int} (hh : Sat (pt box (.cells [v]) :: hm t :: R) h) (hv : View t 1 (ints .u8 bs) v) (hb : Bytes bs) :
    Ensures prW n_script_Decode_1 [vp box 0] h fun r h' => r = vi (hd0 bs) ∧ ∃ v', Sat (pt box (.cells [v']) :: hm t :: R) h' ∧ View t 1 (ints .u8 bs.tail) v' := by
  refine gen fun Q hQ => ?_
  apply e_script_Decode_1
  unfold w_script_Decode_1
  have hc := hh.cells
  obtain ⟨a, n, c, rfl, hl, _⟩ := hv.ex
  have hl' : bs.length = n := by simpa [ints] using hl
  simp [cell_of hc]
  refine If_d (fun hn => ?_) (fun hn => ?_)
  · have : bs = [] := List.length_eq_zero_iff.1 (by omega)
    subst this
    exact hQ _ _ ⟨rfl, _, hh, hv⟩
  · obtain ⟨z, bs', rfl⟩ : ∃ z bs', bs = z :: bs' := by
      cases bs with
      | nil => simp at hl'; omega
      | cons z bs' => exact ⟨z, bs', rfl⟩
    have hz := hb z (by simp)
    obtain ⟨b, o, rfl, hcell⟩ := hv.cell hh.tail (i := 0) (by omega)
    rw [indexAddrV_of (by omega) (by omega)]
    simp at hcell
    simp [hcell, ints, wr_small hz.1 (show z ≤ 9223372036854775807 by omega), sliceV_lo (show (0 : Int) ≤ 1 by omega) (show (1 : Int) ≤ n by omega)]
    refine PH_st1 hh rfl rfl (by simp) fun h hh => ?_
    have := hv.drop (k := 1) (c' := if c = 0 then 0 else 1) (by omega)
    exact hQ _ _ ⟨rfl, _, hh, by simpa [ints] using this⟩

theorem readN0 (bs : List Int) : readN 0 bs = ([], bs) := rfl
def ptrs6 (C : Nat) : List Value := [vp C 0, vp C 1, vp C 2, vp C 3, vp C 4, vp C 5]
theorem ptrs6_get {C i : Nat} (hi : i < 6) : (ptrs6 C)[i]? = some (vp C i) := by
  rcases i with _ | _ | _ | _ | _ | _ | i
  all_goals first | rfl | omega
def ptrs3 (C : Nat) : List Value := [vp C 1, vp C 2, vp C 3]
theorem ptrs3_get {C i : Nat} (hi : i < 3) : (ptrs3 C)[i]? = some (vp C (i + 1)) := by
  rcases i with _ | _ | _ | i
  all_goals first | rfl | omega
theorem readN_bytes : ∀ {n : Nat} {bs : List Int}, Bytes bs → Bytes (readN n bs).2 := by
  intro n
  induction n with
  | zero => intro bs h; exact h
  | succ n ih => intro bs h; exact ih h.tail
/-- Fields read one after another. -/
theorem fields_step {n i : Nat} {cs bs' : List Int} {q : List Int × List Int} (hi : i < n) (hl : cs.length = n) (q1 : cs.take i ++ (readN (n - i) bs').1 = q.1) (q2 : (readN (n - i) bs').2 = q.2) :
    (cs.set i (hd0 bs')).take (i + 1) ++ (readN (n - (i + 1)) bs'.tail).1 = q.1 ∧ (readN (n - (i + 1)) bs'.tail).2 = q.2 := by
  have e1 : n - i = (n - (i + 1)) + 1 := by omega
  rw [e1] at q1 q2
  simp only [readN] at q1 q2
  rw [← q1, ← q2]
  refine ⟨?_, rfl⟩
  rw [List.take_succ_eq_append_getElem (by simp; omega), List.take_set_of_le (by omega)]
  simp

structure DecodeR (t : Frag) (R : List SL) (bs : List Int) (r : Value) (h : AHeap) : Prop where
  ex : ∃ t' p q vals, r = .tuple #[.agg ⟨ints .i64 (decodeL bs).1⟩, p, q] ∧ Sub t t' ∧ Sat (hm t' :: R) h ∧ View t' 1 vals p ∧ All2 (fun p c => View t' 4 (ints .i64 p) c) (decodeL bs).2.1 vals ∧ View t' 1 (ints .i64 (decodeL bs).2.2) q


theorem decode_ok {v : Value} {bs : List Int} (hh : Sat (hm t :: R) h) (hv : View t 1 (ints .u8 bs) v) (hb : Bytes bs) (hbl : bs.length ≤ 16777216) :
    Ensures prW n_script_Decode [v] h (DecodeR t R bs) := by
  refine gen fun Q hQ => ?_
  apply e_script_Decode
  unfold w_script_Decode
  obtain ⟨a, n, c, rfl, hl, _⟩ := hv.ex
  refine Ly_bx hh rfl rfl fun B h hh => ?_
  refine Ly_al hh fun C h hh => ?_
  simp
  refine Ly_sat (x := .cells (ptrs6 C)) (mk := fun b => vs b 0 6 2) hh (by simp [evL, fillS, zeroMany, ptrs6]) fun S h hh => ?_
  simp
  have hh : Sat (pt B (.cells [.slice a n c]) :: pt C (.cells (ints .i64 [0, 0, 0, 0, 0, 0])) :: pt S (.cells (ptrs6 C)) :: hm t :: R) h := hh.pull1.pull2
  refine Lp_of (fun k l h => ∃ (i : Nat) (cs bs' : List Int) (v : Value), k = 6 - i ∧ i ≤ 6 ∧ l = [vi i] ∧ Sat (pt B (.cells [v]) :: pt C (.cells (ints .i64 cs)) :: pt S (.cells (ptrs6 C)) :: hm t :: R) h ∧ View t 1 (ints .u8 bs') v ∧ Bytes bs' ∧ cs.length = 6 ∧ cs.take i ++ (readN (6 - i) bs').1 = (readN 6 bs).1 ∧ (readN (6 - i) bs').2 = (readN 6 bs).2)
    6 ⟨0, [0, 0, 0, 0, 0, 0], bs, _, rfl, by omega, rfl, hh, hv, hb, rfl, by simp, rfl⟩ ?_
  clear hh hl hv hb
  rintro k l h K ⟨i, cs, bs', v, rfl, hi, rfl, hh, hv, hb', hcl, q1, q2⟩ hK
  simp
  refine If_d (fun hlt => ?_) (fun hge => ?_)
  · rw [indexAddrV_nat (by omega)]
    simp [cell_of hh.pull2.cells, ptrs6_get (show i < 6 by omega)]
    refine (next_ok hh.pull3.pull1 hv hb').mono ?_
    rintro _ h ⟨rfl, v, hh, hv⟩
    refine PH_st1 hh.pull2 rfl rfl (by simp [ints]; omega) fun h hh => ?_
    simp [wr_succ (show i < 4611686018427387904 by omega)]
    obtain ⟨q1, q2⟩ := fields_step (by omega) hcl q1 q2
    exact hK _ _ _ (by omega) ⟨i + 1, _, bs'.tail, v, rfl, by omega, by simp, by simpa [ints, List.map_set] using hh.pull3.pull1.pull2, hv, hb'.tail, by simp [hcl], q1, q2⟩
  · have hi6 : i = 6 := by omega
    subst hi6
    simp only [Nat.sub_self, readN0, List.append_nil, List.take_of_length_le (show cs.length ≤ 6 by omega)] at q1 q2
    subst q1; subst q2
    clear hK
    generalize hbq : (readN 6 bs).2 = b1 at *
    generalize hcf : (readN 6 bs).1 = cfg at *
    refine (next_ok hh.pull3.pull1 hv hb').mono ?_
    rintro _ h ⟨rfl, v, hh, hv⟩
    have hb2 := hb'.tail
    have hz := hb'.head
    simp [rem_nat hz.1 (show (0 : Int) < 9 by omega)]
    generalize hb2e : b1.tail = b2 at *
    generalize hz0 : hd0 b1 = z0 at *
    obtain ⟨n, hn1, hn2, hn9⟩ : ∃ n : Nat, (n : Int) = z0 % 9 ∧ n = (z0 % 9).toNat ∧ n < 9 := ⟨(z0 % 9).toNat, by omega, rfl, by omega⟩
    have hdec : decodeL bs = (cfg, (readProgs n b2).1, (readProgs n b2).2) := by
      simp only [decodeL, hcf, hbq, hb2e, hz0, ← hn2]
    simp only [← hn1]
    refine Lp_of (fun k l h => ∃ (i : Nat) (t' : Frag) (x3 : Value) (vals : List Value) (ps : List (List Int)) (v : Value) (bs' : List Int), k = n - i ∧ i ≤ n ∧ l = [x3, vi i] ∧ Sub t t' ∧ Sat (ownS x3 1 vals :: pt B (.cells [v]) :: pt C (.cells (ints .i64 cfg)) :: hm t' :: R) h ∧
        View t' 1 (ints .u8 bs') v ∧ Bytes bs' ∧ vals.length = i ∧ All2 (fun p c => View t' 4 (ints .i64 p) c) ps vals ∧ ps ++ (readProgs (n - i) bs').1 = (readProgs n b2).1 ∧ (readProgs (n - i) bs').2 = (readProgs n b2).2)
      n ⟨0, t, vn, [], [], v, b2, rfl, by omega, rfl, Sub.refl _, (hh.pull3.tail.re [0, 2, 1]).own_nil, hv, hb2, rfl, .nil, by simp, rfl⟩ ?_
    clear hh hv hb2
    rintro k l h K ⟨i, t', x3, vals, ps, v, bs', rfl, hin, rfl, hsub, hh, hv, hb', hvl, hall, q1, q2⟩ hK
    try simp
    refine If_d (fun hlt => ?_) (fun hge => ?_)
    · have e1 : n - i = (n - (i + 1)) + 1 := by omega
      rw [e1] at q1 q2
      simp only [readProgs] at q1 q2
      refine (next_ok hh.pull3.pull2 hv hb').mono ?_
      rintro _ h ⟨rfl, v, hh, hv⟩
      have hb3 := hb'.tail
      have hz := hb'.head
      simp [rem_nat hz.1 (show (0 : Int) < 33 by omega)]
      generalize bs'.tail = b3 at *
      generalize hd0 bs' = z1 at *
      obtain ⟨m, hm1, hm2, hm33⟩ : ∃ m : Nat, (m : Int) = z1 % 33 ∧ m = (z1 % 33).toNat ∧ m < 33 := ⟨(z1 % 33).toNat, by omega, rfl, by omega⟩
      rw [← hm2] at q1 q2
      simp only [← hm1]
      refine Lp_of (fun k l h => ∃ (j : Nat) (x8 : Value) (p : List Int) (v : Value) (bs' : List Int), k = m - j ∧ j ≤ m ∧ l = [x8, vi j] ∧ Sat (ownS x8 4 (ints .i64 p) :: ownS x3 1 vals :: pt B (.cells [v]) :: pt C (.cells (ints .i64 cfg)) :: hm t' :: R) h ∧
          View t' 1 (ints .u8 bs') v ∧ Bytes bs' ∧ p.length = j * 4 ∧ p ++ (readOps (m - j) bs').1 = (readOps m b3).1 ∧ (readOps (m - j) bs').2 = (readOps m b3).2)
        m ⟨0, vn, [], v, b3, rfl, by omega, rfl, (hh.re [2, 0, 3, 1]).own_nil, hv, hb3, rfl, by simp, rfl⟩ ?_
      clear hh hv hb3 hb'
      rintro k l h K' ⟨j, x8, p, v, bs', rfl, hjm, rfl, hh, hv, hb', hpl, r1, r2⟩ hK'
      generalize hbs0 : bs' = bs0 at *
      try simp
      refine If_d (fun hlt => ?_) (fun hge => ?_)
      · have e1 : m - j = (m - (j + 1)) + 1 := by omega
        rw [e1] at r1 r2
        simp only [readOps] at r1 r2
        refine Ly_al hh fun O h hh => ?_
        refine (next_ok hh.pull5.pull4 hv hb').mono ?_
        rintro _ h ⟨rfl, v, hh, hv⟩
        have hz := hb'.head
        have hb4 := hb'.tail
        simp [rem_nat hz.1 (show (0 : Int) < 5 by omega)]
        refine PH_st1 hh.pull2 rfl rfl (by simp) fun h hh => ?_
        try simp
        generalize bs0.tail = b4 at *
        refine Ly_sat (x := .cells (ptrs3 O)) (mk := fun b => vs b 0 3 2) hh (by simp [evL, fillS, zeroMany, ptrs3]) fun P3 h hh => ?_
        simp
        refine Lp_of (fun k l h => ∃ (i : Nat) (cs bs' : List Int) (v : Value), k = 3 - i ∧ i ≤ 3 ∧ l = [vi i] ∧ Sat (pt B (.cells [v]) :: pt O (.cells (ints .i64 (hd0 bs0 % 5 :: cs))) :: pt P3 (.cells (ptrs3 O)) :: ownS x8 4 (ints .i64 p) :: ownS x3 1 vals :: pt C (.cells (ints .i64 cfg)) :: hm t' :: R) h ∧ View t' 1 (ints .u8 bs') v ∧ Bytes bs' ∧ cs.length = 3 ∧ cs.take i ++ (readN (3 - i) bs').1 = (readN 3 b4).1 ∧ (readN (3 - i) bs').2 = (readN 3 b4).2)
          3 ⟨0, [0, 0, 0], b4, v, rfl, by omega, rfl, hh.re [2, 1, 0, 4, 5, 6, 3], hv, hb4, rfl, by simp, rfl⟩ ?_
        clear hh hv hb4 hb'
        rintro k l h K ⟨i, cs, bs', v, rfl, hi, rfl, hh, hv, hb', hcl, q1, q2⟩ hK
        simp
        refine If_d (fun hlt => ?_) (fun hge => ?_)
        · rw [indexAddrV_nat (by omega)]
          simp [cell_of hh.pull2.cells, ptrs3_get (show i < 3 by omega)]
          refine (next_ok (hh.re [0, 6]) hv hb').mono ?_
          rintro _ h ⟨rfl, v, hh, hv⟩
          refine PH_st1 hh.pull2 rfl rfl (by simp [ints]; omega) fun h hh => ?_
          simp [wr_succ (show i < 4611686018427387904 by omega)]
          obtain ⟨q1, q2⟩ := fields_step (by omega) hcl q1 q2
          exact hK _ _ _ (by omega) ⟨i + 1, cs.set i (hd0 bs'), bs'.tail, v, rfl, by omega, by simp, by simpa [ints, List.map_set] using hh.re [1, 0, 3, 4, 5, 6, 2], hv, hb'.tail, by simp [hcl], q1, q2⟩
        · have hi3 : i = 3 := by omega
          subst hi3
          simp only [Nat.sub_self, readN0, List.append_nil, List.take_of_length_le (show cs.length ≤ 3 by omega)] at q1 q2
          clear hK
          have hcells : h.cellsAt O 0 4 = some (ints .i64 (hd0 bs0 % 5 :: cs)) := by
            rw [cellsAt_of hh.pull1.cells]
            exact takeN_eq (by simp [ints, hcl])
          simp [hcells]
          refine Ly_b1 hh rfl rfl (by simp [ints, hcl]) rfl fun E h hh => ?_
          refine PH_ap (n := j) (m := 1) (hh.re [0, 4]) (by omega) (by simp [ints, hcl]) (by simp [ints, hpl]) (by omega) (by omega) fun x8' h hh => ?_
          simp [wr_succ (show j < 4611686018427387904 by omega)]
          simp only [cellsOf_agg, ints_app] at hh
          refine hK' _ _ _ (show m - (j + 1) < m - j by omega) ⟨j + 1, x8', p ++ (hd0 bs0 % 5 :: cs), v, bs', rfl, by omega, by simp, (hh.re [0, 5, 2, 6, 7]).drop5.drop5.drop5, hv, hb', by simp [hcl, hpl]; omega, ?_, ?_⟩
          · rw [← r1, q2, q1]; simp
          · rw [← r2, q2]
      · have hj : j = m := by omega
        subst hj
        simp only [Nat.sub_self, readOps, List.append_nil] at r1 r2
        clear hK'
        subst hbs0
        obtain ⟨t2, hs2, hh, hview⟩ := Sat.seenS (hh.re [0, 4])
        obtain ⟨a8, n8, c8, rfl, _⟩ := hview.ex
        refine Ly_b1 hh rfl rfl rfl rfl fun E h hh => ?_
        refine PH_ap (n := i) (m := 1) (hh.re [0, 2]) (by omega) rfl (by simp [hvl]) (by omega) (by omega) fun x3' h hh => ?_
        simp [wr_succ (show i < 4611686018427387904 by omega)]
        refine hK _ _ _ (show n - (i + 1) < n - i by omega) ⟨i + 1, t2, x3', _, ps ++ [p], v, bs', rfl, by omega, by simp, hsub.trans hs2, (hh.re [0, 3, 4, 2]).drop4, hv.sub hs2, hb', by simp [hvl], hall.app1 (fun _ _ hv => hv.sub hs2) hview, ?_, ?_⟩
        · rw [← q1, r1, ← r2]; simp
        · rw [← q2, ← r2]
    · have hin : i = n := by omega
      subst hin
      simp only [Nat.sub_self, readProgs, List.append_nil] at q1 q2
      clear hK
      have hlen : bs'.length ≤ 16777216 := by
        have h1 := readProgs_len i b2
        have h2 := readN_len 6 bs
        rw [hbq] at h2
        rw [← q2] at h1
        have h3 : b2.length ≤ b1.length := by rw [← hb2e]; simp
        omega
      refine Lp_of (fun k l h => ∃ (t2 : Frag) (x4 : Value) (ds : List Int) (v : Value) (bs2 : List Int), k = bs2.length ∧ l = [x4] ∧ Sub t t2 ∧ Sat (ownS x4 1 (ints .i64 ds) :: pt B (.cells [v]) :: pt C (.cells (ints .i64 cfg)) :: hm t2 :: R) h ∧ View t2 1 vals x3 ∧
          View t2 1 (ints .u8 bs2) v ∧ Bytes bs2 ∧ All2 (fun p c => View t2 4 (ints .i64 p) c) ps vals ∧ ds ++ bs2 = bs' ∧ ds.length + bs2.length ≤ 16777216) bs'.length ?_ ?_
      · obtain ⟨t2, hs2, hh, hview⟩ := Sat.seenS (hh.re [0, 3])
        exact ⟨t2, vn, [], v, bs', rfl, rfl, hsub.trans hs2, (hh.re [1, 2]).own_nil, hview, hv.sub hs2, hb', hall.mono fun _ _ hv => hv.sub hs2, rfl, by simpa using hlen⟩
      · clear hh hv hall
        rintro k l h K ⟨t2, x4, ds, v, bs2, rfl, rfl, hs2, hh, hview, hv, hb2, hall, q3, q4⟩ hK
        obtain ⟨va, vn', vc, rfl, hvl2, _⟩ := hv.ex
        have hvl2' : bs2.length = vn' := by simpa [ints] using hvl2
        simp [cell_of hh.pull1.cells]
        refine If_d (fun hlt => ?_) (fun hge => ?_)
        · obtain ⟨z, bs3, rfl⟩ : ∃ z bs3, bs2 = z :: bs3 := by
            cases bs2 with
            | nil => simp at hvl2'; omega
            | cons z bs' => exact ⟨z, bs', rfl⟩
          refine (next_ok (hh.re [1, 3]) hv hb2).mono ?_
          rintro _ h ⟨rfl, v, hh, hv⟩
          refine Ly_b1 hh rfl rfl rfl rfl fun E h hh => ?_
          refine PH_ap (n := ds.length) (m := 1) (hh.re [0, 3]) (by omega) rfl (by simp [ints]) (by simp at q4; omega) (by simp at q4; omega) fun x4' h hh => ?_
          exact hK _ _ _ (show bs3.length < (z :: bs3).length by simp) ⟨t2, x4', ds ++ [z], v, bs3, rfl, rfl, hs2, by simpa [ints, hd0] using (hh.re [0, 2, 4, 3]).drop4, hview, hv, hb2.tail, hall, by rw [← q3]; simp, by simp at q4 ⊢; omega⟩
        · have hb0 : bs2 = [] := List.length_eq_zero_iff.1 (by omega)
          subst hb0
          simp only [List.append_nil] at q3
          subst q3
          have hcfl : cfg.length = 6 := by
            rw [← hcf]; rfl
          have hcf6 : h.cellsAt C 0 6 = some (ints .i64 cfg) := by
            rw [cellsAt_of hh.pull2.cells]; exact takeN_eq (by simp [ints, hcfl])
          simp [hcf6]
          refine PH_st hh.pull2 rfl rfl (by simp [ints, hcfl]) (by simp [ints, hcfl]) fun h hh => ?_
          have e1 : setMany (ints .i64 cfg) 0 (cellsOf (.agg ⟨ints .i64 cfg⟩)) = ints .i64 cfg := setMany_0 rfl
          rw [e1] at hh
          have hcf6 : h.cellsAt C 0 6 = some (ints .i64 cfg) := by
            rw [cellsAt_of hh.cells]; exact takeN_eq (by simp [ints, hcfl])
          obtain ⟨t3, hs3, hh, hview2⟩ := Sat.seenS (hh.re [1, 3])
          obtain ⟨xa, xn, xc, rfl, _⟩ := hview2.ex
          obtain ⟨ya, yn, yc, rfl, _⟩ := hview.ex
          simp [hcf6]
          refine hQ _ _ ⟨t3, _, _, vals, by rw [hdec], (hs2.trans hs3), hh.drop1.drop1, hview.sub hs3, by rw [hdec]; simpa [q1] using hall.mono fun _ _ hv => hv.sub hs3, by rw [hdec]; simpa [q2] using hview2⟩
end Go.Proofs.YtgnmjfnkibbnkaaGreatDoor
namespace Go.Proofs.PantryEng
open Go
theorem wr_u8 (n : Int) : wr .u8 n = n % 256 := by
  have : wr .u8 n = IntKind.u8.wrap n := by cases n <;> rfl
  rw [this]
  simp [IntKind.wrap, IntKind.signed, IntKind.bits]
def lowB (z : Int) : Int := z % 256
def badB (most z : Int) : Bool := decide (z < 0) || decide (most < z)
end Go.Proofs.PantryEng
namespace Go.Proofs.YtgnmjfnkibbnkaaGreatDoor
open Go Go.Proofs.PantryEng
set_option maxRecDepth 100000
variable {h : AHeap} {t : Frag} {R : List SL}
theorem put_ok {w : Nat} {o l : Value} {bad : Bool} {most : Int} {outs zs : List Int} (hh : Sat (pt w (.cells [o, vb bad]) :: ownS o 1 (ints .u8 outs) :: hm t :: R) h) (hv : View t 1 (ints .i64 zs) l) (hl : outs.length + zs.length ≤ 33554432) :
    Ensures prW n_script_writer_put [vp w 0, vi most, l] h fun _ h' => ∃ o', Sat (pt w (.cells [o', vb (bad || zs.any (badB most))]) :: ownS o' 1 (ints .u8 (outs ++ zs.map lowB)) :: hm t :: R) h' := by
  refine gen fun Q hQ => ?_
  apply e_script_writer_put
  unfold w_script_writer_put
  obtain ⟨a, n, c, rfl, hvl, _⟩ := hv.ex
  have hvl : zs.length = n := by simpa [ints] using hvl
  simp
  refine Lp_of (fun k l h => ∃ (i : Nat) (o : Value), k = n - i ∧ i ≤ n ∧ l = [vi i] ∧ Sat (pt w (.cells [o, vb (bad || (zs.take i).any (badB most))]) :: ownS o 1 (ints .u8 (outs ++ (zs.take i).map lowB)) :: hm t :: R) h) n ⟨0, o, rfl, by omega, rfl, by simpa using hh⟩ ?_
  clear hh
  rintro k l h K ⟨i, o, rfl, hi, rfl, hh⟩ hK
  simp
  refine If_d (fun hlt => ?_) (fun hge => ?_)
  · have hin : i < n := by omega
    obtain ⟨b, o2, rfl, hcell⟩ := hv.cell hh.tail.tail hin
    have hz : zs[i]? = some zs[i] := List.getElem?_eq_getElem (by omega)
    generalize zs[i] = z at hz
    have e1 : zs.take (i + 1) = zs.take i ++ [z] := by rw [List.take_add_one, hz]; rfl
    rw [ints_get, hz] at hcell
    rw [indexAddrV_nat hin]
    generalize hbd : (bad || (zs.take i).any (badB most)) = bd at hh
    have hbd' : (bad || (zs.take (i + 1)).any (badB most)) = (bd || badB most z) := by rw [e1, List.any_append, ← Bool.or_assoc, hbd]; simp
    have fin : ∀ h, Sat (pt w (.cells [o, vb (bd || badB most z)]) :: ownS o 1 (ints .u8 (outs ++ (zs.take i).map lowB)) :: hm t :: R) h → Fl 0 (vp w 0) h (fun x34 => P (cvt .u8 (vi z)) fun x36 =>
        Ly (evL .nil (.buildSlice [(.int .u8 0)] 1 1 [(0, (.lit x36))])) h fun x37 h_8 => PH (apE 1 1 x34 x37 h_8) fun x38 h_9 => Fa 0 (vp w 0) fun x40 => PH (stE 1 x40 x38 h_9) fun _ h_10 => P (binV .add (vi i) (vi 1)) fun x41 => K [x41] h_10) := by
      intro h hh
      simp [cell_of hh.cells, wr_succ (show i < 4611686018427387904 by omega)]
      refine Ly_b1 hh rfl rfl rfl rfl fun E h hh => ?_
      refine PH_ap (n := outs.length + i) (m := 1) (hh.re [0, 2]) (by omega) rfl (by simp [ints]; omega) (by omega) (by omega) fun o' h hh => ?_
      obtain ⟨oa, on, oc, rfl, _⟩ := hh.own_slice
      refine PH_st1 hh.pull2 rfl rfl (by simp) fun h hh => ?_
      refine hK _ _ _ (show n - (i + 1) < n - i by omega) ⟨i + 1, .slice oa on oc, rfl, by omega, by simp, ?_⟩
      rw [hbd', e1]
      simpa [ints, wr_u8, lowB] using (hh.re [0, 1, 3]).drop3
    simp at hcell
    simp [hcell, cell_of hh.cells]
    have fl : ∀ {b' : Bool}, b' = (bd || badB most z) → Sat (pt w (.cells [o, vb b']) :: ownS o 1 (ints .u8 (outs ++ (zs.take i).map lowB)) :: hm t :: R) h → Sat (pt w (.cells [o, vb (bd || badB most z)]) :: ownS o 1 (ints .u8 (outs ++ (zs.take i).map lowB)) :: hm t :: R) h := fun e hh => e ▸ hh
    cases bd with
    | true =>
      simp
      refine PH_st1 hh rfl rfl (by simp) fun h hh => ?_
      have := fin h (by simpa using hh)
      simpa using this
    | false =>
      simp
      by_cases hz0 : z < 0
      · simp [hz0]
        refine PH_st1 hh rfl rfl (by simp) fun h hh => ?_
        have := fin h (by simpa [badB, hz0] using hh)
        simpa using this
      · by_cases hz1 : most < z
        · simp [hz0, hz1]
          refine PH_st1 hh rfl rfl (by simp) fun h hh => ?_
          have := fin h (by simpa [badB, hz0, hz1] using hh)
          simpa using this
        · simp [hz0, hz1]
          refine PH_st1 hh rfl rfl (by simp) fun h hh => ?_
          have := fin h (by simpa [badB, hz0, hz1] using hh)
          simpa using this
  · have hin : i = n := by omega
    subst hin
    rw [List.take_of_length_le (by omega)] at hh
    exact hQ _ _ ⟨_, hh⟩
end Go.Proofs.YtgnmjfnkibbnkaaGreatDoor
namespace Go.Proofs.PantryEng
open Go
/-- A row of rows. -/
def ViewP (t : Frag) (ps : List (List Int)) (v : Value) : Prop := ∃ vals, View t 1 vals v ∧ All2 (fun p c => View t 4 (ints .i64 p) c) ps vals
theorem ViewP.sub {t t' : Frag} {ps : List (List Int)} {v : Value} (h : ViewP t ps v) (hs : Sub t t') : ViewP t' ps v := by
  obtain ⟨vals, h1, h2⟩ := h
  exact ⟨vals, h1.sub hs, h2.mono fun _ _ h => h.sub hs⟩
theorem ViewP.len {t : Frag} {ps : List (List Int)} {a : Option Addr} {n c : Nat} (h : ViewP t ps (.slice a n c)) : ps.length = n := by
  obtain ⟨vals, h1, h2⟩ := h
  have := h1.len
  rw [h2.length]; omega
theorem ViewP.get {t : Frag} {ps : List (List Int)} {a : Option Addr} {n c : Nat} {R : List SL} {h : AHeap} (hv : ViewP t ps (.slice a n c)) (hh : Sat (hm t :: R) h) {i : Nat} (hi : i < n) :
    ∃ b o p w, a = some ⟨b, o, none⟩ ∧ h.cell b (o + i) = some w ∧ ps[i]? = some p ∧ View t 4 (ints .i64 p) w := by
  obtain ⟨vals, h1, h2⟩ := hv
  obtain ⟨b, o, h3, h4⟩ := h1.cell hh hi
  have hl := h1.len
  have hp : i < ps.length := by rw [h2.length]; omega
  obtain ⟨w, h5, h6⟩ := h2.get (List.getElem?_eq_getElem hp)
  rw [h5, Nat.mul_one] at h4
  exact ⟨b, o, _, w, h3, h4, List.getElem?_eq_getElem hp, h6⟩

abbrev WItem := Int × Int
def itemsOps : List Int → List WItem
  | d :: k :: v :: w :: rest => (4, d) :: (255, k) :: (255, v) :: (255, w) :: itemsOps rest
  | _ => []
def itemsP (p : List Int) : List WItem := (32, ((p.length / 4 : Nat) : Int)) :: itemsOps p
def items (cfg : List Int) (ps : List (List Int)) (l : List Int) : List WItem := cfg.map (fun z => (255, z)) ++ (8, (ps.length : Int)) :: (ps.flatMap itemsP ++ l.map fun z => (255, z))
def bytesI (its : List WItem) : List Int := its.map fun x => lowB x.2
def badI (its : List WItem) : Bool := its.any fun x => badB x.1 x.2
theorem bytesI_app (a b : List WItem) : bytesI (a ++ b) = bytesI a ++ bytesI b := by simp [bytesI]
theorem badI_app (a b : List WItem) : badI (a ++ b) = (badI a || badI b) := by simp [badI]
theorem bytesI_len (a : List WItem) : (bytesI a).length = a.length := by simp [bytesI]
def tag (most : Int) (zs : List Int) : List WItem := zs.map fun z => (most, z)
theorem bytesI_tag (m : Int) (zs : List Int) : bytesI (tag m zs) = zs.map lowB := by simp [bytesI, tag, Function.comp]
theorem badI_tag (m : Int) (zs : List Int) : badI (tag m zs) = zs.any (badB m) := by simp [badI, tag, List.any_map, Function.comp]; rfl
/-- A writer that has written some. -/
def Wr (w : Nat) (its : List WItem) : SL := ex fun o => many [pt w (.cells [o, vb (badI its)]), ownS o 1 (ints .u8 (bytesI its))]
theorem four {p : List Int} {n j : Nat} (hl : p.length = n * 4) (hj : j < n) : ∃ d k v w, p.drop (j * 4) = d :: k :: v :: w :: p.drop ((j + 1) * 4) := by
  have h1 : ∀ i, i < p.length → p.drop i = (p[i]?).getD 0 :: p.drop (i + 1) := fun i hi => by rw [List.getElem?_eq_getElem hi]; exact List.drop_eq_getElem_cons hi
  refine ⟨(p[j * 4]?).getD 0, (p[j * 4 + 1]?).getD 0, (p[j * 4 + 1 + 1]?).getD 0, (p[j * 4 + 1 + 1 + 1]?).getD 0, ?_⟩
  rw [h1 (j * 4) (by omega), h1 (j * 4 + 1) (by omega), h1 (j * 4 + 1 + 1) (by omega), h1 (j * 4 + 1 + 1 + 1) (by omega)]
  have : j * 4 + 1 + 1 + 1 + 1 = (j + 1) * 4 := by omega
  rw [this]
theorem one {α : Type} {p : List α} {j : Nat} {x : α} (h : p[j]? = some x) : p.drop j = x :: p.drop (j + 1) := by
  obtain ⟨h1, h2⟩ := List.getElem?_eq_some_iff.1 h
  rw [← h2]; exact List.drop_eq_getElem_cons h1
theorem flat_len : ∀ (ps : List (List Int)), ps.length ≤ (ps.flatMap itemsP).length := by
  intro ps
  induction ps with
  | nil => simp
  | cons p ps ih => simp only [List.flatMap_cons, List.length_append, itemsP, List.length_cons]; omega
theorem itemsOps_len : ∀ {n : Nat} {p : List Int}, p.length = n * 4 → (itemsOps p).length = n * 4 := by
  intro n
  induction n with
  | zero => intro p h; have := List.length_eq_zero_iff.1 (show p.length = 0 by omega); subst this; rfl
  | succ n ih =>
    intro p h
    match p, h with
    | [], h => simp only [List.length_nil] at h; omega
    | [_], h => simp only [List.length_cons, List.length_nil] at h; omega
    | [_, _], h => simp only [List.length_cons, List.length_nil] at h; omega
    | [_, _, _], h => simp only [List.length_cons, List.length_nil] at h; omega
    | a :: b :: c :: d :: rest, h =>
      simp only [itemsOps, List.length_cons] at h ⊢
      have := ih (p := rest) (by omega)
      omega
theorem six {cs : List Int} (h : cs.length = 6) : ∃ a b c d e f, cs = [a, b, c, d, e, f] := by
  match cs, h with
  | [a, b, c, d, e, f], _ => exact ⟨a, b, c, d, e, f, rfl⟩
end Go.Proofs.PantryEng
namespace Go.Proofs.YtgnmjfnkibbnkaaGreatDoor
open Go Go.Proofs.PantryEng
set_option maxRecDepth 100000
variable {h : AHeap} {t : Frag} {R : List SL}
theorem putI_ok {w : Nat} {l : Value} {most : Int} {its : List WItem} {zs : List Int} (hh : Sat (Wr w its :: hm t :: R) h) (hv : View t 1 (ints .i64 zs) l) (hl : its.length + zs.length ≤ 33554432) :
    Ensures prW n_script_writer_put [vp w 0, vi most, l] h fun _ h' => Sat (Wr w (its ++ tag most zs) :: hm t :: R) h' := by
  obtain ⟨o, hh⟩ := Sat_ex.1 hh
  have hh := Sat_many.1 hh
  refine (put_ok hh hv (by rw [bytesI_len]; exact hl)).mono ?_
  rintro _ h ⟨o', hh⟩
  refine Sat_ex.2 ⟨o', Sat_many.2 ?_⟩
  rw [badI_app, bytesI_app, bytesI_tag, badI_tag]
  exact hh
/-- What is put lies in a block of its own. -/
theorem putN_ok {w b n c : Nat} {most : Int} {its : List WItem} {zs : List Int} (hh : Sat (pt b (.cells (ints .i64 zs)) :: Wr w its :: hm t :: R) h) (hn : zs.length = n) (hl : its.length + zs.length ≤ 33554432) :
    Ensures prW n_script_writer_put [vp w 0, vi most, vs b 0 n c] h fun _ h' => ∃ t', Sub t t' ∧ Sat (Wr w (its ++ tag most zs) :: hm t' :: R) h' := by
  obtain ⟨t', hs, hh, hv⟩ := Sat.seen (size := 1) (n := n) (c := c) hh.pull2.pull1 (by simp [ints, hn])
  exact (putI_ok hh.pull1 hv hl).mono fun _ h hh => ⟨t', hs, hh⟩

def EncR (t : Frag) (R : List SL) (its : List WItem) (r : Value) (h : AHeap) : Prop :=
  ∃ t', Sub t t' ∧ Sat (hm t' :: R) h ∧ ((badI its = true ∧ r = .tuple #[vn, vi 1]) ∨ (badI its = false ∧ ∃ x, r = .tuple #[x, vi 0] ∧ View t' 1 (ints .u8 (bytesI its)) x))

theorem encode_ok {cfg : List Int} {ps : List (List Int)} {l : List Int} {pv lv : Value} (hh : Sat (hm t :: R) h) (hc : cfg.length = 6) (hp : ViewP t ps pv) (hl : View t 1 (ints .i64 l) lv) (hb : (items cfg ps l).length ≤ 16777216) :
    Ensures prW n_script_Encode [.agg ⟨ints .i64 cfg⟩, pv, lv] h (EncR t R (items cfg ps l)) := by
  refine gen fun Q hQ => ?_
  apply e_script_Encode
  unfold w_script_Encode
  obtain ⟨_, ⟨pa, pn, pc, rfl, _⟩, _⟩ := id hp
  have hpl := hp.len
  refine Ly_bx hh rfl rfl fun c h hh => ?_
  simp
  refine Ly_bx (cs := [vn, vb false]) hh rfl rfl fun w h hh => ?_
  obtain ⟨a0, a1, a2, a3, a4, a5, rfl⟩ := six hc
  simp only [cellsOf_agg] at hh
  have hg := hh.pull1.cells
  simp [cell_of hg, ints]
  refine Ly_sat (x := .cells (ints .i64 [a0, a1, a2, a3, a4, a5])) (mk := fun b => vs b 0 6 2) hh (by simp [evL, fillS, zeroMany, ints]) fun S h hh => ?_
  have hlen : (items [a0, a1, a2, a3, a4, a5] ps l).length = 6 + 1 + (ps.flatMap itemsP).length + l.length := by simp [items]; omega
  have hh : Sat (pt S (.cells (ints .i64 [a0, a1, a2, a3, a4, a5])) :: Wr w [] :: hm t :: R) h := by
    have := hh.drop2.own_nil (size := 1)
    refine Sat.pull1 (Sat_ex.2 ⟨vn, Sat_many.2 ?_⟩)
    exact this.re [2, 0, 1]
  refine (putN_ok hh rfl (by simp)).mono ?_
  rintro _ h ⟨t1, hs1, hh⟩
  try simp
  refine Ly_b1 hh rfl rfl rfl rfl fun S2 h hh => ?_
  refine (putN_ok (zs := [(pn : Int)]) hh rfl (by simp [tag])).mono ?_
  rintro _ h ⟨t2, hs2, hh⟩
  try simp
  have hs2 := hs1.trans hs2
  generalize hbase : [] ++ tag 255 [a0, a1, a2, a3, a4, a5] ++ tag 8 [(pn : Int)] = base at hh
  have htot : items [a0, a1, a2, a3, a4, a5] ps l = base ++ ps.flatMap itemsP ++ tag 255 l := by rw [← hbase]; simp [items, tag, hpl]
  refine Lp_of (fun k l h => ∃ (i : Nat) (t' : Frag) (its : List WItem), k = pn - i ∧ i ≤ pn ∧ l = [vi i] ∧ Sub t t' ∧ Sat (Wr w its :: hm t' :: R) h ∧ its ++ (ps.drop i).flatMap itemsP = base ++ ps.flatMap itemsP) pn ⟨0, t2, base, rfl, by omega, rfl, hs2, hh, by simp⟩ ?_
  clear hh hs2 hs1
  rintro k l' h K ⟨i, t', its, rfl, hi, rfl, hs, hh, hits⟩ hK
  have hbound : ∀ {x y : List WItem}, x ++ y = base ++ ps.flatMap itemsP → x.length + y.length ≤ 16777216 := by
    intro x y e
    have := congrArg List.length e
    rw [List.length_append] at this
    rw [htot] at hb
    rw [List.length_append] at hb
    omega
  have hpn : pn ≤ 16777216 := by
    have := flat_len ps
    rw [hlen] at hb
    omega
  simp
  refine If_d (fun hlt => ?_) (fun hge => ?_)
  · have hin : i < pn := by omega
    obtain ⟨b, o, p, pw, rfl, hcell, hpi, hview⟩ := (hp.sub hs).get hh.tail hin
    obtain ⟨wa, wn, wc, rfl, hwl, _⟩ := hview.ex
    have hwl : p.length = wn * 4 := by simpa [ints] using hwl
    have hp4 : p.length / 4 = wn := by omega
    rw [one hpi] at hits
    simp only [List.flatMap_cons, itemsP, hp4] at hits
    rw [indexAddrV_nat hin]
    simp [hcell]
    refine Ly_b1 hh rfl rfl rfl rfl fun S h hh => ?_
    refine (putN_ok (zs := [(wn : Int)]) hh rfl ?_).mono ?_
    · have := hbound hits; simp; omega
    rintro _ h ⟨t1, hs1, hh⟩
    have hits' : (its ++ tag 32 [(wn : Int)]) ++ (itemsOps p ++ (ps.drop (i + 1)).flatMap itemsP) = base ++ ps.flatMap itemsP := by rw [← hits]; simp [tag]
    generalize its ++ tag 32 [(wn : Int)] = its1 at *
    refine Lp_of (fun k l h => ∃ (j : Nat) (t2 : Frag) (its : List WItem), k = wn - j ∧ j ≤ wn ∧ l = [vi j] ∧ Sub t1 t2 ∧ Sat (Wr w its :: hm t2 :: R) h ∧ its ++ itemsOps (p.drop (j * 4)) = its1 ++ itemsOps p) wn ⟨0, t1, its1, rfl, by omega, rfl, Sub.refl _, hh, by simp⟩ ?_
    have hwn : wn ≤ 16777216 := by
      have := hbound hits'
      simp only [List.length_append, itemsOps_len hwl] at this
      omega
    clear hh
    rintro k l' h K' ⟨j, t2, its2, rfl, hj, rfl, hs2, hh, hits2⟩ hK'
    simp
    refine If_d (fun hlt => ?_) (fun hge => ?_)
    · have hjn : j < wn := by omega
      obtain ⟨z0, z1, z2, z3, hd⟩ := four hwl hjn
      have hview2 := (hview.sub hs1).sub hs2
      obtain ⟨b2, o2, rfl, hcs⟩ := hview2.cellsAt hh.tail (by omega) hjn
      rw [ints_drop, hd] at hcs
      rw [hd] at hits2
      simp only [itemsOps] at hits2
      rw [indexAddrV_nat hjn]
      simp [hcs, ints]
      refine Ly_al hh fun O h hh => ?_
      refine PH_st hh rfl rfl rfl (by simp) fun h hh => ?_
      simp at hh
      have hg := hh.cells
      simp [cell_of hg]
      have hb2 := hbound (x := its2) (y := (4, z0) :: (255, z1) :: (255, z2) :: (255, z3) :: itemsOps (p.drop ((j + 1) * 4)) ++ (ps.drop (i + 1)).flatMap itemsP) (by rw [← hits', ← List.append_assoc its1, ← hits2]; simp)
      refine Ly_b1 hh rfl rfl rfl rfl fun S h hh => ?_
      refine (putN_ok (zs := [z0]) (hh.re [0, 2, 3]) rfl (by simp; omega)).mono ?_
      rintro _ h ⟨t3, hs3, hh⟩
      have hh := hh.re [2, 0, 1]
      have hg := hh.cells
      simp [cell_of hg]
      refine Ly_sat (x := .cells (ints .i64 [z1, z2, z3])) (mk := fun b => vs b 0 3 2) hh (by simp [evL, fillS, zeroMany, ints]) fun S h hh => ?_
      refine (putN_ok (zs := [z1, z2, z3]) (hh.re [0, 2, 3]) rfl (by simp [tag]; omega)).mono ?_
      rintro _ h ⟨t4, hs4, hh⟩
      simp [wr_succ (show j < 4611686018427387904 by omega)]
      exact hK' _ _ _ (show wn - (j + 1) < wn - j by omega) ⟨j + 1, t4, _, rfl, by omega, by simp, (hs2.trans hs3).trans hs4, hh.drop2, by rw [← hits2]; simp [tag]⟩
    · have hjn : j = wn := by omega
      rw [hjn, List.drop_of_length_le (by omega)] at hits2
      simp [wr_succ (show i < 4611686018427387904 by omega)]
      exact hK _ _ _ (show pn - (i + 1) < pn - i by omega) ⟨i + 1, t2, its2, rfl, by omega, by simp, (hs.trans hs1).trans hs2, hh, by rw [← hits', ← List.append_assoc, ← hits2]; simp [itemsOps]⟩
  · have hin : i = pn := by omega
    rw [hin, List.drop_of_length_le (by omega)] at hits
    simp at hits
    refine (putI_ok hh (hl.sub hs) ?_).mono ?_
    · rw [htot, ← hits] at hb; simp [tag] at hb; omega
    rintro _ h hh
    rw [hits, ← htot] at hh
    obtain ⟨o, hh⟩ := Sat_ex.1 hh
    have hh := Sat_many.1 hh
    have hg := hh.cells
    simp [cell_of hg]
    generalize hits' : items [a0, a1, a2, a3, a4, a5] ps l = its at *
    cases hbad : badI its with
    | true =>
      simp
      exact hQ _ _ ⟨t', hs, hh.tail.tail, .inl ⟨hbad, rfl⟩⟩
    | false =>
      obtain ⟨t3, hs3, hh3, hv⟩ := Sat.seenS hh.tail
      obtain ⟨oa, on, oc, rfl, _⟩ := hv.ex
      simp [cell_of hg]
      exact hQ _ _ ⟨t3, hs.trans hs3, hh3, .inr ⟨hbad, _, rfl, hv⟩⟩
end Go.Proofs.YtgnmjfnkibbnkaaGreatDoor
namespace Go.Proofs.PantryEng
open Go
theorem take_eq_succ {α : Type} {a b : List α} {i : Nat} {x y : α} (h : a.take i = b.take i) (ha : a[i]? = some x) (hb : b[i]? = some y) : a.take (i + 1) = b.take (i + 1) ↔ x = y := by
  rw [List.take_add_one, List.take_add_one, ha, hb, h]
  simp
theorem take_ne {α : Type} {a b : List α} {i : Nat} (h : a.take i ≠ b.take i) : a ≠ b := fun e => h (by rw [e])
theorem cellsEq4 {a b : List Int} {n : Nat} (ha : a.length = n) (hb : b.length = n) : cellsEq (List.replicate n false) (ints .i64 a) (ints .i64 b) = some (decide (a = b)) := by
  induction n generalizing a b with
  | zero =>
    have h1 := List.length_eq_zero_iff.1 ha
    have h2 := List.length_eq_zero_iff.1 hb
    subst h1; subst h2; rfl
  | succ n ih =>
    cases a with
    | nil => simp at ha
    | cons x a =>
      cases b with
      | nil => simp at hb
      | cons y b =>
        have := ih (a := a) (b := b) (by simpa using ha) (by simpa using hb)
        simp only [ints, List.map_cons, List.replicate_succ, cellsEq, cellEq, if_true] at this ⊢
        by_cases e : x = y
        · subst e; simp [this]
        · have e2 : (x == y) = false := by simpa using e
          simp [e, e2]
end Go.Proofs.PantryEng
namespace Go.Proofs.YtgnmjfnkibbnkaaGreatDoor
open Go Go.Proofs.PantryEng
set_option maxRecDepth 100000
variable {h : AHeap} {t : Frag} {R : List SL}
theorem ints_ok {x y : Value} {a b : List Int} (hh : Sat (hm t :: R) h) (ha : View t 1 (ints .i64 a) x) (hb : View t 1 (ints .i64 b) y) (hl : a.length ≤ 16777216) :
    Ensures prW n_pantryref03_Ints [x, y] h fun r h' => r = vb (decide (a = b)) ∧ h' = h := by
  refine gen fun Q hQ => ?_
  apply e_pantryref03_Ints
  unfold w_pantryref03_Ints
  obtain ⟨xa, xn, xc, rfl, hxl, _⟩ := ha.ex
  obtain ⟨ya, yn, yc, rfl, hyl, _⟩ := hb.ex
  have hxl : a.length = xn := by simpa [ints] using hxl
  have hyl : b.length = yn := by simpa [ints] using hyl
  have fin : ∀ c : Bool, c = decide (a = b) → Q (vb c) h := fun c hc => hQ _ _ ⟨by rw [hc], rfl⟩
  simp
  refine If_b (fun hne => ?_) (fun heq => ?_)
  · refine fin false ?_
    have : a ≠ b := by rintro rfl; simp at hne; omega
    simp [this]
  · have heq : xn = yn := by simp at heq; omega
    refine Lp_of (fun k l h' => ∃ i : Nat, k = xn - i ∧ i ≤ xn ∧ l = [vb false, vi i] ∧ a.take i = b.take i ∧ h' = h) xn ⟨0, rfl, by omega, rfl, rfl, rfl⟩ ?_
    rintro k l h' K ⟨i, rfl, hi, rfl, htk, rfl⟩ hK
    simp
    refine If_d (fun hlt => ?_) (fun hge => ?_)
    · have hin : i < xn := by omega
      obtain ⟨b1, o1, rfl, hc1⟩ := ha.cell hh hin
      obtain ⟨b2, o2, rfl, hc2⟩ := hb.cell hh (show i < yn by omega)
      have h1 : a[i]? = some a[i] := List.getElem?_eq_getElem (by omega)
      have h2 : b[i]? = some b[i] := List.getElem?_eq_getElem (by omega)
      generalize a[i] = u at h1
      generalize b[i] = v at h2
      rw [ints_get, h1] at hc1
      rw [ints_get, h2] at hc2
      rw [indexAddrV_nat hin, indexAddrV_nat (show i < yn by omega)]
      simp at hc1 hc2
      simp [hc1, hc2]
      have key := take_eq_succ htk h1 h2
      refine If_b (fun hne => ?_) (fun heq => ?_)
      · refine fin false ?_
        have : a ≠ b := take_ne (fun e => by have := key.1 e; simp [this] at hne)
        simp [this]
      · simp [wr_succ (show i < 4611686018427387904 by omega)]
        exact hK _ _ _ (show xn - (i + 1) < xn - i by omega) ⟨i + 1, rfl, by omega, by simp, key.2 (by simpa using heq), rfl⟩
    · rw [List.take_of_length_le (by omega), List.take_of_length_le (by omega)] at htk
      exact fin true (by simp [htk])

theorem progs_ok {x y : Value} {a b : List (List Int)} (hh : Sat (hm t :: R) h) (ha : ViewP t a x) (hb : ViewP t b y) (hl : a.length ≤ 16777216) (hl' : ∀ p ∈ a, p.length ≤ 16777216) :
    Ensures prW n_pantryref26_Programs [x, y] h fun r h' => r = vb (decide (a = b)) ∧ h' = h := by
  refine gen fun Q hQ => ?_
  apply e_pantryref26_Programs
  unfold w_pantryref26_Programs
  obtain ⟨_, ⟨xa, xn, xc, rfl, _⟩, _⟩ := id ha
  obtain ⟨_, ⟨ya, yn, yc, rfl, _⟩, _⟩ := id hb
  have hxl := ha.len
  have hyl := hb.len
  have fin : ∀ c : Bool, c = decide (a = b) → Q (vb c) h := fun c hc => hQ _ _ ⟨by rw [hc], rfl⟩
  simp
  refine If_b (fun hne => ?_) (fun heq => ?_)
  · refine fin false ?_
    have : a ≠ b := by rintro rfl; simp at hne; omega
    simp [this]
  · have heq : xn = yn := by simp at heq; omega
    refine Lp_of (fun k l h' => ∃ i : Nat, k = xn - i ∧ i ≤ xn ∧ l = [vb false, vi i] ∧ a.take i = b.take i ∧ h' = h) xn ⟨0, rfl, by omega, rfl, rfl, rfl⟩ ?_
    rintro k l h' K ⟨i, rfl, hi, rfl, htk, rfl⟩ hK
    simp
    refine If_d (fun hlt => ?_) (fun hge => ?_)
    · have hin : i < xn := by omega
      obtain ⟨b1, o1, p, w1, rfl, hc1, h1, hv1⟩ := ha.get hh hin
      obtain ⟨b2, o2, q, w2, rfl, hc2, h2, hv2⟩ := hb.get hh (show i < yn by omega)
      obtain ⟨pa, pn, pc, rfl, hpl, _⟩ := hv1.ex
      obtain ⟨qa, qn, qc, rfl, hql, _⟩ := hv2.ex
      have hpl : p.length = pn * 4 := by simpa [ints] using hpl
      have hql : q.length = qn * 4 := by simpa [ints] using hql
      have hpb := hl' p (List.mem_of_getElem? h1)
      rw [indexAddrV_nat hin, indexAddrV_nat (show i < yn by omega)]
      simp [hc1, hc2]
      have key := take_eq_succ htk h1 h2
      refine If_b (fun hne => ?_) (fun heq2 => ?_)
      · refine fin false ?_
        have : a ≠ b := take_ne (fun e => by have := key.1 e; subst this; simp at hne; omega)
        simp [this]
      · have heq2 : pn = qn := by simp at heq2; omega
        refine Lp_of (fun k l h2 => ∃ j : Nat, k = pn - j ∧ j ≤ pn ∧ l = [vb false, vi j] ∧ p.take (j * 4) = q.take (j * 4) ∧ h2 = h') pn ⟨0, rfl, by omega, rfl, by simp, rfl⟩ ?_
        rintro k l h2 K' ⟨j, rfl, hj, rfl, htk2, rfl⟩ hK'
        simp [hc1]
        refine If_d (fun hlt => ?_) (fun hge => ?_)
        · have hjn : j < pn := by omega
          try simp [hc2]
          obtain ⟨b3, o3, rfl, hc3⟩ := hv1.cellsAt hh (by omega) hjn
          obtain ⟨b4, o4, rfl, hc4⟩ := hv2.cellsAt hh (by omega) (show j < qn by omega)
          rw [indexAddrV_nat hjn, indexAddrV_nat (show j < qn by omega)]
          rw [ints_drop, ints_take] at hc3 hc4
          simp [hc3, hc4]
          have e1 : ((p.drop (j * 4)).take 4).length = 4 := by rw [List.length_take, List.length_drop]; omega
          have e2 : ((q.drop (j * 4)).take 4).length = 4 := by rw [List.length_take, List.length_drop]; omega
          have hce : cellsEq [false, false, false, false] (ints .i64 ((p.drop (j * 4)).take 4)) (ints .i64 ((q.drop (j * 4)).take 4)) = _ := cellsEq4 e1 e2
          simp only [eqAggV, hce, PantryEng.flip, Option.map_some, P_some]
          have key2 : p.take ((j + 1) * 4) = q.take ((j + 1) * 4) ↔ (p.drop (j * 4)).take 4 = (q.drop (j * 4)).take 4 := by
            rw [show (j + 1) * 4 = j * 4 + 4 by omega, List.take_add, List.take_add, htk2]
            simp
          refine If_b (fun hne => ?_) (fun heq3 => ?_)
          · try simp
            refine fin false ?_
            have : p ≠ q := take_ne (fun e => by have := key2.1 e; simp [this] at hne)
            have : a ≠ b := take_ne (fun e => this (key.1 e))
            simp [this]
          · simp [wr_succ (show j < 4611686018427387904 by omega)]
            exact hK' _ _ _ (show pn - (j + 1) < pn - j by omega) ⟨j + 1, rfl, by omega, by simp, key2.2 (by simpa using heq3), rfl⟩
        · rw [List.take_of_length_le (by omega), List.take_of_length_le (by omega)] at htk2
          simp [wr_succ (show i < 4611686018427387904 by omega)]
          exact hK _ _ _ (show xn - (i + 1) < xn - i by omega) ⟨i + 1, rfl, by omega, by simp, key.2 htk2, rfl⟩
    · rw [List.take_of_length_le (by omega), List.take_of_length_le (by omega)] at htk
      exact fin true (by simp [htk])
end Go.Proofs.YtgnmjfnkibbnkaaGreatDoor

/- The engine, part 5e: maps that are read, lengths, the greatest and the least; and all of part 5 in one. -/
import Derived.Test.YtgnmjfnkibbnkaaGreatDoorM2
set_option linter.unusedSimpArgs false
set_option linter.unusedVariables false
namespace Go.Proofs.PantryEng
open Go

section ops
variable {P : Program} {ms : List String} {N : Nat} {D : Dom} {f : Inj} {h : AHeap} {w : World} {e : Env} {a : Act}

theorem run_part1 {t : TypeId} {cs : List Value} {off : Nat} {v : Value} (hg : aggT P t = some false) (hv : cs[off]? = some v) : (part t ⟨cs⟩ off).run P w = .ok v w := by
  have e2 : (⟨cs⟩ : Array Value)[off]? = some v := by simpa using hv
  simp [part, run_aggT hg, e2]

theorem cellEq_some {q : Bool} {u v : Value} {b : Bool} (h : cellEq q u v = some b) : (q = false ∧ ∃ k m n, u = .int k m ∧ v = .int k n ∧ b = (m == n)) ∨ (q = true ∧ ∃ m n, u = .bool m ∧ v = .bool n ∧ b = (m == n)) := by
  unfold cellEq at h
  split at h
  · split at h
    · rename_i hk; subst hk; injection h with h; exact .inl ⟨rfl, _, _, _, rfl, rfl, h.symm⟩
    · simp at h
  · injection h with h; exact .inr ⟨rfl, _, _, rfl, rfl, h.symm⟩
  · simp at h

theorem sim_eqFields (d : Nat) : ∀ (fs : List Field) (i : Nat) (ks : List Bool) (xs ys : List Value), flatF P i fs = some ks →
    ∀ b, cellsEq ks (xs.drop i) (ys.drop i) = some b → (Op.eqFields (d + 1) ⟨xs⟩ ⟨ys⟩ fs).run P w = .ok b w := by
  intro fs
  induction fs with
  | nil =>
    intro i ks xs ys hf b hb
    simp [flatF] at hf; subst hf
    unfold cellsEq at hb
    split at hb
    · injection hb with hb; subst hb; simp [Op.eqFields]
    · rename_i h1 _ _; simp at h1
    · simp at hb
  | cons fd fs ih =>
    intro i ks xs ys hf b hb
    simp only [flatF] at hf
    split at hf
    · rename_i hno
      simp only [Bool.and_eq_true, bne_iff_ne, ne_eq, beq_iff_eq] at hno
      obtain ⟨hname, ho⟩ := hno
      obtain ⟨q, l, hk, hl, hq⟩ : ∃ q l, ks = q :: l ∧ flatF P (i + 1) fs = some l ∧ ((q = true ∧ P.underlying fd.type = some .bool) ∨ (q = false ∧ ∃ k, P.underlying fd.type = some (.int k))) := by
        split at hf
        · rename_i h1 h2; injection hf with hf; exact ⟨_, _, hf.symm, h2, .inl ⟨rfl, h1⟩⟩
        · rename_i h1 h2; injection hf with hf; exact ⟨_, _, hf.symm, h2, .inr ⟨rfl, _, h1⟩⟩
        · simp at hf
      subst hk
      cases hx : xs.drop i with
      | nil => rw [hx] at hb; simp [cellsEq] at hb
      | cons x xr =>
        cases hy : ys.drop i with
        | nil => rw [hx, hy] at hb; simp [cellsEq] at hb
        | cons y yr =>
          have hxi : xs[i]? = some x := by have := congrArg (fun l => l[0]?) hx; simpa using this
          have hyi : ys[i]? = some y := by have := congrArg (fun l => l[0]?) hy; simpa using this
          have hx1 : xs.drop (i + 1) = xr := by have := congrArg List.tail hx; simpa using this
          have hy1 : ys.drop (i + 1) = yr := by have := congrArg List.tail hy; simpa using this
          rw [hx, hy] at hb
          simp only [cellsEq] at hb
          have hag : aggT P fd.type = some false := by
            rcases hq with ⟨_, hu⟩ | ⟨_, k, hu⟩ <;> simp [aggT, hu]
          cases hc : cellEq q x y with
          | none => rw [hc] at hb; simp at hb
          | some c =>
            rw [hc] at hb
            have heq : (Op.equalIn (d + 1) fd.type x y).run P w = .ok c w := by
              rcases cellEq_some hc with ⟨rfl, k, m, n, rfl, rfl, rfl⟩ | ⟨rfl, m, n, rfl, rfl, rfl⟩
              · obtain ⟨k', hu⟩ : ∃ k, P.underlying fd.type = some (.int k) := by rcases hq with ⟨h1, _⟩ | ⟨_, h2⟩ <;> first | exact h2 | simp at h1
                simp [Op.equalIn, run_underlying hu]
              · obtain hu : P.underlying fd.type = some .bool := by rcases hq with ⟨_, h1⟩ | ⟨h2, _⟩ <;> first | exact h1 | simp at h2
                simp [Op.equalIn, run_underlying hu]
            simp only [Op.eqFields, hname, ne_eq, not_false_eq_true, if_true, Sem.run_bind, run_part1 (w := w) hag (ho ▸ hxi), run_part1 (w := w) hag (ho ▸ hyi), Result.andThen_ok, heq]
            cases c with
            | true =>
              simp only [Bool.not_true, Bool.false_eq_true, if_false]
              exact ih (i + 1) l xs ys hl b (by rw [hx1, hy1]; exact hb)
            | false => simp at hb; subst hb; simp
    · simp at hf

theorem cellsEq_R : ∀ {ks : List Bool} {xs ys xs' ys' : List Value} {b : Bool}, cellsEq ks xs ys = some b → All2 (CR D f) xs xs' → All2 (CR D f) ys ys' → cellsEq ks xs' ys' = some b := by
  intro ks
  induction ks with
  | nil =>
    intro xs ys xs' ys' b h h1 h2
    cases h1 <;> cases h2 <;> simp [cellsEq] at h ⊢
    exact h
  | cons k ks ih =>
    intro xs ys xs' ys' b h h1 h2
    cases h1 with
    | nil => simp [cellsEq] at h
    | @cons x x' xr xr' a1 a2 =>
      cases h2 with
      | nil => simp [cellsEq] at h
      | @cons y y' yr yr' b1 b2 =>
        simp only [cellsEq] at h ⊢
        cases hc : cellEq k x y with
        | none => rw [hc] at h; simp at h
        | some c =>
          rw [hc] at h
          rcases cellEq_some hc with ⟨rfl, q, m, n, rfl, rfl, rfl⟩ | ⟨rfl, m, n, rfl, rfl, rfl⟩
          · obtain rfl := (TR.g (.c a1)).int_inv
            obtain rfl := (TR.g (.c b1)).int_inv
            rw [hc]
            cases hmn : (m == n) with
            | true => rw [hmn] at h; exact ih h a2 b2
            | false => rw [hmn] at h; exact h
          · obtain rfl := (TR.g (.c a1)).bool_inv
            obtain rfl := (TR.g (.c b1)).bool_inv
            rw [hc]
            cases hmn : (m == n) with
            | true => rw [hmn] at h; exact ih h a2 b2
            | false => rw [hmn] at h; exact h

theorem sim_eqAgg {neg : Bool} {t : TypeId} {fs : Array Field} {ks : List Bool} {x y : Operand} {xs ys : List Value} {u' v' r : Value} (h1 : TR D f (.agg ⟨xs⟩) u') (h2 : TR D f (.agg ⟨ys⟩) v') (ht : P.underlying t = some (.struct fs))
    (hk : flatF P 0 fs.toList = some ks) (hs : P.stoodInHeld t = false) (hg : P.eqGuardType P.depth t = false) (hv : flip neg (cellsEq ks xs ys) = some r) :
    (eqGuard (if neg then .neq else .eql) t x y u' v').run P w = .ok () w ∧ (binOp (if neg then .neq else .eql) t u' v').run P w = .ok r w ∧ TR D f r r := by
  obtain ⟨b, hb, rfl⟩ := flip_some hv
  obtain ⟨xs', k1, rfl⟩ := h1.agg_inv
  obtain ⟨ys', k2, rfl⟩ := h2.agg_inv
  have hb' := cellsEq_R hb k1 k2
  have hf : P.fieldsOf t = fs := by simp [Program.fieldsOf, ht]
  refine ⟨run_eqGuard_agg w _ t x y _ _ hg, ?_, .sr (.bool _)⟩
  have he : (Op.equalIn 10000 t (.agg ⟨xs'⟩) (.agg ⟨ys'⟩)).run P w = .ok b w := by
    rw [show (10000 : Nat) = 9999 + 1 from rfl, run_equalIn_agg w 9999 t _ _ (by rw [hf]; exact ht) hs, hf]
    exact sim_eqFields 9998 fs.toList 0 ks xs' ys' hk b (by simpa using hb')
  cases neg with
  | false => rw [if_neg (by simp), run_eql_struct, he]; simp
  | true => rw [if_pos rfl, run_neq_struct, he]; simp


theorem sim_fieldAddr {t : TypeId} {fs : Array Field} {fd : Field} {i : Nat} {u u' r : Value} (h1 : TR D f u u') (ht : P.underlying t = some (.struct fs)) (hf : fs[i]? = some fd) (hn : (sizeT P fd.type).any (· != 0) = true)
    (hv : fieldAddrV fd.offset u = some r) : ∃ r', (Instr.fieldAt t u' i).run P w = .ok r' w ∧ TR D f r r' := by
  unfold fieldAddrV at hv
  obtain ⟨n, hsz, hn0⟩ : ∃ n, sizeT P fd.type = some n ∧ n ≠ 0 := by
    cases hs : sizeT P fd.type with
    | none => simp [hs] at hn
    | some n => simp [hs] at hn; exact ⟨n, rfl, hn⟩
  split at hv
  · rename_i b o
    injection hv with hv; subst hv
    obtain ⟨hb, rfl⟩ := h1.ptr_inv
    refine ⟨.pointer (some ⟨(f b).1, o + (f b).2 + fd.offset, none⟩), ?_, .sr (.ptr b _ _ hb (by omega))⟩
    simp [Instr.fieldAt, run_underlying ht, hf, Instr.sureAddr, fieldPlace, run_sizeT hsz, hn0, addr_add]
  · simp at hv

theorem sim_field {t : TypeId} {fs : Array Field} {fd : Field} {i n : Nat} {g : Bool} {u u' r : Value} (h1 : TR D f u u') (ht : P.underlying t = some (.struct fs)) (hf : fs[i]? = some fd) (hg : aggT P fd.type = some g) (hn : sizeT P fd.type = some n)
    (hv : fieldV g fd.offset n u = some r) : ∃ r', (Instr.field t u' i).run P w = .ok r' w ∧ TR D f r r' := by
  unfold fieldV at hv
  split at hv
  · rename_i cs
    obtain ⟨cs', k1, rfl⟩ := h1.agg_inv
    obtain ⟨r', k2, k3⟩ := sim_part (P := P) (w := w) hg hn k1 hv
    exact ⟨r', by simp [Instr.field, run_underlying ht, hf, asAgg, k2], k3⟩
  · simp at hv

theorem sim_indexAddr {t te : TypeId} {n : Nat} {u i u' i' r : Value} (h1 : TR D f u u') (h2 : TR D f i i') (ht : P.underlying t = some (.slice te)) (hn : sizeT P te = some n)
    (hv : indexAddrV n u i = some r) : ∃ r', (Instr.indexAt t u' i').run P w = .ok r' w ∧ TR D f r r' := by
  unfold indexAddrV at hv
  split at hv
  · rename_i b o len c k i
    split at hv
    · rename_i hi
      injection hv with hv; subst hv
      obtain rfl := h2.int_inv
      rcases h1.slice_inv with ⟨e1, _⟩ | ⟨b', o', o2, c', e1, hb, hc, ho, rfl⟩
      · simp at e1
      · injection e1 with e1; injection e1 with e1 e2; subst e1; subst e2
        have ho' : o2 = ⟨(f b).1, o + (f b).2, none⟩ := by
          rcases ho with ho | ho
          · exact ho
          · omega
        subst ho'
        refine ⟨.pointer (some ⟨(f b).1, o + (f b).2 + i.toNat * n, none⟩), ?_, .sr (.ptr b _ _ hb (by omega))⟩
        simp [Instr.indexAt, asIntOf, run_underlying ht, hi, run_sizeT hn, addr_add]
    · simp at hv
  · simp at hv

theorem sim_indexAddrA {t te : TypeId} {n len : Nat} {u i u' i' r : Value} (h1 : TR D f u u') (h2 : TR D f i i') (ht : P.underlying t = some (.array len te)) (hn : sizeT P te = some n)
    (hv : indexAddrAV len n u i = some r) : ∃ r', (Instr.indexAt t u' i').run P w = .ok r' w ∧ TR D f r r' := by
  unfold indexAddrAV at hv
  split at hv
  · rename_i b o k i
    split at hv
    · rename_i hi
      injection hv with hv; subst hv
      obtain rfl := h2.int_inv
      obtain ⟨hb, rfl⟩ := h1.ptr_inv
      refine ⟨.pointer (some ⟨(f b).1, o + (f b).2 + i.toNat * n, none⟩), ?_, .sr (.ptr b _ _ hb (by omega))⟩
      simp [Instr.indexAt, asIntOf, run_underlying ht, hi, run_sizeT hn, addr_add, Instr.sureAddr]
    · simp at hv
  · simp at hv

theorem sim_index {t te : TypeId} {n len : Nat} {g : Bool} {u i u' i' r : Value} (h1 : TR D f u u') (h2 : TR D f i i') (ht : P.underlying t = some (.array len te)) (hn : sizeT P te = some n) (hg : aggT P te = some g)
    (hv : indexV g len n u i = some r) : ∃ r', (Instr.index t u' i').run P w = .ok r' w ∧ TR D f r r' := by
  unfold indexV at hv
  split at hv
  · rename_i cs k i
    split at hv
    · rename_i hi
      obtain rfl := h2.int_inv
      obtain ⟨cs', k1, rfl⟩ := h1.agg_inv
      obtain ⟨r', k2, k3⟩ := sim_part (P := P) (w := w) hg hn k1 hv
      exact ⟨r', by simp [Instr.index, asIntOf, run_underlying ht, hi, run_sizeT hn, k2], k3⟩
    · simp at hv
  · simp at hv

theorem sim_indexS {t : TypeId} {u i u' i' r : Value} (h1 : TR D f u u') (h2 : TR D f i i') (ht : P.underlying t = some .string)
    (hv : indexSV u i = some r) : ∃ r', (Instr.index t u' i').run P w = .ok r' w ∧ TR D f r r' := by
  unfold indexSV at hv
  split at hv
  · rename_i s k i
    split at hv
    · rename_i hi
      obtain rfl := h2.int_inv
      obtain rfl := h1.string_inv
      cases hb : s.toList[i.toNat]? with
      | none => rw [hb] at hv; simp at hv
      | some b =>
        rw [hb] at hv
        simp at hv; subst hv
        have : s[i.toNat]? = some b := by
          rw [ByteArray.toList_eq] at hb
          have hlt : i.toNat < s.data.toList.length := (List.getElem?_eq_some_iff.1 hb).1
          have hlt' : i.toNat < s.size := by simpa using hlt
          rw [getElem?_pos s i.toNat hlt']
          have := (List.getElem?_eq_some_iff.1 hb).2
          rw [← this]
          rfl
        exact ⟨_, by simp [Instr.index, asIntOf, run_underlying ht, hi, this], .sr (.int _ _)⟩
    · simp at hv
  · simp at hv

end ops
end Go.Proofs.PantryEng
namespace Go.Proofs.PantryEng
open Go

section ops
variable {P : Program} {ms : List String} {N : Nat} {D : Dom} {f : Inj} {h : AHeap} {w : World} {e : Env} {a : Act}

theorem asInt?_some {v : Value} {n : Int} (hv : asInt? v = some n) : ∃ k, v = .int k n := by
  unfold asInt? at hv
  split at hv
  · injection hv with hv; subst hv; exact ⟨_, rfl⟩
  · simp at hv

inductive OptR (R : Value → Value → Prop) : Option Value → Option Value → Prop
  | none : OptR R none none
  | some {v v' : Value} : R v v' → OptR R (some v) (some v')

theorem cOpt_R (he : EnvR D f N e a) {x : Option Operand} {y : Option Opd} (h : cOpt N x = some y) : OptR (TR D f) (y.map (·.ev e)) (x.map a.eval) := by
  cases x with
  | none => simp [cOpt] at h; subst h; exact .none
  | some x =>
    simp only [cOpt] at h
    cases hy : cOpd N x with
    | none => rw [hy] at h; simp at h
    | some y' => rw [hy] at h; simp at h; subst h; exact .some (cOpd_R he hy)

/-- A bound of a slice expression. -/
def bnd (d : Int) (x : Option Value) : Option Int := match x with | none => some d | some x => asInt? x

theorem run_bound {v v' : Value} {n : Int} {y : Nat} {c : BoundsCode} (hR : TR D f v v') (hv : asInt? v = some n) (h0 : 0 ≤ n) (h1 : n ≤ y) : (Instr.sliceBound v' y c).run P w = .ok n.toNat w := by
  obtain ⟨k, rfl⟩ := asInt?_some hv
  obtain rfl := hR.int_inv
  simp [Instr.sliceBound, asIntOf, h0, h1]

theorem run_bounds2 {lo hi lo' hi' : Option Value} {isS : Bool} {len cap : Nat} {l h : Int} (hlo : OptR (TR D f) lo lo') (hhi : OptR (TR D f) hi hi') (el : bnd 0 lo = some l) (eh : bnd len hi = some h)
    (h0 : 0 ≤ l) (h1 : l ≤ h) (h2 : h ≤ len) (h3 : len ≤ cap) : (Instr.sliceBounds isS len cap lo' hi' none).run P w = .ok (l.toNat, h.toNat, cap) w := by
  unfold Instr.sliceBounds
  cases hhi with
  | none =>
    simp only [bnd, Option.some.injEq] at eh
    subst eh
    cases hlo with
    | none => simp only [bnd, Option.some.injEq] at el; subst el; simp
    | some hR => simp only [bnd] at el; simp [run_bound hR el h0 (by omega)]
  | some hR2 =>
    simp only [bnd] at eh
    have e1 := run_bound (P := P) (w := w) (c := if isS then .sliceAcap else .sliceAlen) hR2 eh (by omega) (show h ≤ (cap : Int) by omega)
    cases hlo with
    | none => simp only [bnd, Option.some.injEq] at el; subst el; simp [e1]
    | some hR => simp only [bnd] at el; simp [e1, run_bound hR el h0 (show l ≤ (h.toNat : Int) by omega)]

theorem run_bounds3 {lo lo' : Option Value} {hi hi' m m' : Value} {isS : Bool} {len cap : Nat} {l h k : Int} (hlo : OptR (TR D f) lo lo') (hhi : TR D f hi hi') (hm : TR D f m m') (el : bnd 0 lo = some l) (eh : asInt? hi = some h) (em : asInt? m = some k)
    (h0 : 0 ≤ l) (h1 : l ≤ h) (h2 : h ≤ k) (h3 : k ≤ cap) : (Instr.sliceBounds isS len cap lo' (some hi') (some m')).run P w = .ok (l.toNat, h.toNat, k.toNat) w := by
  unfold Instr.sliceBounds
  have e1 := run_bound (P := P) (w := w) (c := if isS then .slice3Acap else .slice3Alen) hm em (by omega) h3
  have e2 := run_bound (P := P) (w := w) (c := .slice3B) hhi eh (by omega) (show h ≤ (k.toNat : Int) by omega)
  cases hlo with
  | none => simp only [bnd, Option.some.injEq] at el; subst el; simp [e1, e2]
  | some hR => simp only [bnd] at el; simp [e1, e2, run_bound hR el h0 (show l ≤ (h.toNat : Int) by omega)]

theorem sliceV_slice {size : Nat} {ad : Option Addr} {len c : Nat} {lo hi mx : Option Value} {r : Value} (hv : sliceV size (.slice ad len c) lo hi mx = some r) :
    ∃ l h : Int, bnd 0 lo = some l ∧ bnd len hi = some h ∧ 0 ≤ l ∧ l ≤ h ∧ h ≤ len ∧
      ((mx = none ∧ ((ad = none ∧ r = .slice none 0 0) ∨ ∃ b o, ad = some ⟨b, o, none⟩ ∧ r = .slice (some ⟨b, o + l.toNat * size, none⟩) (h.toNat - l.toNat) (if c = 0 then 0 else if l = 0 then c else 1))) ∨
       (∃ m hv' k, mx = some m ∧ hi = some hv' ∧ asInt? m = some k ∧ h ≤ k ∧ k ≤ len ∧ ((ad = none ∧ r = .slice none 0 0) ∨ ∃ b o, ad = some ⟨b, o, none⟩ ∧ r = if k = l then .slice (some ⟨b, o, none⟩) 0 0 else .slice (some ⟨b, o + l.toNat * size, none⟩) (h.toNat - l.toNat) 1))) := by
  simp only [sliceV] at hv
  split at hv
  · rename_i l h el eh
    split at hv
    · rename_i hb
      refine ⟨l, h, el, eh, hb.1, hb.2.1, hb.2.2, ?_⟩
      split at hv
      · refine .inl ⟨rfl, ?_⟩
        split at hv
        · injection hv with hv; exact .inl ⟨rfl, hv.symm⟩
        · injection hv with hv; exact .inr ⟨_, _, rfl, hv.symm⟩
        · simp at hv
      · rename_i m
        split at hv
        · rename_i k hv' ek
          split at hv
          · rename_i hk
            refine .inr ⟨m, hv', k, rfl, rfl, ek, hk.1, hk.2, ?_⟩
            split at hv
            · injection hv with hv; exact .inl ⟨rfl, hv.symm⟩
            · refine .inr ⟨_, _, rfl, ?_⟩
              split at hv
              · rename_i e; injection hv with hv; rw [if_pos e]; exact hv.symm
              · rename_i e; injection hv with hv; rw [if_neg e]; exact hv.symm
            · simp at hv
          · simp at hv
        · simp at hv
    · simp at hv
  · simp at hv

theorem sim_slice {t te : TypeId} {size : Nat} {u u' : Value} {lo hi mx lo' hi' mx' : Option Value} {r : Value} (h1 : TR D f u u') (hlo : OptR (TR D f) lo lo') (hhi : OptR (TR D f) hi hi') (hmx : OptR (TR D f) mx mx')
    (ht : P.underlying t = some (.slice te)) (hn : sizeT P te = some size) (hs : 0 < size) (hsl : ∃ ad len c, u = .slice ad len c) (hv : sliceV size u lo hi mx = some r) :
    ∃ r', (Instr.sliceAt t u' lo' hi' mx').run P w = .ok r' w ∧ TR D f r r' := by
  obtain ⟨ad, len, c, rfl⟩ := hsl
  obtain ⟨l, h, el, eh, h0, hlh, hhl, hcase⟩ := sliceV_slice hv
  rcases h1.slice_inv with ⟨rfl, rfl, rfl, rfl⟩ | ⟨b, o, o', c', rfl, hb, hc, ho, rfl⟩
  · -- nil
    obtain rfl : l = 0 := by omega
    obtain rfl : h = 0 := by omega
    rcases hcase with ⟨rfl, hr⟩ | ⟨m, hv', k, rfl, rfl, ek, hk1, hk2, hr⟩
    · obtain rfl : r = .slice none 0 0 := by rcases hr with ⟨_, e⟩ | ⟨_, _, e, _⟩ <;> first | exact e | simp at e
      cases hmx
      have := run_bounds2 (P := P) (w := w) (isS := true) hlo hhi el eh h0 hlh hhl (Nat.le_refl 0)
      exact ⟨_, by simp [Instr.sliceAt, Instr.slice, run_underlying ht, this, run_sizeT hn], .sr .slice0⟩
    · obtain rfl : r = .slice none 0 0 := by rcases hr with ⟨_, e⟩ | ⟨_, _, e, _⟩ <;> first | exact e | simp at e
      cases hmx with | some hm => cases hhi with | some hh =>
        simp only [bnd] at eh
        obtain rfl : k = 0 := by omega
        have := run_bounds3 (P := P) (w := w) (isS := true) (len := 0) (cap := 0) hlo hh hm el eh ek h0 hlh hk1 (by omega)
        exact ⟨_, by simp [Instr.sliceAt, Instr.slice, run_underlying ht, this, run_sizeT hn], .sr .slice0⟩
  · obtain ⟨hc1, hc2, hc3⟩ := hc
    rcases hcase with ⟨rfl, hr⟩ | ⟨m, hv', k, rfl, rfl, ek, hk1, hk2, hr⟩
    · obtain rfl : r = .slice (some ⟨b, o + l.toNat * size, none⟩) (h.toNat - l.toNat) (if c = 0 then 0 else if l = 0 then c else 1) := by
        rcases hr with ⟨e, _⟩ | ⟨_, _, e, e2⟩
        · simp at e
        · injection e with e; injection e with e3 e4; subst e3; subst e4; exact e2
      cases hmx
      have := run_bounds2 (P := P) (w := w) (isS := true) hlo hhi el eh h0 hlh hhl hc1
      refine ⟨.slice (some (if c' = l.toNat then o' else o'.add (l.toNat * size))) (h.toNat - l.toNat) (c' - l.toNat), ?_, ?_⟩
      · simp only [Instr.sliceAt, Instr.slice, Sem.run_bind, run_underlying ht, this, run_sizeT hn, Result.andThen_ok, Sem.run_pure, Option.map_some]
        split <;> rfl
      · have hcap : CapR (f b).room (h.toNat - l.toNat) (if c = 0 then 0 else if l = 0 then c else 1) (c' - l.toNat) := by
          refine ⟨by omega, ?_, ?_⟩
          · split
            · rename_i h; intro _; have := hc2 h; omega
            · split
              · intro h; exact absurd h (by assumption)
              · intro h; omega
          · split
            · intro h; omega
            · split
              · rename_i h1 h2; intro h3; rw [h2]; simpa using hc3 h3
              · intro h; omega
        have hls : l.toNat = 0 ∨ 0 < l.toNat * size := by
          rcases Nat.eq_zero_or_pos l.toNat with h | h
          · exact .inl h
          · exact .inr (Nat.mul_pos h hs)
        generalize (if c = 0 then 0 else if l = 0 then c else 1) = code at hcap ⊢
        split
        · rename_i hcl
          refine .sr (.slice b _ _ _ _ _ hb hcap ?_)
          rcases hls with h | h
          · rw [h] at hcl ⊢; simp only [Nat.zero_mul, Nat.add_zero]; rcases ho with ho | ho
            · exact .inl ho
            · exact .inr ⟨by omega, ho.2⟩
          · exact .inr ⟨by omega, by omega⟩
        · refine .sr (.slice b _ _ _ _ _ hb hcap ?_)
          rcases ho with ho | ho
          · refine .inl ?_
            rw [ho, addr_add]
            congr 1
            omega
          · exact .inr ⟨by omega, by omega⟩
    · obtain rfl : r = (if k = l then .slice (some ⟨b, o, none⟩) 0 0 else .slice (some ⟨b, o + l.toNat * size, none⟩) (h.toNat - l.toNat) 1) := by
        rcases hr with ⟨e, _⟩ | ⟨_, _, e, e2⟩
        · simp at e
        · injection e with e; injection e with e3 e4; subst e3; subst e4; exact e2
      cases hmx with | some hm => cases hhi with | some hh =>
        simp only [bnd] at eh
        have := run_bounds3 (P := P) (w := w) (isS := true) (len := len) (cap := c') hlo hh hm el eh ek h0 hlh hk1 (by omega)
        refine ⟨.slice (some (if k.toNat = l.toNat then o' else o'.add (l.toNat * size))) (h.toNat - l.toNat) (k.toNat - l.toNat), ?_, ?_⟩
        · simp only [Instr.sliceAt, Instr.slice, Sem.run_bind, run_underlying ht, this, run_sizeT hn, Result.andThen_ok, Sem.run_pure, Option.map_some]
          split <;> rfl
        · by_cases hkl : k = l
          · rw [if_pos hkl, if_pos (by omega)]
            have e1 : h.toNat - l.toNat = 0 := by omega
            have e2 : k.toNat - l.toNat = 0 := by omega
            rw [e1, e2]
            refine .sr (.slice b _ _ _ _ _ hb ⟨by omega, by omega, fun h => by omega⟩ ?_)
            rcases ho with ho | ho
            · exact .inl ho
            · exact .inr ⟨rfl, ho.2⟩
          · rw [if_neg hkl, if_neg (by omega)]
            refine .sr (.slice b _ _ _ _ _ hb ⟨by omega, by omega, by omega⟩ ?_)
            rcases ho with ho | ho
            · refine .inl ?_
              rw [ho, addr_add]
              congr 1
              omega
            · exact .inr ⟨by omega, by omega⟩

theorem sim_sliceStr {t : TypeId} {s : ByteArray} {u' : Value} {lo hi lo' hi' mx mx' : Option Value} {r : Value} (h1 : TR D f (.string s) u') (hlo : OptR (TR D f) lo lo') (hhi : OptR (TR D f) hi hi') (hmx : OptR (TR D f) mx mx')
    (ht : P.underlying t = some .string) (hv : sliceV 1 (.string s) lo hi mx = some r) : ∃ r', (Instr.sliceAt t u' lo' hi' mx').run P w = .ok r' w ∧ TR D f r r' := by
  obtain rfl := h1.string_inv
  simp only [sliceV] at hv
  split at hv
  · rename_i l h el eh
    split at hv
    · rename_i hb
      injection hv with hv; subst hv
      cases hmx
      have := run_bounds2 (P := P) (w := w) (isS := false) (len := s.size) (cap := s.size) hlo hhi el eh hb.1 hb.2.1 hb.2.2 (Nat.le_refl _)
      exact ⟨_, by simp [Instr.sliceAt, Instr.slice, run_underlying ht, this], .sr (.string _)⟩
    · simp at hv
  · simp at hv

end ops
end Go.Proofs.PantryEng
namespace Go.Proofs.PantryEng
open Go

section ops
variable {P : Program} {ms : List String} {N : Nat} {D : Dom} {f : Inj} {h : AHeap} {w : World} {e : Env} {a : Act}

theorem checkKey_int {P : Program} {w : World} {t : TypeId} {k : IntKind} {em : Bool} {d : Nat} {v : Value} (ht : P.underlying t = some (.int k)) : (Instr.checkKey em (d + 1) t v).run P w = .ok () w := by
  simp [Instr.checkKey, run_underlying ht]

theorem findNow_R {kd : IntKind} {x : Int} : ∀ {es : List (Int × Value)} {ents : List MapEntry} (i : Nat), All2 (EntR D f) es ents →
    (mGet es x = none ∧ Instr.findNow (.int kd) (.int .i64 x) ents i = some none) ∨
    ∃ v j en, mGet es x = some v ∧ ents[j]? = some en ∧ en.key = .int .i64 x ∧ GR D f v en.val ∧ Instr.findNow (.int kd) (.int .i64 x) ents i = some (some (i + j, en.val)) ∧ (∃ es1 u es2, es = es1 ++ (x, u) :: es2 ∧ es1.length = j ∧ mGet es1 x = none) := by
  intro es
  induction es with
  | nil => intro ents i h; cases h; exact .inl ⟨rfl, rfl⟩
  | cons p es ih =>
    obtain ⟨k, v⟩ := p
    intro ents i h
    cases h with
    | @cons _ en _ ents h1 h2 =>
      obtain ⟨hk, hv⟩ := h1
      simp only at hk hv
      by_cases hkx : k = x
      · subst hkx
        refine .inr ⟨v, 0, en, by simp [mGet], by simp, hk, hv, ?_, [], v, es, rfl, rfl, rfl⟩
        simp [Instr.findNow, hk, Instr.sameNow]
      · have hne : (x == k) = false := by simp; exact fun h => hkx h.symm
        rcases ih (ents := ents) (i + 1) h2 with ⟨e1, e2⟩ | ⟨v', j, en', e1, e2, e3, e4, e5, es1, u, es2, e6, e7, e8⟩
        · exact .inl ⟨by simp [mGet, hkx, e1], by simp [Instr.findNow, hk, Instr.sameNow, hne, e2]⟩
        · refine .inr ⟨v', j + 1, en', by simp [mGet, hkx, e1], by simpa using e2, e3, e4, ?_, (k, v) :: es1, u, es2, by simp [e6], by simp [e7], by simp [mGet, hkx, e8]⟩
          simp [Instr.findNow, hk, Instr.sameNow, hne, e5]; omega

theorem run_findKey {t : TypeId} {kd : IntKind} {x : Int} {es : List MapEntry} {r : Option (Nat × Value)} (ht : P.underlying t = some (.int kd)) (hf : Instr.findNow (.int kd) (.int .i64 x) es 0 = some r) : (Instr.findKey t (.int .i64 x) es).run P w = .ok r w := by
  simp [Instr.findKey, run_underlying ht, hf]

theorem sim_lookup {t tk te : TypeId} {zero : Value} {ok : Bool} {m k m' k' r : Value} (hw : WR D f h w) (h1 : TR D f m m') (h2 : TR D f k k') (ht : P.underlying t = some (.map tk te)) (hk : P.underlying tk = some (.int .i64)) (hz : zeroT P te = some zero) (hzo : litOK zero = true)
    (hv : lookIn h zero ok m k = some r) : ∃ r', (Instr.lookup t m' k' ok).run P w = .ok r' w ∧ TR D f r r' := by
  unfold lookIn at hv
  split at hv
  case h_2 => simp at hv
  rename_i n
  obtain rfl := h2.int_inv
  have hzr := litOK_GR D f hzo
  cases hmo : mapOf h m with
  | none => rw [hmo] at hv; simp at hv
  | some es =>
    rw [hmo] at hv
    simp only [Option.map_some, Option.some.injEq] at hv
    have fin : ∀ {ents : List MapEntry}, All2 (EntR D f) es ents →
        ∃ q, (Instr.findKey tk (.int .i64 n) ents).run P w = .ok q w ∧ TR D f r (lookV zero ok (q.map (·.2))) := by
      intro ents hr
      rcases findNow_R (kd := .i64) (x := n) 0 hr with ⟨e1, e2⟩ | ⟨v, j, en, e1, _, _, e4, e5, _⟩
      · rw [e1] at hv
        subst hv
        refine ⟨none, run_findKey hk e2, ?_⟩
        cases ok with
        | true => exact .tuple (.cons hzr (.cons (.c (.s (.bool _))) .nil))
        | false => exact .g hzr
      · rw [e1] at hv
        subst hv
        refine ⟨some (_, en.val), run_findKey hk e5, ?_⟩
        cases ok with
        | true => exact .tuple (.cons e4 (.cons (.c (.s (.bool _))) .nil))
        | false => exact .g e4
    unfold mapOf at hmo
    split at hmo
    · injection hmo with hmo; subst hmo
      rcases h1.map_inv with ⟨_, rfl⟩ | ⟨_, e, _⟩
      · obtain ⟨q, k1, k2⟩ := fin .nil
        refine ⟨_, ?_, k2⟩
        simp only [Instr.lookup, Sem.run_bind, run_underlying ht, Result.andThen_ok, Sem.run_pure, checkKey_int (d := 9999) hk, k1]
        cases q with
        | none => simp [run_zeroT hz, lookV]
        | some p => simp [lookV]
      · simp at e
    · rename_i b
      rcases h1.map_inv with ⟨e, _⟩ | ⟨b', e, hb, rfl⟩
      · simp at e
      · injection e with e; subst e
        obtain ⟨ents, clock, g1, g2, _⟩ := hw.map? hmo
        have hgo : (getObj (f b).1).run P w = .ok (.map ents clock) w := by simp [getObj, Sem.run, g1]
        obtain ⟨q, k1, k2⟩ := fin g2
        refine ⟨_, ?_, k2⟩
        simp only [Instr.lookup, Sem.run_bind, run_underlying ht, Result.andThen_ok, hgo, Sem.run_pure, checkKey_int (d := 9999) hk, k1]
        cases q with
        | none => simp [run_zeroT hz, lookV]
        | some p => simp [lookV]
    · simp at hmo

theorem sim_extract {u u' r : Value} {i : Nat} (h1 : TR D f u u') (hv : extractV i u = some r) : ∃ r', (Instr.extract u' i).run P w = .ok r' w ∧ TR D f r r' := by
  unfold extractV at hv
  split at hv
  · rename_i vs
    obtain ⟨vs', k1, rfl⟩ := h1.tuple_inv
    obtain ⟨r', k2, k3⟩ := k1.get hv
    have : (⟨vs'⟩ : Array Value)[i]? = some r' := by simpa using k2
    exact ⟨r', by simp [Instr.extract, this], .g k3⟩
  · simp at hv

theorem sim_maxF {k : IntKind} : ∀ {l l' : List Value} {x : Int} {r : Value}, All2 (TR D f) l l' → maxF k x l = some r → (l'.foldlM Builtin.max2 (.int k x)).run P w = .ok r w ∧ TR D f r r := by
  intro l
  induction l with
  | nil => intro l' x r h1 h2; cases h1; simp [maxF] at h2; subst h2; exact ⟨rfl, .sr (.int _ _)⟩
  | cons v l ih =>
    intro l' x r h1 h2
    cases h1 with
    | cons h3 h4 =>
      cases v with
      | int k' y =>
        obtain rfl := h3.int_inv
        simp only [maxF] at h2
        obtain ⟨e1, e2⟩ := ih h4 h2
        exact ⟨by simp only [List.foldlM_cons, Builtin.max2, Sem.run_bind, Sem.run_pure, Result.andThen_ok]; exact e1, e2⟩
      | _ => simp [maxF] at h2

theorem sim_minF {k : IntKind} : ∀ {l l' : List Value} {x : Int} {r : Value}, All2 (TR D f) l l' → minF k x l = some r → (l'.foldlM Builtin.min2 (.int k x)).run P w = .ok r w ∧ TR D f r r := by
  intro l
  induction l with
  | nil => intro l' x r h1 h2; cases h1; simp [minF] at h2; subst h2; exact ⟨rfl, .sr (.int _ _)⟩
  | cons v l ih =>
    intro l' x r h1 h2
    cases h1 with
    | cons h3 h4 =>
      cases v with
      | int k' y =>
        obtain rfl := h3.int_inv
        simp only [minF] at h2
        obtain ⟨e1, e2⟩ := ih h4 h2
        exact ⟨by simp only [List.foldlM_cons, Builtin.min2, Sem.run_bind, Sem.run_pure, Result.andThen_ok]; exact e1, e2⟩
      | _ => simp [minF] at h2

theorem sim_max {ts : Array TypeId} {t : TypeId} {l l' : List Value} {r : Value} (h1 : All2 (TR D f) l l') (hv : maxV l = some r) : (Builtin.max_ ts t ⟨l'⟩).run P w = .ok r w ∧ TR D f r r := by
  cases h1 with
  | nil => simp [maxV] at hv
  | @cons v v' l l' h3 h4 =>
    cases v with
    | int k x =>
      obtain rfl := h3.int_inv
      exact sim_maxF h4 hv
    | _ => simp [maxV] at hv

theorem sim_min {ts : Array TypeId} {t : TypeId} {l l' : List Value} {r : Value} (h1 : All2 (TR D f) l l') (hv : minV l = some r) : (Builtin.min_ ts t ⟨l'⟩).run P w = .ok r w ∧ TR D f r r := by
  cases h1 with
  | nil => simp [minV] at hv
  | @cons v v' l l' h3 h4 =>
    cases v with
    | int k x =>
      obtain rfl := h3.int_inv
      exact sim_minF h4 hv
    | _ => simp [minV] at hv

theorem bytes_loop : ∀ {l : List Value} {l' : List UInt8} {s : ByteArray}, bytesOf? l = some l' →
    (forIn l s (fun c (r : ByteArray) => (match c with
      | Value.int IntKind.u8 n => pure (ForInStep.yield (r.push (UInt8.ofNat n.toNat)))
      | _ => do
        stuck "bytesToString: byte expected"
        pure (ForInStep.yield r) : Sem (ForInStep ByteArray)))).run P w = .ok (l'.foldl ByteArray.push s) w := by
  intro l
  induction l with
  | nil => intro l' s h; simp [bytesOf?] at h; subst h; simp
  | cons v l ih =>
    intro l' s h
    unfold bytesOf? at h
    split at h
    · rename_i e; simp at e
    · rename_i n vs e
      injection e with e1 e2; subst e1; subst e2
      cases hb : bytesOf? l with
      | none => rw [hb] at h; simp at h
      | some l2 =>
        rw [hb] at h; simp at h; subst h
        simp only [List.forIn_cons, Sem.run_bind, Sem.run_pure, Result.andThen_ok, List.foldl_cons]
        exact ih hb
    · simp at h

theorem foldl_push : ∀ (l : List UInt8) (s : ByteArray), l.foldl ByteArray.push s = ⟨⟨s.data.toList ++ l⟩⟩ := by
  intro l
  induction l with
  | nil => intro s; simp
  | cons b l ih =>
    intro s
    rw [List.foldl_cons, ih]
    congr 2
    simp [ByteArray.push]

theorem bytes_R : ∀ {l l' : List Value} {bs : List UInt8}, All2 (CR D f) l l' → bytesOf? l = some bs → bytesOf? l' = some bs := by
  intro l
  induction l with
  | nil => intro l' bs h1 h2; cases h1; exact h2
  | cons v l ih =>
    intro l' bs h1 h2
    cases h1 with
    | cons h3 h4 =>
      unfold bytesOf? at h2
      split at h2
      · rename_i e; simp at e
      · rename_i n vs e
        injection e with e1 e2; subst e1; subst e2
        obtain rfl := (TR.g (.c h3)).int_inv
        cases hb : bytesOf? l with
        | none => rw [hb] at h2; simp at h2
        | some l2 =>
          rw [hb] at h2; simp at h2; subst h2
          simp [bytesOf?, ih h4 hb]
      · simp at h2

theorem sim_string {u u' r : Value} (hw : WR D f h w) (h1 : TR D f u u')
    (hv : strOf h u = some r) : (Conv.bytesToString u').run P w = .ok r w ∧ TR D f r r := by
  unfold strOf at hv
  split at hv
  · injection hv with hv; subst hv
    rcases h1.slice_inv with ⟨_, _, _, rfl⟩ | ⟨_, _, _, _, e, _⟩
    · exact ⟨by simp [Conv.bytesToString], .sr (.string _)⟩
    · simp at e
  · rename_i b o len c
    rcases h1.slice_inv with ⟨e, _⟩ | ⟨b', o1, o', c', e, hb, _, ho, rfl⟩
    · simp at e
    · injection e with e; injection e with e1 e2; subst e1; subst e2
      cases hc : h.cellsAt b o len with
      | none => rw [hc] at hv; simp at hv
      | some cs =>
        rw [hc] at hv
        simp only [Option.bind_some] at hv
        cases hbs : bytesOf? cs with
        | none => rw [hbs] at hv; simp at hv
        | some bs =>
          rw [hbs] at hv; simp at hv; subst hv
          have key : ∃ cs', (loadCells o' len).run P w = .ok ⟨cs'⟩ w ∧ bytesOf? cs' = some bs := by
            rcases ho with ho | ⟨ho, _⟩
            · subst ho
              obtain ⟨cs', k1, _, k3⟩ := hw.loads (P := P) hc
              exact ⟨cs', k3, bytes_R k1 hbs⟩
            · subst ho
              have : cs = [] := by
                have := (hw.cellsAt hc).1
                simpa using this
              subst this
              exact ⟨[], by simp [loadCells, loadCellsFrom], hbs⟩
          obtain ⟨cs', k1, k2⟩ := key
          refine ⟨?_, .sr (.string _)⟩
          simp only [Conv.bytesToString, Sem.run_bind, k1, Result.andThen_ok]
          rw [← Array.forIn_toList]
          refine (congrArg (fun r => Result.andThen r _) (bytes_loop (P := P) (w := w) (s := ByteArray.empty) k2)).trans ?_
          rw [foldl_push]
          simp
  · simp at hv


theorem run_sizesF : ∀ {fs : List Field} {pl : List (Nat × Nat)}, sizesF P fs = some pl →
    (fs.mapM (fun f => (do pure (f.offset, ← sizeOf f.type) : Sem (Nat × Nat)))).run P w = .ok pl w := by
  intro fs
  induction fs with
  | nil => intro pl h; simp [sizesF] at h; subst h; simp
  | cons fd fs ih =>
    intro pl h
    simp only [sizesF] at h
    split at h
    · rename_i n l h1 h2
      injection h with h; subst h
      simp only [List.mapM_cons, Sem.run_bind, run_sizeT h1, Result.andThen_ok, Sem.run_pure, ih h2]
    · simp at h

theorem get1_if {c : Prop} [Decidable c] {x y : AOp} {q : POp} (h : (if c then x else y) = .p q) : (c ∧ x = .p q) ∨ (¬ c ∧ y = .p q) := by
  split at h
  · exact .inl ⟨by assumption, h⟩
  · exact .inr ⟨by assumption, h⟩

theorem not_bad {q : POp} (hb : q ≠ .bad) {C : Prop} (h : (AOp.p .bad) = .p q) : C := by
  injection h with h; exact absurd h.symm hb

theorem sim_makeFunc {g : FuncId} {l m l' m' : List Value} {r : Value} (h1 : All2 (TR D f) l l') (h2 : All2 (TR D f) m m')
    (hv : (if l.all scal && m.all scal then some (Value.func (.func g) ⟨l⟩ ⟨m⟩) else none) = some r) : TR D f r (.func (.func g) ⟨l'⟩ ⟨m'⟩) := by
  split at hv
  · rename_i hs
    injection hv with hv; subst hv
    simp only [Bool.and_eq_true] at hs
    have go : ∀ {l l' : List Value}, All2 (TR D f) l l' → l.all scal = true → All2 (SR D f) l l' := by
      intro l l' h
      induction h with
      | nil => intro _; exact .nil
      | cons k _ ih => intro hs; simp at hs; exact .cons (k.scal hs.1) (ih (by simpa using hs.2))
    exact .g (.c (.func g (go h1 hs.1) (go h2 hs.2)))
  · simp at hv

theorem sim_cEq {neg : Bool} {t : TypeId} {x y : Operand} {x' y' : Opd} {q : POp} (hq : cEq P neg t x y x' y' = q) (hb : q ≠ .bad) (he : EnvR D f N e a) (hw : WR D f h w) (hx : cOpd N x = some x') (hy : cOpd N y = some y') {v : Value} (hv : evP e h q = some v) :
    (eqGuard (if neg then .neq else .eql) t x y (a.eval x) (a.eval y)).run P w = .ok () w ∧ (binOp (if neg then .neq else .eql) t (a.eval x) (a.eval y)).run P w = .ok v w ∧ TR D f v v := by
  have h1 := cOpd_R he hx
  have h2 := cOpd_R he hy
  unfold cEq at hq
  split at hq
  · rename_i hu
    subst hq
    simp only [evP] at hv
    split at hv
    · rename_i b c e1 e2
      obtain ⟨d, hd, rfl⟩ := flip_some hv
      injection hd with hd; subst hd
      rw [e1] at h1; rw [e2] at h2
      rw [h1.bool_inv, h2.bool_inv]
      exact ⟨(sim_eqBool hu).1, (sim_eqBool (x := x) (y := y) hu).2, .sr (.bool _)⟩
    · simp at hv
  · rename_i k hu
    subst hq
    simp only [evP] at hv
    cases neg <;> exact sim_binV (P := P) (w := w) h1 h2 hv
  · rename_i hu
    subst hq
    simp only [evP] at hv
    cases neg <;> exact sim_binV (P := P) (w := w) h1 h2 hv
  · rename_i te hu
    split at hq
    · rename_i hs; subst hq; simp only [evP] at hv; exact sim_eqPtr hw h1 h2 hu hs hv
    · exact absurd hq.symm hb
  · rename_i te hu; subst hq; simp only [evP] at hv; exact sim_eqNilS h1 h2 hu hv
  · rename_i te tk hu; subst hq; simp only [evP] at hv; exact sim_eqNilM h1 h2 hu hv
  · rename_i hu; subst hq; simp only [evP] at hv; exact sim_eqNilF h1 h2 hu hv
  · rename_i ms' hu
    split at hq
    · rename_i hc; subst hq; simp only [evP] at hv; exact sim_eqIface h1 h2 hu hc hv
    · exact absurd hq.symm hb
  · rename_i fs hu
    split at hq
    · rename_i ks hk
      split at hq
      · rename_i hs
        subst hq
        simp only [Bool.and_eq_true, Bool.not_eq_true'] at hs
        simp only [evP] at hv
        split at hv
        · rename_i l m e1 e2
          rw [e1] at h1; rw [e2] at h2
          exact sim_eqAgg h1 h2 hu hk hs.1 hs.2 hv
        · simp at hv
      · exact absurd hq.symm hb
    · exact absurd hq.symm hb
  · exact absurd hq.symm hb

theorem run_call_builtin {b : Builtin} {args : Array Operand} {ts : Array TypeId} {dst : Option Tmp} {ty : TypeId} {pos : String} {after : Array Edge} {guard : Option (Nat × Bool)} :
    ∃ consts, execOp a.eval { dst, op := .call { callee := .builtin b, args, argTypes := ts }, type := ty, pos, after, guard } = builtin b ts ty consts ⟨args.toList.map a.eval⟩ := by
  refine ⟨(args.map fun | .const _ => true | _ => false), ?_⟩
  have : args.map a.eval = ⟨args.toList.map a.eval⟩ := by apply Array.toList_inj.1; simp
  simp only [execOp, resolve, pure_bind, invoke, this]
  rfl

theorem sim_builtinP {b : Builtin} {args : Array Operand} {ts : Array TypeId} {dst : Option Tmp} {ty : TypeId} {pos : String} {after : Array Edge} {guard : Option (Nat × Bool)} {l : List Opd} {q : POp}
    (hl : cOpds N args.toList = some l) (hq : cBuiltin P b ts.toList l = .p q) (hb : q ≠ .bad) (he : EnvR D f N e a) (hw : WR D f h w) {v : Value} (hv : evP e h q = some v) :
    ∃ v', (execOp a.eval { dst, op := .call { callee := .builtin b, args, argTypes := ts }, type := ty, pos, after, guard }).run P w = .ok (.value v') w ∧ TR D f v v' := by
  obtain ⟨consts, hx⟩ := run_call_builtin (a := a) (b := b) (args := args) (ts := ts) (dst := dst) (ty := ty) (pos := pos) (after := after) (guard := guard)
  rw [hx]
  have hR := cOpds_R he hl
  generalize args.toList.map a.eval = vs at hR
  unfold cBuiltin at hq
  split at hq
  · -- len
    rename_i t x ets
    have ets' : ts = #[t] := by apply Array.toList_inj.1; simpa using ets
    subst ets'
    injection hq with hq
    cases hR with
    | @cons _ x' _ _ hx1 hx2 =>
      cases hx2
      have hx1 : TR D f (x.ev e) x' := hx1
      split at hq
      · rename_i hu
        subst hq
        simp only [evP] at hv
        obtain ⟨s, e1, rfl⟩ : ∃ s, x.ev e = .string s ∧ v = .int .i64 s.size := by
          cases hxe : x.ev e <;> simp [hxe] at hv; exact ⟨_, rfl, hv.symm⟩
        rw [e1] at hx1
        rw [hx1.string_inv]
        exact ⟨_, by simp [builtin, Builtin.len_, run_underlying hu, goInt] <;> rfl, .sr (.int _ _)⟩
      · rename_i te hu
        subst hq
        simp only [evP] at hv
        obtain ⟨a1, n, c, e1, rfl⟩ : ∃ a1 n c, x.ev e = .slice a1 n c ∧ v = .int .i64 n := by
          cases hxe : x.ev e <;> simp [hxe] at hv; exact ⟨_, _, _, rfl, hv.symm⟩
        rw [e1] at hx1
        rcases hx1.slice_inv with ⟨_, rfl, _, rfl⟩ | ⟨_, _, _, _, _, _, _, _, rfl⟩
        · exact ⟨_, by simp [builtin, Builtin.len_, run_underlying hu, goInt] <;> rfl, .sr (.int _ _)⟩
        · exact ⟨_, by simp [builtin, Builtin.len_, run_underlying hu, goInt] <;> rfl, .sr (.int _ _)⟩
      · rename_i n te hu
        subst hq
        simp only [evP, Option.some.injEq] at hv
        subst hv
        exact ⟨_, by simp [builtin, Builtin.len_, run_underlying hu, goInt] <;> rfl, .sr (.int _ _)⟩
      · rename_i ta hu
        split at hq
        · rename_i n te hu2
          subst hq
          simp only [evP, Option.some.injEq] at hv
          subst hv
          exact ⟨_, by simp [builtin, Builtin.len_, run_underlying hu, run_underlying hu2, goInt] <;> rfl, .sr (.int _ _)⟩
        · exact absurd hq.symm hb
      · rename_i tk te hu
        subst hq
        simp only [evP] at hv
        split at hv
        · rename_i e1
          injection hv with hv; subst hv
          rw [e1] at hx1
          rcases hx1.map_inv with ⟨_, rfl⟩ | ⟨_, e2, _⟩
          · exact ⟨_, by simp [builtin, Builtin.len_, run_underlying hu, goInt] <;> rfl, .sr (.int _ _)⟩
          · simp at e2
        · rename_i r e1
          rw [e1] at hx1
          cases hm : h.map? r with
          | none => rw [hm] at hv; simp at hv
          | some es =>
            rw [hm] at hv; simp at hv; subst hv
            rcases hx1.map_inv with ⟨e2, _⟩ | ⟨b', e2, _, rfl⟩
            · simp at e2
            · injection e2 with e2; subst e2
              obtain ⟨ents, clock, g1, g2, _⟩ := hw.map? hm
              have hgo : (getObj (f r).1).run P w = .ok (.map ents clock) w := by simp [getObj, Sem.run, g1]
              have hlen : es.length = ents.size := by simpa using g2.length
              exact ⟨_, by simp [builtin, Builtin.len_, run_underlying hu, hgo, goInt, hlen] <;> rfl, by rw [hlen]; exact .sr (.int _ _)⟩
        · simp at hv
      · exact absurd hq.symm hb
  · -- max
    injection hq with hq; subst hq
    simp only [evP] at hv
    obtain ⟨e1, e2⟩ := sim_max (P := P) (w := w) (ts := ts) (t := ty) hR hv
    exact ⟨v, by simp [builtin, e1], e2⟩
  · injection hq with hq; subst hq
    simp only [evP] at hv
    obtain ⟨e1, e2⟩ := sim_min (P := P) (w := w) (ts := ts) (t := ty) hR hv
    exact ⟨v, by simp [builtin, e1], e2⟩
  · split at hq
    · split at hq
      · split at hq
        · simp at hq
        · exact not_bad hb hq
      · exact not_bad hb hq
    · exact not_bad hb hq
  · split at hq
    · split at hq
      · simp at hq
      · exact not_bad hb hq
    · exact not_bad hb hq
  · split at hq
    · split at hq
      · simp at hq
      · exact not_bad hb hq
    · exact not_bad hb hq
  · split at hq
    · split at hq
      · simp at hq
      · exact not_bad hb hq
    · exact not_bad hb hq
  · exact not_bad hb hq

/-- PART 5 IN ONE: an operation that leaves the heap as it is. -/
theorem simP {o : Oper} {q : POp} (hq : cOp P ms N o.op = .p q) (he : EnvR D f N e a) (hw : WR D f h w) {v : Value} (hv : evP e h q = some v) :
    ∃ v', (execOp a.eval o).run P w = .ok (.value v') w ∧ TR D f v v' := by
  have hb : q ≠ .bad := by rintro rfl; simp [evP] at hv
  obtain ⟨dst, op, ty, pos, after, guard⟩ := o
  simp only at hq
  cases op with
  | move x =>
    obtain ⟨x', hx, hq⟩ := get1_p hq hb
    injection hq with hq; subst hq
    simp [evP] at hv; subst hv
    exact ⟨_, by simp [execOp], cOpd_R he hx⟩
  | assign x =>
    obtain ⟨x', hx, hq⟩ := get1_p hq hb
    injection hq with hq; subst hq
    simp [evP] at hv; subst hv
    exact ⟨_, by simp [execOp], cOpd_R he hx⟩
  | pick c x y =>
    obtain ⟨c', hc, hq⟩ := get1_p hq hb
    obtain ⟨x', hx, hq⟩ := get1_p hq hb
    obtain ⟨y', hy, hq⟩ := get1_p hq hb
    injection hq with hq; subst hq
    have hR := cOpd_R he hc
    simp only [evP] at hv
    split at hv
    · rename_i ec
      injection hv with hv; subst hv
      rw [ec] at hR
      exact ⟨_, by simp [execOp, hR.bool_inv, asBool], cOpd_R he hx⟩
    · rename_i ec
      injection hv with hv; subst hv
      rw [ec] at hR
      exact ⟨_, by simp [execOp, hR.bool_inv, asBool], cOpd_R he hy⟩
    · simp at hv
  | alloc t => obtain ⟨_, _, hq⟩ := get1_p hq hb; simp at hq
  | box t x => obtain ⟨_, _, hq⟩ := get1_p hq hb; simp at hq
  | build t parts =>
    obtain ⟨z, hz, hq⟩ := get1_p hq hb
    obtain ⟨zv, hz1, hz2⟩ : ∃ zv, zeroT P t = some zv ∧ litCells zv = some z := by
      cases hzz : zeroT P t with
      | none => rw [hzz] at hz; simp at hz
      | some zv => rw [hzz] at hz; exact ⟨zv, rfl, by simpa using hz⟩
    have hzc : zv.cells = ⟨z⟩ ∧ z.all litC = true := by
      unfold litCells at hz2
      split at hz2
      · rename_i hl
        injection hz2 with hz2; subst hz2
        refine ⟨?_, hl⟩
        cases zv <;> first | rfl | (simp [cellsOf, litC] at hl)
      · simp at hz2
    have hzr := litL_CR D f hzc.2
    split at hq
    · rename_i fs hu
      obtain ⟨pl, hpl, hq⟩ := get1_p hq hb
      obtain ⟨ps, hps, hq⟩ := get1_p hq hb
      injection hq with hq; subst hq
      simp only [evP] at hv
      cases hf : fillC e z ps with
      | none => rw [hf] at hv; simp at hv
      | some r =>
        rw [hf] at hv; simp at hv; subst hv
        obtain ⟨r', k1, k2⟩ := sim_fill he hps hzr hf
        refine ⟨.agg ⟨r'⟩, ?_, .g (.agg k2)⟩
        have k1' : Instr.fill (fun i => (⟨pl⟩ : Array (Nat × Nat))[i]?) ⟨z⟩ (parts.toList.map fun (i, x) => (i, a.eval x)) = some ⟨r'⟩ := by
          rw [show (fun i => (⟨pl⟩ : Array (Nat × Nat))[i]?) = (fun i => pl[i]?) from by funext i; simp]; exact k1
        simp only [execOp, Instr.build, Sem.run_bind, run_zeroT hz1, Result.andThen_ok, run_underlying hu, Array.mapM_eq_mapM_toList, Sem.run_map, run_sizesF (w := w) hpl, hzc.1, Array.toList_map]
        rw [show (Instr.fill (fun x => (List.toArray pl)[x]?) ⟨z⟩ (parts.toList.map fun (i, x) => (i, a.eval x))) = some ⟨r'⟩ from k1']
        simp
    · rename_i n te hu
      obtain ⟨sz, hsz, hq⟩ := get1_p hq hb
      obtain ⟨ps, hps, hq⟩ := get1_p hq hb
      injection hq with hq; subst hq
      simp only [evP] at hv
      cases hf : fillC e z ps with
      | none => rw [hf] at hv; simp at hv
      | some r =>
        rw [hf] at hv; simp at hv; subst hv
        obtain ⟨r', k1, k2⟩ := sim_fill he hps hzr hf
        refine ⟨.agg ⟨r'⟩, ?_, .g (.agg k2)⟩
        simp only [execOp, Instr.build, Sem.run_bind, run_zeroT hz1, Result.andThen_ok, run_underlying hu, run_sizeT hsz, hzc.1, Array.toList_map, k1, Sem.run_pure]
    · injection hq with hq; exact absurd hq.symm hb
  | buildSlice t len parts =>
    simp only [cOp] at hq
    split at hq
    · obtain ⟨_, _, hq⟩ := get1_p hq hb
      obtain ⟨_, _, hq⟩ := get1_p hq hb
      split at hq
      · obtain ⟨_, _, hq⟩ := get1_p hq hb; simp at hq
      · exact not_bad hb hq
    · exact not_bad hb hq
  | insert t m k x => exact not_bad hb hq
  | load t x =>
    obtain ⟨x', hx, hq⟩ := get1_p hq hb
    obtain ⟨g, hg, hq⟩ := get1_p hq hb
    obtain ⟨n, hn, hq⟩ := get1_p hq hb
    injection hq with hq; subst hq
    obtain ⟨v', k1, k2⟩ := sim_load (P := P) (a := a) he hw hx hg hn hv
    exact ⟨v', by simp [execOp, k1], k2⟩
  | store t x y =>
    obtain ⟨_, _, hq⟩ := get1_p hq hb
    obtain ⟨_, _, hq⟩ := get1_p hq hb
    obtain ⟨_, _, hq⟩ := get1_p hq hb
    simp at hq
  | ready g => exact not_bad hb hq
  | waits g => exact not_bad hb hq
  | nilCheck x =>
    obtain ⟨x', hx, hq⟩ := get1_p hq hb
    injection hq with hq; subst hq
    simp only [evP] at hv
    exact sim_nilCheck (P := P) (w := w) (cOpd_R he hx) hv
  | binOp op t x y yt =>
    obtain ⟨x', hx, hq⟩ := get1_p hq hb
    obtain ⟨y', hy, hq⟩ := get1_p hq hb
    injection hq with hq
    unfold cBin at hq
    split at hq
    · obtain ⟨e1, e2, e3⟩ := sim_cEq hq hb he hw hx hy hv
      rw [if_neg (by simp)] at e1 e2
      exact ⟨v, by simp [execOp, e1, e2], e3⟩
    · obtain ⟨e1, e2, e3⟩ := sim_cEq hq hb he hw hx hy hv
      rw [if_pos rfl] at e1 e2
      exact ⟨v, by simp [execOp, e1, e2], e3⟩
    · subst hq
      simp only [evP] at hv
      obtain ⟨e1, e2, e3⟩ := sim_binV (P := P) (w := w) (t := t) (x := x) (y := y) (cOpd_R he hx) (cOpd_R he hy) hv
      exact ⟨v, by simp [execOp, e1, e2], e3⟩
  | unOp op t x =>
    cases op with
    | not =>
      obtain ⟨x', hx, hq⟩ := get1_p hq hb
      injection hq with hq; subst hq
      have hR := cOpd_R he hx
      simp only [evP] at hv
      split at hv
      · rename_i b e1
        injection hv with hv; subst hv
        rw [e1] at hR
        exact ⟨_, by simp [execOp, hR.bool_inv, Op.unary] <;> rfl, .sr (.bool _)⟩
      · simp at hv
    | neg =>
      obtain ⟨x', hx, hq⟩ := get1_p hq hb
      injection hq with hq; subst hq
      have hR := cOpd_R he hx
      simp only [evP] at hv
      split at hv
      · rename_i k n e1
        injection hv with hv; subst hv
        rw [e1] at hR
        exact ⟨_, by simp [execOp, hR.int_inv, Op.unary, Op.intArith] <;> rfl, by rw [wr_eq]; simp; exact .sr (.int _ _)⟩
      · simp at hv
    | _ => exact not_bad hb hq
  | convert s d x =>
    obtain ⟨x', hx, hq⟩ := get1_p hq hb
    injection hq with hq
    have hR := cOpd_R he hx
    unfold cConv at hq
    split at hq
    · rename_i ks kd hs hd
      subst hq
      simp only [evP] at hv
      split at hv
      · rename_i k n e1
        injection hv with hv; subst hv
        rw [e1] at hR
        exact ⟨_, by simp [execOp, convert, hR.int_inv, run_underlying hs, run_underlying hd, Conv.intToInt] <;> rfl, by rw [wr_eq]; exact .sr (.int _ _)⟩
      · simp at hv
    · rename_i te hs hd
      split at hq
      · rename_i hte
        subst hq
        simp only [evP] at hv
        obtain ⟨e1, e2⟩ := sim_string (P := P) hw hR hv
        refine ⟨v, ?_, e2⟩
        have hsl : ∃ b n c, a.eval x = .slice b n c := by
          unfold strOf at hv
          split at hv
          · rename_i e3; rw [e3] at hR
            rcases hR.slice_inv with ⟨_, _, _, e⟩ | ⟨_, _, _, _, _, _, _, _, e⟩ <;> exact ⟨_, _, _, e⟩
          · rename_i e3; rw [e3] at hR
            rcases hR.slice_inv with ⟨_, _, _, e⟩ | ⟨_, _, _, _, _, _, _, _, e⟩ <;> exact ⟨_, _, _, e⟩
          · simp at hv
        obtain ⟨b, n, c, hsl⟩ := hsl
        rw [hsl] at e1
        have e4 : (convert s d (.slice b n c)).run P w = .ok v w := by
          cases b <;> simp [convert, run_underlying hs, run_underlying hd, run_underlying hte, e1]
        simp [execOp, hsl, e4]
      · exact absurd hq.symm hb
    · exact absurd hq.symm hb
  | sliceToArrayPointer t x => exact not_bad hb hq
  | makeInterface t x =>
    obtain ⟨x', hx, hq⟩ := get1_p hq hb
    split at hq
    · exact not_bad hb hq
    · rename_i d hn hu
      injection hq with hq; subst hq
      simp only [evP] at hv
      split at hv
      · rename_i hs
        injection hv with hv; subst hv
        refine ⟨.iface t (a.eval x), ?_, .g (.c (.iface t ((cOpd_R he hx).scal hs)))⟩
        simp only [execOp, Instr.makeInterface, Sem.run_bind, run_underlying hu, Result.andThen_ok]
        cases d <;> first | rfl | exact absurd rfl (hn _)
      · simp at hv
    · exact not_bad hb hq
  | makeFunc fn first captured =>
    cases fn with
    | func g =>
      obtain ⟨l, hl, hq⟩ := get1_p hq hb
      obtain ⟨m, hm, hq⟩ := get1_p hq hb
      injection hq with hq; subst hq
      simp only [evP] at hv
      have := sim_makeFunc (cOpds_R he hl) (cOpds_R he hm) hv
      refine ⟨_, ?_, this⟩
      have e1 : first.map a.eval = ⟨first.toList.map a.eval⟩ := by apply Array.toList_inj.1; simp
      have e2 : captured.map a.eval = ⟨captured.toList.map a.eval⟩ := by apply Array.toList_inj.1; simp
      simp only [execOp, Instr.makeFunc, e1, e2]
      rfl
    | _ => exact not_bad hb hq
  | makeMap t r => cases r <;> simp [cOp] at hq; exact absurd hq.symm hb
  | makeChan t s => exact not_bad hb hq
  | makeSlice t l c =>
    simp only [cOp] at hq
    split at hq
    · obtain ⟨_, _, hq⟩ := get1_p hq hb
      obtain ⟨_, _, hq⟩ := get1_p hq hb
      obtain ⟨_, _, hq⟩ := get1_p hq hb
      obtain ⟨_, _, hq⟩ := get1_p hq hb
      obtain ⟨_, _, hq⟩ := get1_p hq hb
      split at hq
      · simp at hq
      · exact not_bad hb hq
    · exact not_bad hb hq
  | slice t x lo hi mx =>
    obtain ⟨x', hx, hq⟩ := get1_p hq hb
    obtain ⟨lo', hlo, hq⟩ := get1_p hq hb
    obtain ⟨hi', hhi, hq⟩ := get1_p hq hb
    obtain ⟨mx', hmx, hq⟩ := get1_p hq hb
    have hR := cOpd_R he hx
    split at hq
    · rename_i te hu
      obtain ⟨n, hn, hq⟩ := get1_p hq hb
      rcases get1_if hq with ⟨hn0, hq⟩ | ⟨_, hq⟩
      · injection hq with hq; subst hq
        simp only [evP] at hv
        split at hv
        · simp at hv
        · rename_i hns
          have hsl : ∃ ad len c, x'.ev e = .slice ad len c := by
            cases hxe : x'.ev e <;> rw [hxe] at hv hns <;> first | exact ⟨_, _, _, rfl⟩ | (simp [sliceV] at hv; done) | (simp [isStr] at hns; done)
          obtain ⟨r', k1, k2⟩ := sim_slice (P := P) (w := w) hR (cOpt_R he hlo) (cOpt_R he hhi) (cOpt_R he hmx) hu hn hn0 hsl hv
          exact ⟨r', by simp [execOp, k1], k2⟩
      · exact not_bad hb hq
    · rename_i hu
      injection hq with hq; subst hq
      simp only [evP] at hv
      split at hv
      · simp at hv
      · rename_i hns
        have hsl : ∃ s, x'.ev e = .string s := by
          cases hxe : x'.ev e <;> rw [hxe] at hns <;> first | exact ⟨_, rfl⟩ | (simp [isStr] at hns; done)
        obtain ⟨s, hs⟩ := hsl
        rw [hs] at hR hv
        obtain ⟨r', k1, k2⟩ := sim_sliceStr (P := P) (w := w) hR (cOpt_R he hlo) (cOpt_R he hhi) (cOpt_R he hmx) hu hv
        exact ⟨r', by simp [execOp, k1], k2⟩
    · exact not_bad hb hq
  | fieldAddr t x i =>
    simp only [cOp] at hq
    split at hq
    · rename_i fs hu
      obtain ⟨fd, hfd, hq⟩ := get1_p hq hb
      obtain ⟨x', hx, hq⟩ := get1_p hq hb
      rcases get1_if hq with ⟨hn, hq⟩ | ⟨_, hq⟩
      · injection hq with hq; subst hq
        simp only [evP] at hv
        obtain ⟨r', k1, k2⟩ := sim_fieldAddr (P := P) (w := w) (cOpd_R he hx) hu hfd hn hv
        exact ⟨r', by simp [execOp, k1], k2⟩
      · exact not_bad hb hq
    · exact not_bad hb hq
  | field t x i =>
    simp only [cOp] at hq
    split at hq
    · rename_i fs hu
      obtain ⟨fd, hfd, hq⟩ := get1_p hq hb
      obtain ⟨x', hx, hq⟩ := get1_p hq hb
      obtain ⟨g, hg, hq⟩ := get1_p hq hb
      obtain ⟨n, hn, hq⟩ := get1_p hq hb
      injection hq with hq; subst hq
      simp only [evP] at hv
      obtain ⟨r', k1, k2⟩ := sim_field (P := P) (w := w) (cOpd_R he hx) hu hfd hg hn hv
      exact ⟨r', by simp [execOp, k1], k2⟩
    · exact not_bad hb hq
  | indexAddr t x i =>
    obtain ⟨x', hx, hq⟩ := get1_p hq hb
    obtain ⟨i', hi, hq⟩ := get1_p hq hb
    split at hq
    · rename_i te hu
      obtain ⟨n, hn, hq⟩ := get1_p hq hb
      injection hq with hq; subst hq
      simp only [evP] at hv
      obtain ⟨r', k1, k2⟩ := sim_indexAddr (P := P) (w := w) (cOpd_R he hx) (cOpd_R he hi) hu hn hv
      exact ⟨r', by simp [execOp, k1], k2⟩
    · rename_i len te hu
      obtain ⟨n, hn, hq⟩ := get1_p hq hb
      injection hq with hq; subst hq
      simp only [evP] at hv
      obtain ⟨r', k1, k2⟩ := sim_indexAddrA (P := P) (w := w) (cOpd_R he hx) (cOpd_R he hi) hu hn hv
      exact ⟨r', by simp [execOp, k1], k2⟩
    · exact not_bad hb hq
  | index t x i =>
    obtain ⟨x', hx, hq⟩ := get1_p hq hb
    obtain ⟨i', hi, hq⟩ := get1_p hq hb
    split at hq
    · rename_i len te hu
      obtain ⟨n, hn, hq⟩ := get1_p hq hb
      obtain ⟨g, hg, hq⟩ := get1_p hq hb
      injection hq with hq; subst hq
      simp only [evP] at hv
      obtain ⟨r', k1, k2⟩ := sim_index (P := P) (w := w) (cOpd_R he hx) (cOpd_R he hi) hu hn hg hv
      exact ⟨r', by simp [execOp, k1], k2⟩
    · rename_i hu
      injection hq with hq; subst hq
      simp only [evP] at hv
      obtain ⟨r', k1, k2⟩ := sim_indexS (P := P) (w := w) (cOpd_R he hx) (cOpd_R he hi) hu hv
      exact ⟨r', by simp [execOp, k1], k2⟩
    · exact not_bad hb hq
  | lookup t m k ok =>
    simp only [cOp] at hq
    split at hq
    · rename_i tk te hu
      split at hq
      · rename_i hk
        obtain ⟨m', hm, hq⟩ := get1_p hq hb
        obtain ⟨k', hk', hq⟩ := get1_p hq hb
        obtain ⟨z, hz, hq⟩ := get1_p hq hb
        rcases get1_if hq with ⟨hzo, hq⟩ | ⟨_, hq⟩
        · injection hq with hq; subst hq
          simp only [evP] at hv
          obtain ⟨r', k1, k2⟩ := sim_lookup (P := P) hw (cOpd_R he hm) (cOpd_R he hk') hu hk hz hzo hv
          exact ⟨r', by simp [execOp, k1], k2⟩
        · exact not_bad hb hq
      · exact not_bad hb hq
    · exact not_bad hb hq
  | mapUpdate t m k x =>
    simp only [cOp] at hq
    split at hq
    · split at hq
      · obtain ⟨_, _, hq⟩ := get1_p hq hb
        obtain ⟨_, _, hq⟩ := get1_p hq hb
        obtain ⟨_, _, hq⟩ := get1_p hq hb
        simp at hq
      · exact not_bad hb hq
    · exact not_bad hb hq
  | mapEntry t m k => exact not_bad hb hq
  | entryStore t m s x => exact not_bad hb hq
  | range t x => exact not_bad hb hq
  | next it s => exact not_bad hb hq
  | entry it => exact not_bad hb hq
  | typeAssert x t as ok => exact not_bad hb hq
  | extract x i =>
    obtain ⟨x', hx, hq⟩ := get1_p hq hb
    injection hq with hq; subst hq
    simp only [evP] at hv
    obtain ⟨r', k1, k2⟩ := sim_extract (P := P) (w := w) (cOpd_R he hx) hv
    exact ⟨r', by simp [execOp, k1], k2⟩
  | call c =>
    obtain ⟨callee, args, ts⟩ := c
    cases callee with
    | value g =>
      obtain ⟨_, _, hq⟩ := get1_p hq hb
      obtain ⟨_, _, hq⟩ := get1_p hq hb
      simp at hq
    | invoke g m =>
      obtain ⟨_, _, hq⟩ := get1_p hq hb
      obtain ⟨_, _, hq⟩ := get1_p hq hb
      split at hq
      · simp at hq
      · exact not_bad hb hq
    | builtin b =>
      obtain ⟨l, hl, hq⟩ := get1_p hq hb
      exact sim_builtinP hl hq hb he hw hv
  | go c => exact not_bad hb hq
  | defer c => exact not_bad hb hq
  | panic x => exact not_bad hb hq
  | send c x => exact not_bad hb hq
  | recv t c ok => exact not_bad hb hq
  | select cs b => exact not_bad hb hq

end ops
end Go.Proofs.PantryEng

/- errors.As and api.Number, by their walks. -/
import Derived.Test.YtgnmjfnkibbnkaaGreatDoorM16
set_option linter.unusedSimpArgs false
set_option linter.unusedVariables false
namespace Go.Proofs.YtgnmjfnkibbnkaaGreatDoor
open Go.RowKit Go.Extern.Stop Go.Stop Go.Extern
set_option maxRecDepth 100000
set_option maxHeartbeats 8000000

theorem noAsF (v : Value) (xT : TypeId) (w : World) : (Instr.typeAssert (.iface 279 v) xT 322 true).run Tryz.prog w = .ok (.tuple #[.nilIface, .bool false]) w := run_typeAssert_lacksB Tryz.underlying322 (by kernel_rfl) (by kernel_rfl) v xT w

theorem as_nil (t : Value) (w : World) : Calls Tryz.prog 154 #[.nilIface, t] w fun e w' => e = .returned (.bool false) ∧ w' = w := by
  go_enter Tryz.func154, Tryz.ntmps154
  go_wp2
  go_ret
  exact ⟨rfl, rfl⟩

theorem as_errno (m : Int) (t : Addr) (old : Value) (w : World) (hg : w.cell? ⟨0, 0, none⟩ = some (.iface 270 (.agg #[.pointer (some ⟨1, 212, none⟩)]))) (ht0 : w.cell? t = some old) (hf0 : w.frozen? t = false) :
    Calls Tryz.prog 154 #[.iface 30 (.int .i64 m), .iface 268 (.pointer (some t))] w fun ev w' => ev = .returned (.bool true) ∧ w' = ((((w.alloc (.cells #[.pointer (some t)] 268)).alloc (.cells #[.pointer (some ⟨1, 268, none⟩), .pointer (some ⟨w.heap.size, 0, none⟩), .int .u64 150] 308)).alloc (.cells #[.pointer (some ⟨1, 268, none⟩), .pointer (some ⟨w.heap.size, 0, none⟩), .int .u64 150] 308)).alloc (.cells #[.int .i64 m] 30)).setCell t (.int .i64 m) := by
  have h6 := @run_callFunc_extern Tryz.prog 172 _ (fun args => ReflectliteValue.unpack (args.getD 0 (.tuple #[]))) Tryz.func172 (by kernel_rfl) (by kernel_rfl) (by kernel_rfl) (by kernel_rfl)
  have h7 := @run_callFunc_extern Tryz.prog 173 _ (ReflectliteValue.methodAny (ReflectliteValue.valueError "reflectlite.Value.Type" 0) (fun t _ _ _ => ReflectliteType.toType t)) Tryz.func173 (by kernel_rfl) (by kernel_rfl) (by kernel_rfl) (by kernel_rfl)
  have h8 := @run_callFunc_extern Tryz.prog 174 _ (ReflectliteValue.method (ReflectliteValue.valueError "reflectlite.Value.IsNil" 0) ReflectliteValue.isNil) Tryz.func174 (by kernel_rfl) (by kernel_rfl) (by kernel_rfl) (by kernel_rfl)
  have h27 := @run_callFunc_extern Tryz.prog 253 _ (ReflectliteType.abiMethod fun t => do pure (.int .u8 (← Rtype.kind t))) Tryz.func253 (by kernel_rfl) (by kernel_rfl) (by kernel_rfl) (by kernel_rfl)
  have h37 := @run_callFunc_extern Tryz.prog 271 _ (ReflectliteType.method ReflectliteType.elem) Tryz.func271 (by kernel_rfl) (by kernel_rfl) (by kernel_rfl) (by kernel_rfl)
  have h38 := @run_callFunc_extern Tryz.prog 272 _ (ReflectliteType.relation "Implements" ReflectliteType.implements_) Tryz.func272 (by kernel_rfl) (by kernel_rfl) (by kernel_rfl) (by kernel_rfl)
  have h10 := @run_callFunc_extern Tryz.prog 126 _ ReflectliteType.typeOf Tryz.func126 (by kernel_rfl) (by kernel_rfl) (by kernel_rfl) (by kernel_rfl)
  have h35 := @run_callFunc_extern Tryz.prog 269 _ (ReflectliteType.relation "AssignableTo" ReflectliteType.assignableTo) Tryz.func269 (by kernel_rfl) (by kernel_rfl) (by kernel_rfl) (by kernel_rfl)
  have h11 := @run_callFunc_extern Tryz.prog 192 _ (ReflectliteValue.method (ReflectliteValue.valueError "reflectlite.Value.Elem" 0) ReflectliteValue.elem) Tryz.func192 (by kernel_rfl) (by kernel_rfl) (by kernel_rfl) (by kernel_rfl)
  have h12 := @run_callFunc_extern Tryz.prog 193 _ ReflectliteValue.set Tryz.func193 (by kernel_rfl) (by kernel_rfl) (by kernel_rfl) (by kernel_rfl)
  have tO := typeOfE
  have mA := methodAssignableTo
  have aE := assignableE
  have vE := valueOfE
  have f6 := valueOfP
  have f7 := typeP
  have mK := methodKind
  have mE := methodElem
  have mI := methodImplements
  have kP := kindP
  have kE := kindE
  have eP := elemP
  have iE := implementsE
  have n8 := isNilP ⟨w.heap.size, 0, none⟩ t ((w.alloc (.cells #[.pointer (some t)] 268)).alloc (.cells #[.pointer (some ⟨1, 268, none⟩), .pointer (some ⟨w.heap.size, 0, none⟩), .int .u64 150] 308)) (by simp)
  have hlt : 0 < w.heap.size := by
    rcases Nat.eq_zero_or_pos w.heap.size with h0 | h
    · simp [World.cell?, h0] at hg
    · exact h
  have hg2 : ((w.alloc (.cells #[.pointer (some t)] 268)).alloc (.cells #[.pointer (some ⟨1, 268, none⟩), .pointer (some ⟨w.heap.size, 0, none⟩), .int .u64 150] 308)).cell? ⟨0, 0, none⟩ = some (.iface 270 (.agg #[.pointer (some ⟨1, 212, none⟩)])) := by
    rw [World.cell?_alloc_lt _ _ ⟨0, 0, none⟩ (by simp), World.cell?_alloc_lt _ _ ⟨0, 0, none⟩ hlt]; exact hg
  have htl : t.block < w.heap.size := by
    rcases Nat.lt_or_ge t.block w.heap.size with h | h
    · exact h
    · simp [World.cell?, Array.getElem?_eq_none h] at ht0
  have el := elemVP ⟨w.heap.size, 0, none⟩ t (((w.alloc (.cells #[.pointer (some t)] 268)).alloc (.cells #[.pointer (some ⟨1, 268, none⟩), .pointer (some ⟨w.heap.size, 0, none⟩), .int .u64 150] 308)).alloc (.cells #[.pointer (some ⟨1, 268, none⟩), .pointer (some ⟨w.heap.size, 0, none⟩), .int .u64 150] 308)) (by rw [World.cell?_alloc_lt _ _ ⟨w.heap.size, 0, none⟩ (by simp; omega)]; simp)
  have st := setE t ⟨w.heap.size + 1 + 1 + 1, 0, none⟩ m old ((((w.alloc (.cells #[.pointer (some t)] 268)).alloc (.cells #[.pointer (some ⟨1, 268, none⟩), .pointer (some ⟨w.heap.size, 0, none⟩), .int .u64 150] 308)).alloc (.cells #[.pointer (some ⟨1, 268, none⟩), .pointer (some ⟨w.heap.size, 0, none⟩), .int .u64 150] 308)).alloc (.cells #[.int .i64 m] 30))
    (by rw [World.cell?_alloc_at _ _ _ _ (by simp)]; rfl)
    (by rw [World.cell?_alloc_lt _ _ t (by simp; omega), World.cell?_alloc_lt _ _ t (by simp; omega), World.cell?_alloc_lt _ _ t (by simp; omega), World.cell?_alloc_lt _ _ t htl]; exact ht0)
    (by rw [World.frozen?_alloc_old _ _ t (by simp; omega), World.frozen?_alloc_old _ _ t (by simp; omega), World.frozen?_alloc_old _ _ t (by simp; omega), World.frozen?_alloc_old _ _ t (Nat.ne_of_lt htl)]; exact hf0)
  go_enter Tryz.func154, Tryz.ntmps154
  go_wp2
  refine wp_loop_rounds 1 ?_
  rw [rounds_succ]
  go_wp2
  go_ret
  exact ⟨rfl, rfl⟩
theorem as_fault (a : Addr) (m : Int) (t : Addr) (old : Value) (w : World) (hc : w.cell? a = some (.int .i64 m)) (hg : w.cell? ⟨0, 0, none⟩ = some (.iface 270 (.agg #[.pointer (some ⟨1, 212, none⟩)]))) (ht0 : w.cell? t = some old) (hf0 : w.frozen? t = false) :
    Calls Tryz.prog 154 #[.iface 279 (.pointer (some a)), .iface 268 (.pointer (some t))] w fun ev w' => ev = .returned (.bool true) ∧ w' = ((((w.alloc (.cells #[.pointer (some t)] 268)).alloc (.cells #[.pointer (some ⟨1, 268, none⟩), .pointer (some ⟨w.heap.size, 0, none⟩), .int .u64 150] 308)).alloc (.cells #[.pointer (some ⟨1, 268, none⟩), .pointer (some ⟨w.heap.size, 0, none⟩), .int .u64 150] 308)).alloc (.cells #[.int .i64 m] 30)).setCell t (.int .i64 m) := by
  have h6 := @run_callFunc_extern Tryz.prog 172 _ (fun args => ReflectliteValue.unpack (args.getD 0 (.tuple #[]))) Tryz.func172 (by kernel_rfl) (by kernel_rfl) (by kernel_rfl) (by kernel_rfl)
  have h7 := @run_callFunc_extern Tryz.prog 173 _ (ReflectliteValue.methodAny (ReflectliteValue.valueError "reflectlite.Value.Type" 0) (fun t _ _ _ => ReflectliteType.toType t)) Tryz.func173 (by kernel_rfl) (by kernel_rfl) (by kernel_rfl) (by kernel_rfl)
  have h8 := @run_callFunc_extern Tryz.prog 174 _ (ReflectliteValue.method (ReflectliteValue.valueError "reflectlite.Value.IsNil" 0) ReflectliteValue.isNil) Tryz.func174 (by kernel_rfl) (by kernel_rfl) (by kernel_rfl) (by kernel_rfl)
  have h27 := @run_callFunc_extern Tryz.prog 253 _ (ReflectliteType.abiMethod fun t => do pure (.int .u8 (← Rtype.kind t))) Tryz.func253 (by kernel_rfl) (by kernel_rfl) (by kernel_rfl) (by kernel_rfl)
  have h37 := @run_callFunc_extern Tryz.prog 271 _ (ReflectliteType.method ReflectliteType.elem) Tryz.func271 (by kernel_rfl) (by kernel_rfl) (by kernel_rfl) (by kernel_rfl)
  have h38 := @run_callFunc_extern Tryz.prog 272 _ (ReflectliteType.relation "Implements" ReflectliteType.implements_) Tryz.func272 (by kernel_rfl) (by kernel_rfl) (by kernel_rfl) (by kernel_rfl)
  have h10 := @run_callFunc_extern Tryz.prog 126 _ ReflectliteType.typeOf Tryz.func126 (by kernel_rfl) (by kernel_rfl) (by kernel_rfl) (by kernel_rfl)
  have h35 := @run_callFunc_extern Tryz.prog 269 _ (ReflectliteType.relation "AssignableTo" ReflectliteType.assignableTo) Tryz.func269 (by kernel_rfl) (by kernel_rfl) (by kernel_rfl) (by kernel_rfl)
  have h11 := @run_callFunc_extern Tryz.prog 192 _ (ReflectliteValue.method (ReflectliteValue.valueError "reflectlite.Value.Elem" 0) ReflectliteValue.elem) Tryz.func192 (by kernel_rfl) (by kernel_rfl) (by kernel_rfl) (by kernel_rfl)
  have h12 := @run_callFunc_extern Tryz.prog 193 _ ReflectliteValue.set Tryz.func193 (by kernel_rfl) (by kernel_rfl) (by kernel_rfl) (by kernel_rfl)
  have tO := typeOfE
  have tF := typeOfF
  have aF := assignableF
  have nF := noAsF
  have uF := hasUnwrapF
  have mU := methodUnwrapF
  have mA := methodAssignableTo
  have aE := assignableE
  have vE := valueOfE
  have f6 := valueOfP
  have f7 := typeP
  have mK := methodKind
  have mE := methodElem
  have mI := methodImplements
  have kP := kindP
  have kE := kindE
  have eP := elemP
  have iE := implementsE
  have n8 := isNilP ⟨w.heap.size, 0, none⟩ t ((w.alloc (.cells #[.pointer (some t)] 268)).alloc (.cells #[.pointer (some ⟨1, 268, none⟩), .pointer (some ⟨w.heap.size, 0, none⟩), .int .u64 150] 308)) (by simp)
  have hlt : 0 < w.heap.size := by
    rcases Nat.eq_zero_or_pos w.heap.size with h0 | h
    · simp [World.cell?, h0] at hg
    · exact h
  have hg2 : ((w.alloc (.cells #[.pointer (some t)] 268)).alloc (.cells #[.pointer (some ⟨1, 268, none⟩), .pointer (some ⟨w.heap.size, 0, none⟩), .int .u64 150] 308)).cell? ⟨0, 0, none⟩ = some (.iface 270 (.agg #[.pointer (some ⟨1, 212, none⟩)])) := by
    rw [World.cell?_alloc_lt _ _ ⟨0, 0, none⟩ (by simp), World.cell?_alloc_lt _ _ ⟨0, 0, none⟩ hlt]; exact hg
  have htl : t.block < w.heap.size := by
    rcases Nat.lt_or_ge t.block w.heap.size with h | h
    · exact h
    · simp [World.cell?, Array.getElem?_eq_none h] at ht0
  have hal : a.block < w.heap.size := by
    rcases Nat.lt_or_ge a.block w.heap.size with h | h
    · exact h
    · simp [World.cell?, Array.getElem?_eq_none h] at hc
  have hca : (((w.alloc (.cells #[.pointer (some t)] 268)).alloc (.cells #[.pointer (some ⟨1, 268, none⟩), .pointer (some ⟨w.heap.size, 0, none⟩), .int .u64 150] 308)).alloc (.cells #[.pointer (some ⟨1, 268, none⟩), .pointer (some ⟨w.heap.size, 0, none⟩), .int .u64 150] 308)).cell? a = some (.int .i64 m) := by
    rw [World.cell?_alloc_lt _ _ a (by simp; omega), World.cell?_alloc_lt _ _ a (by simp; omega), World.cell?_alloc_lt _ _ a hal]; exact hc
  have el := elemVP ⟨w.heap.size, 0, none⟩ t (((w.alloc (.cells #[.pointer (some t)] 268)).alloc (.cells #[.pointer (some ⟨1, 268, none⟩), .pointer (some ⟨w.heap.size, 0, none⟩), .int .u64 150] 308)).alloc (.cells #[.pointer (some ⟨1, 268, none⟩), .pointer (some ⟨w.heap.size, 0, none⟩), .int .u64 150] 308)) (by rw [World.cell?_alloc_lt _ _ ⟨w.heap.size, 0, none⟩ (by simp; omega)]; simp)
  have st := setE t ⟨w.heap.size + 1 + 1 + 1, 0, none⟩ m old ((((w.alloc (.cells #[.pointer (some t)] 268)).alloc (.cells #[.pointer (some ⟨1, 268, none⟩), .pointer (some ⟨w.heap.size, 0, none⟩), .int .u64 150] 308)).alloc (.cells #[.pointer (some ⟨1, 268, none⟩), .pointer (some ⟨w.heap.size, 0, none⟩), .int .u64 150] 308)).alloc (.cells #[.int .i64 m] 30))
    (by rw [World.cell?_alloc_at _ _ _ _ (by simp)]; rfl)
    (by rw [World.cell?_alloc_lt _ _ t (by simp; omega), World.cell?_alloc_lt _ _ t (by simp; omega), World.cell?_alloc_lt _ _ t (by simp; omega), World.cell?_alloc_lt _ _ t htl]; exact ht0)
    (by rw [World.frozen?_alloc_old _ _ t (by simp; omega), World.frozen?_alloc_old _ _ t (by simp; omega), World.frozen?_alloc_old _ _ t (by simp; omega), World.frozen?_alloc_old _ _ t (Nat.ne_of_lt htl)]; exact hf0)
  go_enter Tryz.func154, Tryz.ntmps154
  go_wp2
  refine wp_loop_rounds 2 ?_
  rw [rounds_succ]
  go_wp2
  rw [rounds_succ]
  go_wp2
  go_ret
  exact ⟨rfl, rfl⟩

theorem number_nil (w : World) : Calls Tryz.prog 123 #[.nilIface] w fun e w' => e = .returned (.int .i64 0) ∧ w' = w.alloc (.cells #[.int .i64 0] 30) := by
  go_enter Tryz.func123, Tryz.ntmps123
  go_wp2_with (first | (go_at_call 154; refine (as_nil _ _).mono ?_; rintro e w' ⟨rfl, rfl⟩))
  go_ret
  exact ⟨rfl, rfl⟩

theorem number_errno (m : Int) (w : World) (hg : w.cell? ⟨0, 0, none⟩ = some (.iface 270 (.agg #[.pointer (some ⟨1, 212, none⟩)]))) :
    Calls Tryz.prog 123 #[.iface 30 (.int .i64 m)] w fun e w' => e = .returned (.int .i64 m) ∧ Below w.heap.size w w' := by
  have hlt : 0 < w.heap.size := by
    rcases Nat.eq_zero_or_pos w.heap.size with h0 | h
    · simp [World.cell?, h0] at hg
    · exact h
  have hg1 : (w.alloc (.cells #[.int .i64 0] 30)).cell? ⟨0, 0, none⟩ = some (.iface 270 (.agg #[.pointer (some ⟨1, 212, none⟩)])) := by
    rw [World.cell?_alloc_lt _ _ ⟨0, 0, none⟩ hlt]; exact hg
  have ht1 : (w.alloc (.cells #[.int .i64 0] 30)).cell? ⟨w.heap.size, 0, none⟩ = some (.int .i64 0) := by simp
  have hf1 : (w.alloc (.cells #[.int .i64 0] 30)).frozen? ⟨w.heap.size, 0, none⟩ = false := by simp
  go_enter Tryz.func123, Tryz.ntmps123
  go_wp2_with (first | (go_at_call 154; refine (as_errno m _ (.int .i64 0) _ hg1 ht1 hf1).mono ?_; rintro e w' ⟨rfl, rfl⟩))
  go_ret
  refine ⟨rfl, ?_⟩
  refine Below.alloc ?_ (by first | exact Nat.le_refl _ | omega | (simp only [World.size_alloc]; omega) | (simp; omega)) _
  refine Below.alloc ?_ (by first | exact Nat.le_refl _ | omega | (simp only [World.size_alloc]; omega) | (simp; omega)) _
  refine Below.alloc ?_ (by first | exact Nat.le_refl _ | omega | (simp only [World.size_alloc]; omega) | (simp; omega)) _
  refine Below.alloc ?_ (by first | exact Nat.le_refl _ | omega | (simp only [World.size_alloc]; omega) | (simp; omega)) _
  refine Below.alloc ?_ (by first | exact Nat.le_refl _ | omega | (simp only [World.size_alloc]; omega) | (simp; omega)) _
  exact Below.refl _ w

theorem number_fault (a : Addr) (m : Int) (w : World) (hc : w.cell? a = some (.int .i64 m)) (hg : w.cell? ⟨0, 0, none⟩ = some (.iface 270 (.agg #[.pointer (some ⟨1, 212, none⟩)]))) :
    Calls Tryz.prog 123 #[.iface 279 (.pointer (some a))] w fun e w' => e = .returned (.int .i64 m) ∧ Below w.heap.size w w' := by
  have hlt : 0 < w.heap.size := by
    rcases Nat.eq_zero_or_pos w.heap.size with h0 | h
    · simp [World.cell?, h0] at hg
    · exact h
  have hal : a.block < w.heap.size := by
    rcases Nat.lt_or_ge a.block w.heap.size with h | h
    · exact h
    · simp [World.cell?, Array.getElem?_eq_none h] at hc
  have hg1 : (w.alloc (.cells #[.int .i64 0] 30)).cell? ⟨0, 0, none⟩ = some (.iface 270 (.agg #[.pointer (some ⟨1, 212, none⟩)])) := by
    rw [World.cell?_alloc_lt _ _ ⟨0, 0, none⟩ hlt]; exact hg
  have hc1 : (w.alloc (.cells #[.int .i64 0] 30)).cell? a = some (.int .i64 m) := by
    rw [World.cell?_alloc_lt _ _ a hal]; exact hc
  have ht1 : (w.alloc (.cells #[.int .i64 0] 30)).cell? ⟨w.heap.size, 0, none⟩ = some (.int .i64 0) := by simp
  have hf1 : (w.alloc (.cells #[.int .i64 0] 30)).frozen? ⟨w.heap.size, 0, none⟩ = false := by simp
  go_enter Tryz.func123, Tryz.ntmps123
  go_wp2_with (first | (go_at_call 154; refine (as_fault a m _ (.int .i64 0) _ hc1 hg1 ht1 hf1).mono ?_; rintro e w' ⟨rfl, rfl⟩))
  go_ret
  refine ⟨rfl, ?_⟩
  refine Below.alloc ?_ (by first | exact Nat.le_refl _ | omega | (simp only [World.size_alloc]; omega) | (simp; omega)) _
  refine Below.alloc ?_ (by first | exact Nat.le_refl _ | omega | (simp only [World.size_alloc]; omega) | (simp; omega)) _
  refine Below.alloc ?_ (by first | exact Nat.le_refl _ | omega | (simp only [World.size_alloc]; omega) | (simp; omega)) _
  refine Below.alloc ?_ (by first | exact Nat.le_refl _ | omega | (simp only [World.size_alloc]; omega) | (simp; omega)) _
  refine Below.alloc ?_ (by first | exact Nat.le_refl _ | omega | (simp only [World.size_alloc]; omega) | (simp; omega)) _
  exact Below.refl _ w
end Go.Proofs.YtgnmjfnkibbnkaaGreatDoor

/- errors.Is, by its walk. -/
import Derived.Test.YtgnmjfnkibbnkaaGreatDoorM15
set_option linter.unusedSimpArgs false
set_option linter.unusedVariables false
namespace Go.Proofs.YtgnmjfnkibbnkaaGreatDoor
open Go.RowKit Go.Extern.Stop Go.Stop Go.Extern
set_option maxRecDepth 100000
set_option maxHeartbeats 4000000

theorem comparableE (w : World) : ((Extern.ReflectliteType.method fun t => do Rtype.noPackHeld "Comparable" t; (fun a => Value.bool a.comparable) <$> typeInfo t) #[.agg #[.pointer (some ⟨1, 30, none⟩)]]).run Tryz.prog w = .ok (.bool true) w := by kernel_rfl
theorem compE : (Tryz.prog.info? 30).map (·.comparable) = some true := by kernel_rfl
theorem noIsE (v : Value) (xT : TypeId) (w : World) : (Instr.typeAssert (.iface 30 v) xT 272 true).run Tryz.prog w = .ok (.tuple #[.nilIface, .bool false]) w := run_typeAssert_lacksB Tryz.underlying272 (by kernel_rfl) (by kernel_rfl) v xT w
theorem noUnwrapE (v : Value) (xT : TypeId) (w : World) : (Instr.typeAssert (.iface 30 v) xT 275 true).run Tryz.prog w = .ok (.tuple #[.nilIface, .bool false]) w := run_typeAssert_lacksB Tryz.underlying275 (by kernel_rfl) (by kernel_rfl) v xT w
theorem noUnwrapsE (v : Value) (xT : TypeId) (w : World) : (Instr.typeAssert (.iface 30 v) xT 276 true).run Tryz.prog w = .ok (.tuple #[.nilIface, .bool false]) w := run_typeAssert_lacksB Tryz.underlying276 (by kernel_rfl) (by kernel_rfl) v xT w
theorem noIsF (v : Value) (xT : TypeId) (w : World) : (Instr.typeAssert (.iface 279 v) xT 272 true).run Tryz.prog w = .ok (.tuple #[.nilIface, .bool false]) w := run_typeAssert_lacksB Tryz.underlying272 (by kernel_rfl) (by kernel_rfl) v xT w
theorem hasUnwrapF (v : Value) (xT : TypeId) (w : World) : (Instr.typeAssert (.iface 279 v) xT 275 true).run Tryz.prog w = .ok (.tuple #[.iface 279 v, .bool true]) w := run_typeAssert_hasB Tryz.underlying275 (by kernel_rfl) v xT w
theorem methodUnwrapF (v : Value) (w : World) : (Go.method 481 279 v "Unwrap").run Tryz.prog w = .ok (281, v) w := by kernel_rfl

theorem eqlE (m n : Int) (w : World) : (binOp .eql 212 (.iface 30 (.int .i64 m)) (.iface 30 (.int .i64 n))).run Tryz.prog w = .ok (.bool (m == n)) w := by
  obtain ⟨i, hi, hcmp⟩ := Option.map_eq_some_iff.1 compE
  have h : ∀ d : Nat, (Op.equalIn (d + 1 + 1) 212 (.iface 30 (.int .i64 m)) (.iface 30 (.int .i64 n))).run Tryz.prog w = .ok (m == n) w := fun d => by
    simp [Op.equalIn, run_underlying Tryz.underlying212, run_underlying Tryz.underlying30, typeInfo, hi, hcmp]
  have h2 := h 9998
  simp only [binOp]
  simp [Op.equal, Op.maxDepth, h2]

theorem unwrap_walk (a : Addr) (n : Int) (w : World) (h : w.cell? a = some (.int .i64 n)) : Calls Tryz.prog 281 #[.pointer (some a)] w fun e w' => e = .returned (.iface 30 (.int .i64 n)) ∧ w' = w := by
  go_enter Tryz.func281, Tryz.ntmps281
  go_wp2
  go_ret
  exact ⟨rfl, rfl⟩

theorem is_nil (n : Int) (w : World) : Calls Tryz.prog 94 #[.nilIface, .iface 30 (.int .i64 n)] w fun e w' => e = .returned (.bool false) ∧ w' = w := by
  have hn := run_eql_iface_nil_left (P := Tryz.prog) w 30 (.int .i64 n) Tryz.underlying212
  go_enter Tryz.func94, Tryz.ntmps94
  go_wp2
  go_ret
  exact ⟨rfl, rfl⟩

theorem is_errno (m n : Int) (w : World) : Calls Tryz.prog 94 #[.iface 30 (.int .i64 m), .iface 30 (.int .i64 n)] w fun e w' => e = .returned (.bool (m == n)) ∧ w' = w := by
  have h8 := @run_callFunc_extern Tryz.prog 126 _ Extern.ReflectliteType.typeOf Tryz.func126 (by kernel_rfl) (by kernel_rfl) (by kernel_rfl) (by kernel_rfl)
  have h32 := @run_callFunc_extern Tryz.prog 270 _ (Extern.ReflectliteType.method fun t => do Rtype.noPackHeld "Comparable" t; pure (.bool (← typeInfo t).comparable)) Tryz.func270 (by kernel_rfl) (by kernel_rfl) (by kernel_rfl) (by kernel_rfl)
  have tT := typeOfE
  have cT := comparableE
  have mR := methodComparable
  have nE := noIsE
  have uE := noUnwrapE
  have vE := noUnwrapsE
  have heq := eqlE m n w
  by_cases hmn : m = n
  · subst hmn
    have hb : (m == m) = true := by simp
    rw [hb] at heq ⊢
    clear hb
    go_enter Tryz.func94, Tryz.ntmps94
    go_wp2
    refine wp_loop_rounds 1 ?_
    rw [rounds_succ]
    go_wp2
    go_ret
    exact ⟨rfl, rfl⟩
  · have hb : (m == n) = false := by simpa using hmn
    rw [hb] at heq ⊢
    clear hb hmn
    go_enter Tryz.func94, Tryz.ntmps94
    go_wp2
    refine wp_loop_rounds 1 ?_
    rw [rounds_succ]
    go_wp2
    go_ret
    exact ⟨rfl, rfl⟩

theorem is_fault (a : Addr) (m n : Int) (w : World) (hc : w.cell? a = some (.int .i64 m)) : Calls Tryz.prog 94 #[.iface 279 (.pointer (some a)), .iface 30 (.int .i64 n)] w fun e w' => e = .returned (.bool (m == n)) ∧ w' = w := by
  have h8 := @run_callFunc_extern Tryz.prog 126 _ Extern.ReflectliteType.typeOf Tryz.func126 (by kernel_rfl) (by kernel_rfl) (by kernel_rfl) (by kernel_rfl)
  have h32 := @run_callFunc_extern Tryz.prog 270 _ (Extern.ReflectliteType.method fun t => do Rtype.noPackHeld "Comparable" t; pure (.bool (← typeInfo t).comparable)) Tryz.func270 (by kernel_rfl) (by kernel_rfl) (by kernel_rfl) (by kernel_rfl)
  have tT := typeOfE
  have cT := comparableE
  have mR := methodComparable
  have nE := noIsE
  have uE := noUnwrapE
  have vE := noUnwrapsE
  have nF := noIsF
  have uF := hasUnwrapF
  have mU := methodUnwrapF
  have heq := eqlE m n w
  have hty := run_eql_iface_types (P := Tryz.prog) 279 30 (.pointer (some a)) (.int .i64 n) Tryz.underlying212 (by decide) w
  by_cases hmn : m = n
  · subst hmn
    have hb : (m == m) = true := by simp
    rw [hb] at heq ⊢
    clear hb
    go_enter Tryz.func94, Tryz.ntmps94
    go_wp2
    refine wp_loop_rounds 2 ?_
    rw [rounds_succ]
    go_wp2
    rw [rounds_succ]
    go_wp2
    go_ret
    exact ⟨rfl, rfl⟩
  · have hb : (m == n) = false := by simpa using hmn
    rw [hb] at heq ⊢
    clear hb hmn
    go_enter Tryz.func94, Tryz.ntmps94
    go_wp2
    refine wp_loop_rounds 2 ?_
    rw [rounds_succ]
    go_wp2
    rw [rounds_succ]
    go_wp2
    go_ret
    exact ⟨rfl, rfl⟩
end Go.Proofs.YtgnmjfnkibbnkaaGreatDoor

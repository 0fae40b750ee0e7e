/- The program of law 26's first three statements, as the walks take it: small() is reckoned (T26b). -/
import Derived.Test.YtgnmjfnkibbnkaaGreatDoorM13
import Derived.Test.YtgnmjfnkibbnkaaGreatDoorM7
import Derived.Test.YtgnmjfnkibbnkaaGreatDoorM10
import Derived.KernelRfl
set_option linter.unusedSimpArgs false
set_option linter.unusedVariables false
namespace Go.Proofs.YtgnmjfnkibbnkaaGreatDoor
open Go Go.Proofs.PantryEng
def primSmall : List Value → AHeap → Option (Value × AHeap)
  | [], h => if tokOK 270 212 h then some (.bool true, h) else none
  | _, _ => none
def primsW (f : Nat) : Option (List Value → AHeap → Option (Value × AHeap)) := if f = 6 then some primSmall else none
def prW : AProg := ⟨fns, tbl, primsW⟩
theorem prW_grow : PrimGrow prW := by
  intro F p hp args h v h' hr
  simp only [prW, primsW] at hp
  split at hp
  · injection hp with hp
    subst hp
    unfold primSmall at hr
    split at hr
    · split at hr
      · injection hr with hr; injection hr with _ hr; subst hr; exact Nat.le_refl _
      · simp at hr
    · simp at hr
  · simp at hp
end Go.Proofs.YtgnmjfnkibbnkaaGreatDoor
namespace Go.Proofs.YtgnmjfnkibbnkaaGreatDoor
open Go Go.Proofs.PantryEng
set_option maxRecDepth 100000
set_option maxHeartbeats 0
def w_pantrylaw26_ScriptReads (A : AProg) (x0 x1 x2 x3 : Value) (h : AHeap) (Q : VK) : Prop :=
 Ly (evL .nil (.box (.lit x1))) h fun x5 h_1 =>
 Ensures A n_pantrylaw26_small [] h_1 fun x21 h_2 =>
 P (lenV x0) fun x23 =>
 P (binV .gtr x23 (vi 2000)) fun x24 =>
 Jg (fun x26 h_3 =>
 Jg (fun x27 h_4 =>
 Jg (fun x28 h_5 =>
 P (pickV x24 (.bool true) x28) fun x29 =>
 Jg (fun x31 h_6 =>
 Jg (fun x32 h_7 =>
 Jg (fun x33 h_8 =>
 P (pickV x29 (.bool true) x33) fun x34 =>
 If x34 (Rt [x21] h_8 Q)
 (Ly (evL .nil (.buildSlice [(.int .u8 0)] 1 0 [])) h_8 fun x36 h_9 =>
 PH (apE 1 1 x36 x0 h_9) fun x38 h_10 =>
 Ensures A n_script_Decode [x38] h_10 fun x41 h_11 =>
 P (extractV 0 x41) fun x42 =>
 P (extractV 1 x41) fun x43 =>
 P (extractV 2 x41) fun x44 =>
 Ly (evL .nil (.alloc [(vi 0), (vi 0), (vi 0), (vi 0), (vi 0), (vi 0)])) h_11 fun x11 h_12 =>
 PH (stE 6 x11 x42 h_12) fun _ h_13 =>
 Ensures A n_pantryref26_Decode [x0] h_13 fun x47 h_14 =>
 P (extractV 0 x47) fun x48 =>
 P (extractV 1 x47) fun x49 =>
 P (extractV 2 x47) fun x50 =>
 Ly (evL .nil (.alloc [(vi 0), (vi 0), (vi 0), (vi 0), (vi 0), (vi 0)])) h_14 fun x14 h_15 =>
 PH (stE 6 x14 x48 h_15) fun _ h_16 =>
 P (lds h_16 6 x5) fun x52 =>
 Ensures A n_script_Encode [x52, x2, x3] h_16 fun x55 h_17 =>
 P (extractV 0 x55) fun x56 =>
 P (extractV 1 x55) fun x57 =>
 P (lds h_17 6 x5) fun x59 =>
 Ensures A n_pantryref26_Encode [x59, x2, x3] h_17 fun x62 h_18 =>
 P (extractV 0 x62) fun x63 =>
 P (extractV 1 x62) fun x64 =>
 Jg (fun x67 h_19 =>
 Jg (fun x68 h_20 =>
 Jg (fun x69 h_21 =>
 P (pickV x21 x69 (.bool false)) fun x70 =>
 Jg (fun x72 h_22 =>
 Jg (fun x73 h_23 =>
 Jg (fun x74 h_24 =>
 P (pickV x70 x74 (.bool false)) fun x75 =>
 Jg (fun x77 h_25 =>
 Jg (fun x78 h_26 =>
 Jg (fun x79 h_27 =>
 P (pickV x75 x79 (.bool false)) fun x80 =>
 Jg (fun x82 h_28 =>
 Jg (fun x83 h_29 =>
 Jg (fun x84 h_30 =>
 Jg (fun x85 h_31 =>
 Jg (fun x86 h_32 =>
 P (pickV x80 x86 (.bool false)) fun x87 =>
 Jg (fun x89 h_33 =>
 Jg (fun x90 h_34 =>
 Jg (fun x91 h_35 =>
 P (pickV x87 x91 (.bool false)) fun x92 =>
 Jg (fun x94 h_36 =>
 Jg (fun x95 h_37 =>
 Jg (fun x96 h_38 =>
 Jg (fun x97 h_39 =>
 Jg (fun x98 h_40 =>
 P (pickV x92 x98 (.bool false)) fun x99 =>
 Rt [x99] h_40 Q) fun R => G x92 true (P (binV .eql x95 x97) fun x98_41 =>
 R x98_41 h_39) (R noValue h_39)) fun R_42 => G x92 true (P (strOf h_38 x96) fun x97_43 =>
 R_42 x97_43 h_38) (R_42 noValue h_38)) fun R_44 => G x92 true (R_44 x0 h_37) (R_44 noValue h_37)) fun R_45 => G x92 true (P (strOf h_36 x94) fun x95_46 =>
 R_45 x95_46 h_36) (R_45 noValue h_36)) fun R_47 => G x92 true (R_47 x38 h_35) (R_47 noValue h_35)) fun R_48 => G x87 true (P (binV .eql x89 x90) fun x91_49 =>
 R_48 x91_49 h_34) (R_48 noValue h_34)) fun R_50 => G x87 true (R_50 x64 h_33) (R_50 noValue h_33)) fun R_51 => G x87 true (R_51 x57 h_32) (R_51 noValue h_32)) fun R_52 => G x80 true (P (binV .eql x83 x85) fun x86_53 =>
 R_52 x86_53 h_31) (R_52 noValue h_31)) fun R_54 => G x80 true (P (strOf h_30 x84) fun x85_55 =>
 R_54 x85_55 h_30) (R_54 noValue h_30)) fun R_56 => G x80 true (R_56 x63 h_29) (R_56 noValue h_29)) fun R_57 => G x80 true (P (strOf h_28 x82) fun x83_58 =>
 R_57 x83_58 h_28) (R_57 noValue h_28)) fun R_59 => G x80 true (R_59 x56 h_27) (R_59 noValue h_27)) fun R_60 => G x75 true (Ensures A n_pantryref03_Ints [x77, x78] h_26 fun x79_61 h_62 =>
 R_60 x79_61 h_62) (R_60 noValue h_26)) fun R_63 => G x75 true (R_63 x50 h_25) (R_63 noValue h_25)) fun R_64 => G x75 true (R_64 x44 h_24) (R_64 noValue h_24)) fun R_65 => G x70 true (Ensures A n_pantryref26_Programs [x72, x73] h_23 fun x74_66 h_67 =>
 R_65 x74_66 h_67) (R_65 noValue h_23)) fun R_68 => G x70 true (R_68 x49 h_22) (R_68 noValue h_22)) fun R_69 => G x70 true (R_69 x43 h_21) (R_69 noValue h_21)) fun R_70 => G x21 true (P (eqAggV false [false, false, false, false, false, false] x67 x68) fun x69_71 =>
 R_70 x69_71 h_20) (R_70 noValue h_20)) fun R_72 => G x21 true (P (lds h_19 6 x14) fun x68_73 =>
 R_72 x68_73 h_19) (R_72 noValue h_19)) fun R_74 => G x21 true (P (lds h_18 6 x11) fun x67_75 =>
 R_74 x67_75 h_18) (R_74 noValue h_18))) fun R_76 => G x29 false (P (binV .gtr x32 (vi 300)) fun x33_77 =>
 R_76 x33_77 h_7) (R_76 noValue h_7)) fun R_78 => G x29 false (P (lenV x31) fun x32_79 =>
 R_78 x32_79 h_6) (R_78 noValue h_6)) fun R_80 => G x29 false (R_80 x3 h_5) (R_80 noValue h_5)) fun R_81 => G x24 false (P (binV .gtr x27 (vi 20)) fun x28_82 =>
 R_81 x28_82 h_4) (R_81 noValue h_4)) fun R_83 => G x24 false (P (lenV x26) fun x27_84 =>
 R_83 x27_84 h_3) (R_83 noValue h_3)) fun R_85 => G x24 false (R_85 x2 h_2) (R_85 noValue h_2)
theorem ww_pantrylaw26_ScriptReads (A : AProg) (x0 x1 x2 x3 : Value) (h : AHeap) (Q : VK) : w_pantrylaw26_ScriptReads A x0 x1 x2 x3 h Q = WF A c3 [x0, x1, x2, x3] h Q := by kernel_rfl
theorem e_pantrylaw26_ScriptReads {x0 x1 x2 x3 : Value} {h : AHeap} {Q : VK} (w : w_pantrylaw26_ScriptReads prW x0 x1 x2 x3 h Q) : Ensures prW n_pantrylaw26_ScriptReads [x0, x1, x2, x3] h Q := ens_of (fn := c3) prW_grow (by kernel_rfl) (by kernel_rfl) (by kernel_rfl) (ww_pantrylaw26_ScriptReads prW x0 x1 x2 x3 h Q ▸ w)
def w_pantrylaw26_ScriptBack (A : AProg) (x0 x1 x2 x3 : Value) (h : AHeap) (Q : VK) : Prop :=
 Ly (evL .nil (.box (.lit x1))) h fun x5 h_1 =>
 Ensures A n_pantrylaw26_small [] h_1 fun x23 h_2 =>
 P (lenV x0) fun x25 =>
 P (binV .gtr x25 (vi 2000)) fun x26 =>
 Jg (fun x28 h_3 =>
 Jg (fun x29 h_4 =>
 Jg (fun x30 h_5 =>
 P (pickV x26 (.bool true) x30) fun x31 =>
 Jg (fun x33 h_6 =>
 Jg (fun x34 h_7 =>
 Jg (fun x35 h_8 =>
 P (pickV x31 (.bool true) x35) fun x36 =>
 If x36 (Rt [x23] h_8 Q)
 (P (lds h_8 6 x5) fun x39 =>
 Ensures A n_script_Encode [x39, x2, x3] h_8 fun x42 h_9 =>
 P (extractV 0 x42) fun x43 =>
 P (extractV 1 x42) fun x44 =>
 J (fun (_ : List Value) h_10 =>
 Ensures A n_script_Decode [x0] h_10 fun x70 h_11 =>
 P (extractV 0 x70) fun x71 =>
 P (extractV 1 x70) fun x72 =>
 P (extractV 2 x70) fun x73 =>
 Ly (evL .nil (.alloc [(vi 0), (vi 0), (vi 0), (vi 0), (vi 0), (vi 0)])) h_11 fun x15 h_12 =>
 PH (stE 6 x15 x71 h_12) fun _ h_13 =>
 P (lds h_13 6 x15) fun x75 =>
 Ensures A n_script_Encode [x75, x72, x73] h_13 fun x78 h_14 =>
 P (extractV 0 x78) fun x79 =>
 P (extractV 1 x78) fun x80 =>
 Ensures A n_script_Decode [x79] h_14 fun x83 h_15 =>
 P (extractV 0 x83) fun x84 =>
 P (extractV 1 x83) fun x85 =>
 P (extractV 2 x83) fun x86 =>
 Ly (evL .nil (.alloc [(vi 0), (vi 0), (vi 0), (vi 0), (vi 0), (vi 0)])) h_15 fun x20 h_16 =>
 PH (stE 6 x20 x84 h_16) fun _ h_17 =>
 Jg (fun x89 h_18 =>
 Jg (fun x90 h_19 =>
 P (pickV x23 x90 (.bool false)) fun x91 =>
 Jg (fun x93 h_20 =>
 Jg (fun x94 h_21 =>
 Jg (fun x95 h_22 =>
 P (pickV x91 x95 (.bool false)) fun x96 =>
 Jg (fun x98 h_23 =>
 Jg (fun x99 h_24 =>
 Jg (fun x100 h_25 =>
 P (pickV x96 x100 (.bool false)) fun x101 =>
 Jg (fun x103 h_26 =>
 Jg (fun x104 h_27 =>
 Jg (fun x105 h_28 =>
 P (pickV x101 x105 (.bool false)) fun x106 =>
 Rt [x106] h_28 Q) fun R => G x101 true (Ensures A n_pantryref03_Ints [x103, x104] h_27 fun x105_29 h_30 =>
 R x105_29 h_30) (R noValue h_27)) fun R_31 => G x101 true (R_31 x73 h_26) (R_31 noValue h_26)) fun R_32 => G x101 true (R_32 x86 h_25) (R_32 noValue h_25)) fun R_33 => G x96 true (Ensures A n_pantryref26_Programs [x98, x99] h_24 fun x100_34 h_35 =>
 R_33 x100_34 h_35) (R_33 noValue h_24)) fun R_36 => G x96 true (R_36 x72 h_23) (R_36 noValue h_23)) fun R_37 => G x96 true (R_37 x85 h_22) (R_37 noValue h_22)) fun R_38 => G x91 true (P (eqAggV false [false, false, false, false, false, false] x93 x94) fun x95_39 =>
 R_38 x95_39 h_21) (R_38 noValue h_21)) fun R_40 => G x91 true (P (lds h_20 6 x15) fun x94_41 =>
 R_40 x94_41 h_20) (R_40 noValue h_20)) fun R_42 => G x91 true (P (lds h_19 6 x20) fun x93_43 =>
 R_42 x93_43 h_19) (R_42 noValue h_19)) fun R_44 => G x23 true (P (binV .eql x89 (vi 0)) fun x90_45 =>
 R_44 x90_45 h_18) (R_44 noValue h_18)) fun R_46 => G x23 true (R_46 x80 h_17) (R_46 noValue h_17)) fun K =>
 P (binV .eql x44 (vi 0)) fun x46 =>
 If x46 (Ensures A n_script_Decode [x43] h_9 fun x49 h_47 =>
 P (extractV 0 x49) fun x50 =>
 P (extractV 1 x49) fun x51 =>
 P (extractV 2 x49) fun x52 =>
 Ly (evL .nil (.alloc [(vi 0), (vi 0), (vi 0), (vi 0), (vi 0), (vi 0)])) h_47 fun x12 h_48 =>
 PH (stE 6 x12 x50 h_48) fun _ h_49 =>
 P (lds h_49 6 x12) fun x53 =>
 P (lds h_49 6 x5) fun x54 =>
 P (eqAggV true [false, false, false, false, false, false] x53 x54) fun x55 =>
 Jg (fun x57 h_50 =>
 Jg (fun x58 h_51 =>
 Jg (fun x59 h_52 =>
 Jg (fun x60 h_53 =>
 P (pickV x55 (.bool true) x60) fun x61 =>
 Jg (fun x63 h_54 =>
 Jg (fun x64 h_55 =>
 Jg (fun x65 h_56 =>
 Jg (fun x66 h_57 =>
 P (pickV x61 (.bool true) x66) fun x67 =>
 If x67 (Rt [(.bool false)] h_57 Q)
 (K [] h_57)) fun R_58 => G x61 false (P (notV x65) fun x66_59 =>
 R_58 x66_59 h_56) (R_58 noValue h_56)) fun R_60 => G x61 false (Ensures A n_pantryref03_Ints [x63, x64] h_55 fun x65_61 h_62 =>
 R_60 x65_61 h_62) (R_60 noValue h_55)) fun R_63 => G x61 false (R_63 x3 h_54) (R_63 noValue h_54)) fun R_64 => G x61 false (R_64 x52 h_53) (R_64 noValue h_53)) fun R_65 => G x55 false (P (notV x59) fun x60_66 =>
 R_65 x60_66 h_52) (R_65 noValue h_52)) fun R_67 => G x55 false (Ensures A n_pantryref26_Programs [x57, x58] h_51 fun x59_68 h_69 =>
 R_67 x59_68 h_69) (R_67 noValue h_51)) fun R_70 => G x55 false (R_70 x2 h_50) (R_70 noValue h_50)) fun R_71 => G x55 false (R_71 x51 h_49) (R_71 noValue h_49))
 (K [] h_9))) fun R_72 => G x31 false (P (binV .gtr x34 (vi 300)) fun x35_73 =>
 R_72 x35_73 h_7) (R_72 noValue h_7)) fun R_74 => G x31 false (P (lenV x33) fun x34_75 =>
 R_74 x34_75 h_6) (R_74 noValue h_6)) fun R_76 => G x31 false (R_76 x3 h_5) (R_76 noValue h_5)) fun R_77 => G x26 false (P (binV .gtr x29 (vi 20)) fun x30_78 =>
 R_77 x30_78 h_4) (R_77 noValue h_4)) fun R_79 => G x26 false (P (lenV x28) fun x29_80 =>
 R_79 x29_80 h_3) (R_79 noValue h_3)) fun R_81 => G x26 false (R_81 x2 h_2) (R_81 noValue h_2)
theorem ww_pantrylaw26_ScriptBack (A : AProg) (x0 x1 x2 x3 : Value) (h : AHeap) (Q : VK) : w_pantrylaw26_ScriptBack A x0 x1 x2 x3 h Q = WF A c4 [x0, x1, x2, x3] h Q := by kernel_rfl
theorem e_pantrylaw26_ScriptBack {x0 x1 x2 x3 : Value} {h : AHeap} {Q : VK} (w : w_pantrylaw26_ScriptBack prW x0 x1 x2 x3 h Q) : Ensures prW n_pantrylaw26_ScriptBack [x0, x1, x2, x3] h Q := ens_of (fn := c4) prW_grow (by kernel_rfl) (by kernel_rfl) (by kernel_rfl) (ww_pantrylaw26_ScriptBack prW x0 x1 x2 x3 h Q ▸ w)
def w_pantrylaw26_ScriptCuts (A : AProg) (x0 x1 x2 x3 : Value) (h : AHeap) (Q : VK) : Prop :=
 Ly (evL .nil (.box (.lit x0))) h fun x4 h_1 =>
 Ensures A n_pantrylaw26_small [] h_1 fun x20 h_2 =>
 P (lenV x1) fun x22 =>
 P (binV .gtr x22 (vi 20)) fun x23 =>
 Jg (fun x25 h_3 =>
 Jg (fun x26 h_4 =>
 Jg (fun x27 h_5 =>
 P (pickV x23 (.bool true) x27) fun x28 =>
 Jg (fun x30 h_6 =>
 Jg (fun x31 h_7 =>
 Jg (fun x32 h_8 =>
 P (pickV x28 (.bool true) x32) fun x33 =>
 If x33 (Rt [x20] h_8 Q)
 (P (lds h_8 6 x4) fun x36 =>
 Ensures A n_script_Encode [x36, x1, x2] h_8 fun x39 h_9 =>
 P (extractV 0 x39) fun x40 =>
 P (extractV 1 x39) fun x41 =>
 P (binV .neq x41 (vi 0)) fun x43 =>
 If x43 (Jg (fun x46 h_10 =>
 Jg (fun x47 h_11 =>
 Jg (fun x48 h_12 =>
 P (pickV x20 x48 (.bool false)) fun x49 =>
 Rt [x49] h_12 Q) fun R => G x20 true (P (binV .eql x47 (vi 0)) fun x48_13 =>
 R x48_13 h_11) (R noValue h_11)) fun R_14 => G x20 true (P (lenV x46) fun x47_15 =>
 R_14 x47_15 h_10) (R_14 noValue h_10)) fun R_16 => G x20 true (R_16 x40 h_9) (R_16 noValue h_9))
 (Ly (evL .nil (.buildSlice [(.int .u8 0)] 1 0 [])) h_9 fun x51 h_17 =>
 PH (apE 1 1 x51 x40 h_17) fun x53 h_18 =>
 PH (apE 1 1 x53 x3 h_18) fun x55 h_19 =>
 Ensures A n_script_Decode [x55] h_19 fun x56 h_20 =>
 P (extractV 0 x56) fun x57 =>
 P (extractV 1 x56) fun x58 =>
 P (extractV 2 x56) fun x59 =>
 Ly (evL .nil (.alloc [(vi 0), (vi 0), (vi 0), (vi 0), (vi 0), (vi 0)])) h_20 fun x12 h_21 =>
 PH (stE 6 x12 x57 h_21) fun _ h_22 =>
 P (lenV x40) fun x61 =>
 Lp (fun l h_23 K =>
 U1 l fun x15 =>
 P (binV .gtr x15 (vi 0)) fun x63 =>
 Jg (fun x65 h_24 =>
 Jg (fun x66 h_25 =>
 Jg (fun x67 h_26 =>
 Jg (fun x68 h_27 =>
 Jg (fun x69 h_28 =>
 Jg (fun x70 h_29 =>
 P (pickV x63 x70 (.bool false)) fun x71 =>
 Jg (fun x73 h_30 =>
 Jg (fun x74 h_31 =>
 Jg (fun x75 h_32 =>
 Jg (fun x76 h_33 =>
 Jg (fun x77 h_34 =>
 Jg (fun x78 h_35 =>
 Jg (fun x79 h_36 =>
 P (pickV x71 x79 (.bool false)) fun x80 =>
 If x80 (P (binV .sub x15 (vi 1)) fun x82 =>
 K [x82] h_36)
 (P (evP .nil h_36 (.slice false 1 (.lit x40) none (some (.lit x15)) none)) fun x86 =>
 Ensures A n_script_Decode [x86] h_36 fun x87 h_37 =>
 P (extractV 0 x87) fun x88 =>
 P (extractV 1 x87) fun x89 =>
 P (extractV 2 x87) fun x90 =>
 Ly (evL .nil (.alloc [(vi 0), (vi 0), (vi 0), (vi 0), (vi 0), (vi 0)])) h_37 fun x16 h_38 =>
 PH (stE 6 x16 x88 h_38) fun _ h_39 =>
 P (lenV x59) fun x92 =>
 P (lenV x2) fun x94 =>
 P (lenV x3) fun x96 =>
 P (binV .add x94 x96) fun x97 =>
 P (binV .neq x92 x97) fun x98 =>
 Jg (fun x100 h_40 =>
 Jg (fun x101 h_41 =>
 Jg (fun x102 h_42 =>
 P (pickV x98 (.bool true) x102) fun x103 =>
 Jg (fun x105 h_43 =>
 Jg (fun x106 h_44 =>
 Jg (fun x107 h_45 =>
 P (pickV x103 (.bool true) x107) fun x108 =>
 Jg (fun x110 h_46 =>
 Jg (fun x111 h_47 =>
 Jg (fun x112 h_48 =>
 Jg (fun x113 h_49 =>
 P (pickV x108 (.bool true) x113) fun x114 =>
 Jg (fun x116 h_50 =>
 Jg (fun x117 h_51 =>
 Jg (fun x118 h_52 =>
 Jg (fun x119 h_53 =>
 P (pickV x114 (.bool true) x119) fun x120 =>
 If x120 (Rt [(.bool false)] h_53 Q)
 (Lp (fun l_54 h_55 K_56 =>
 U2 l_54 fun x8 x19 =>
 P (lenV x3) fun x123 =>
 P (binV .lss x19 x123) fun x124 =>
 If x124 (P (lenV x2) fun x129 =>
 P (binV .add x129 x19) fun x131 =>
 P (indexAddrV 1 x59 x131) fun x132 =>
 P (ld h_55 x132) fun x133 =>
 P (indexAddrV 1 x3 x19) fun x136 =>
 P (ld h_55 x136) fun x137 =>
 P (cvt .i64 x137) fun x138 =>
 P (binV .neq x133 x138) fun x139 =>
 If x139 (Rt [(.bool false)] h_55 Q)
 (P (binV .add x19 (vi 1)) fun x126 =>
 K_56 [x8, x126] h_55))
 (Jg (fun x142 h_57 =>
 Jg (fun x143 h_58 =>
 Jg (fun x144 h_59 =>
 Jg (fun x145 h_60 =>
 Jg (fun x146 h_61 =>
 Jg (fun x147 h_62 =>
 P (pickV x20 x147 (.bool false)) fun x148 =>
 Rt [x148] h_62 Q) fun R_63 => G x20 true (Ensures A n_pantryref03_Ints [x145, x146] h_61 fun x147_64 h_65 =>
 R_63 x147_64 h_65) (R_63 noValue h_61)) fun R_66 => G x20 true (R_66 x2 h_60) (R_66 noValue h_60)) fun R_67 => G x20 true (P (evP .nil h_59 (.slice false 1 (.lit x142) none (some (.lit x144)) none)) fun x145_68 =>
 R_67 x145_68 h_59) (R_67 noValue h_59)) fun R_69 => G x20 true (P (lenV x143) fun x144_70 =>
 R_69 x144_70 h_58) (R_69 noValue h_58)) fun R_71 => G x20 true (R_71 x2 h_57) (R_71 noValue h_57)) fun R_72 => G x20 true (R_72 x59 h_55) (R_72 noValue h_55))) [(.bool false), (vi 0)] h_53)) fun R_73 => G x114 false (P (notV x118) fun x119_74 =>
 R_73 x119_74 h_52) (R_73 noValue h_52)) fun R_75 => G x114 false (Ensures A n_pantryref26_Programs [x116, x117] h_51 fun x118_76 h_77 =>
 R_75 x118_76 h_77) (R_75 noValue h_51)) fun R_78 => G x114 false (R_78 x1 h_50) (R_78 noValue h_50)) fun R_79 => G x114 false (R_79 x89 h_49) (R_79 noValue h_49)) fun R_80 => G x108 false (P (notV x112) fun x113_81 =>
 R_80 x113_81 h_48) (R_80 noValue h_48)) fun R_82 => G x108 false (Ensures A n_pantryref26_Programs [x110, x111] h_47 fun x112_83 h_84 =>
 R_82 x112_83 h_84) (R_82 noValue h_47)) fun R_85 => G x108 false (R_85 x1 h_46) (R_85 noValue h_46)) fun R_86 => G x108 false (R_86 x58 h_45) (R_86 noValue h_45)) fun R_87 => G x103 false (P (eqAggV true [false, false, false, false, false, false] x105 x106) fun x107_88 =>
 R_87 x107_88 h_44) (R_87 noValue h_44)) fun R_89 => G x103 false (P (lds h_43 6 x4) fun x106_90 =>
 R_89 x106_90 h_43) (R_89 noValue h_43)) fun R_91 => G x103 false (P (lds h_42 6 x16) fun x105_92 =>
 R_91 x105_92 h_42) (R_91 noValue h_42)) fun R_93 => G x98 false (P (eqAggV true [false, false, false, false, false, false] x100 x101) fun x102_94 =>
 R_93 x102_94 h_41) (R_93 noValue h_41)) fun R_95 => G x98 false (P (lds h_40 6 x4) fun x101_96 =>
 R_95 x101_96 h_40) (R_95 noValue h_40)) fun R_97 => G x98 false (P (lds h_39 6 x12) fun x100_98 =>
 R_97 x100_98 h_39) (R_97 noValue h_39))) fun R_99 => G x71 true (P (binV .gtr x73 x78) fun x79_100 =>
 R_99 x79_100 h_35) (R_99 noValue h_35)) fun R_101 => G x71 true (P (binV .sub x75 x77) fun x78_102 =>
 R_101 x78_102 h_34) (R_101 noValue h_34)) fun R_103 => G x71 true (P (lenV x76) fun x77_104 =>
 R_103 x77_104 h_33) (R_103 noValue h_33)) fun R_105 => G x71 true (R_105 x2 h_32) (R_105 noValue h_32)) fun R_106 => G x71 true (P (lenV x74) fun x75_107 =>
 R_106 x75_107 h_31) (R_106 noValue h_31)) fun R_108 => G x71 true (R_108 x40 h_30) (R_108 noValue h_30)) fun R_109 => G x71 true (R_109 x15 h_29) (R_109 noValue h_29)) fun R_110 => G x63 true (P (binV .eql x69 (.int .u8 0)) fun x70_111 =>
 R_110 x70_111 h_28) (R_110 noValue h_28)) fun R_112 => G x63 true (P (ld h_27 x68) fun x69_113 =>
 R_112 x69_113 h_27) (R_112 noValue h_27)) fun R_114 => G x63 true (P (indexAddrV 1 x65 x67) fun x68_115 =>
 R_114 x68_115 h_26) (R_114 noValue h_26)) fun R_116 => G x63 true (P (binV .sub x66 (vi 1)) fun x67_117 =>
 R_116 x67_117 h_25) (R_116 noValue h_25)) fun R_118 => G x63 true (R_118 x15 h_24) (R_118 noValue h_24)) fun R_119 => G x63 true (R_119 x40 h_23) (R_119 noValue h_23)) [x61] h_22))) fun R_120 => G x28 false (P (binV .gtr x31 (vi 300)) fun x32_121 =>
 R_120 x32_121 h_7) (R_120 noValue h_7)) fun R_122 => G x28 false (P (lenV x30) fun x31_123 =>
 R_122 x31_123 h_6) (R_122 noValue h_6)) fun R_124 => G x28 false (R_124 x3 h_5) (R_124 noValue h_5)) fun R_125 => G x23 false (P (binV .gtr x26 (vi 300)) fun x27_126 =>
 R_125 x27_126 h_4) (R_125 noValue h_4)) fun R_127 => G x23 false (P (lenV x25) fun x26_128 =>
 R_127 x26_128 h_3) (R_127 noValue h_3)) fun R_129 => G x23 false (R_129 x2 h_2) (R_129 noValue h_2)
theorem ww_pantrylaw26_ScriptCuts (A : AProg) (x0 x1 x2 x3 : Value) (h : AHeap) (Q : VK) : w_pantrylaw26_ScriptCuts A x0 x1 x2 x3 h Q = WF A c5 [x0, x1, x2, x3] h Q := by kernel_rfl
theorem e_pantrylaw26_ScriptCuts {x0 x1 x2 x3 : Value} {h : AHeap} {Q : VK} (w : w_pantrylaw26_ScriptCuts prW x0 x1 x2 x3 h Q) : Ensures prW n_pantrylaw26_ScriptCuts [x0, x1, x2, x3] h Q := ens_of (fn := c5) prW_grow (by kernel_rfl) (by kernel_rfl) (by kernel_rfl) (ww_pantrylaw26_ScriptCuts prW x0 x1 x2 x3 h Q ▸ w)
def w_script_Decode (A : AProg) (x0 : Value) (h : AHeap) (Q : VK) : Prop :=
 Ly (evL .nil (.box (.lit x0))) h fun x1 h_1 =>
 Ly (evL .nil (.alloc [(vi 0), (vi 0), (vi 0), (vi 0), (vi 0), (vi 0)])) h_1 fun x2 h_2 =>
 P (evP .nil h_2 (.makeFunc 16 [] [(.lit x1)])) fun x12 =>
 P (fieldAddrV 0 x2) fun x13 =>
 P (fieldAddrV 1 x2) fun x14 =>
 P (fieldAddrV 2 x2) fun x15 =>
 P (fieldAddrV 3 x2) fun x16 =>
 P (fieldAddrV 4 x2) fun x17 =>
 P (fieldAddrV 5 x2) fun x18 =>
 Ly (evL .nil (.buildSlice [(.pointer none)] 1 6 [(0, (.lit x13)), (1, (.lit x14)), (2, (.lit x15)), (3, (.lit x16)), (4, (.lit x17)), (5, (.lit x18))])) h_2 fun x19 h_3 =>
 P (lenV x19) fun x20 =>
 Lp (fun l h_4 K =>
 U1 l fun x21 =>
 P (binV .lss x21 x20) fun x22 =>
 If x22 (P (indexAddrV 1 x19 x21) fun x23 =>
 P (ld h_4 x23) fun x24 =>
 CV A x12 [] h_4 fun x27 h_5 =>
 P (nilV x24) fun x28 =>
 PH (stE 1 x28 x27 h_5) fun _ h_6 =>
 P (binV .add x21 (vi 1)) fun x29 =>
 K [x29] h_6)
 (CV A x12 [] h_4 fun x31 h_7 =>
 P (binV .rem x31 (vi 9)) fun x32 =>
 Lp (fun l_8 h_9 K_10 =>
 U2 l_8 fun x3 x33 =>
 P (binV .lss x33 x32) fun x34 =>
 If x34 (CV A x12 [] h_9 fun x36 h_11 =>
 P (binV .rem x36 (vi 33)) fun x37 =>
 Lp (fun l_12 h_13 K_14 =>
 U2 l_12 fun x8 x38 =>
 P (binV .lss x38 x37) fun x39 =>
 If x39 (Ly (evL .nil (.alloc [(vi 0), (vi 0), (vi 0), (vi 0)])) h_13 fun x9 h_15 =>
 CV A x12 [] h_15 fun x41 h_16 =>
 P (binV .rem x41 (vi 5)) fun x42 =>
 P (fieldAddrV 0 x9) fun x43 =>
 PH (stE 1 x43 x42 h_16) fun _ h_17 =>
 P (fieldAddrV 1 x9) fun x44 =>
 P (fieldAddrV 2 x9) fun x45 =>
 P (fieldAddrV 3 x9) fun x46 =>
 Ly (evL .nil (.buildSlice [(.pointer none)] 1 3 [(0, (.lit x44)), (1, (.lit x45)), (2, (.lit x46))])) h_17 fun x47 h_18 =>
 P (lenV x47) fun x48 =>
 Lp (fun l_19 h_20 K_21 =>
 U1 l_19 fun x49 =>
 P (binV .lss x49 x48) fun x50 =>
 If x50 (P (indexAddrV 1 x47 x49) fun x51 =>
 P (ld h_20 x51) fun x52 =>
 CV A x12 [] h_20 fun x55 h_22 =>
 P (nilV x52) fun x56 =>
 PH (stE 1 x56 x55 h_22) fun _ h_23 =>
 P (binV .add x49 (vi 1)) fun x57 =>
 K_21 [x57] h_23)
 (P (lds h_20 4 x9) fun x59 =>
 Ly (evL .nil (.buildSlice [(vi 0), (vi 0), (vi 0), (vi 0)] 4 1 [(0, (.lit x59))])) h_20 fun x60 h_24 =>
 PH (apE 4 32 x8 x60 h_24) fun x61 h_25 =>
 P (binV .add x38 (vi 1)) fun x62 =>
 K_14 [x61, x62] h_25)) [(vi 0)] h_18)
 (Ly (evL .nil (.buildSlice [vn] 1 1 [(0, (.lit x8))])) h_13 fun x65 h_26 =>
 PH (apE 1 24 x3 x65 h_26) fun x66 h_27 =>
 P (binV .add x33 (vi 1)) fun x67 =>
 K_10 [x66, x67] h_27)) [vn, (vi 0)] h_11)
 (Lp (fun l_28 h_29 K_30 =>
 U1 l_28 fun x4 =>
 P (ld h_29 x1) fun x68 =>
 P (lenV x68) fun x69 =>
 P (binV .gtr x69 (vi 0)) fun x70 =>
 If x70 (CV A x12 [] h_29 fun x73 h_31 =>
 Ly (evL .nil (.buildSlice [(vi 0)] 1 1 [(0, (.lit x73))])) h_31 fun x74 h_32 =>
 PH (apE 1 8 x4 x74 h_32) fun x75 h_33 =>
 K_30 [x75] h_33)
 (P (lds h_29 6 x2) fun x76 =>
 PH (stE 6 x2 x76 h_29) fun _ h_34 =>
 P (lds h_34 6 x2) fun r =>
 Rt [r, x3, x4] h_34 Q)) [vn] h_9)) [vn, (vi 0)] h_7)) [(vi 0)] h_3
theorem ww_script_Decode (A : AProg) (x0 : Value) (h : AHeap) (Q : VK) : w_script_Decode A x0 h Q = WF A c7 [x0] h Q := by kernel_rfl
theorem e_script_Decode {x0 : Value} {h : AHeap} {Q : VK} (w : w_script_Decode prW x0 h Q) : Ensures prW n_script_Decode [x0] h Q := ens_of (fn := c7) prW_grow (by kernel_rfl) (by kernel_rfl) (by kernel_rfl) (ww_script_Decode prW x0 h Q ▸ w)
def w_pantryref26_Decode (A : AProg) (x0 : Value) (h : AHeap) (Q : VK) : Prop :=
 Ly (evL .nil (.alloc [(vi 0), (vi 0), (vi 0), (vi 0), (vi 0), (vi 0)])) h fun x2 h_1 =>
 P (evP .nil h_1 (.build [vn, (vi 0)] [(0, 1, (.lit x0))])) fun x16 =>
 Ly (evL .nil (.box (.lit x16))) h_1 fun x17 h_2 =>
 Ly (evL .nil (.alloc [(vi 0), (vi 0), (vi 0), (vi 0), (vi 0), (vi 0)])) h_2 fun x6 h_3 =>
 Ensures A n_pantryref26_reader_next [x17] h_3 fun x19 h_4 =>
 P (fieldAddrV 0 x6) fun x20 =>
 PH (stE 1 x20 x19 h_4) fun _ h_5 =>
 Ensures A n_pantryref26_reader_next [x17] h_5 fun x22 h_6 =>
 P (fieldAddrV 1 x6) fun x23 =>
 PH (stE 1 x23 x22 h_6) fun _ h_7 =>
 Ensures A n_pantryref26_reader_next [x17] h_7 fun x25 h_8 =>
 P (fieldAddrV 2 x6) fun x26 =>
 PH (stE 1 x26 x25 h_8) fun _ h_9 =>
 Ensures A n_pantryref26_reader_next [x17] h_9 fun x28 h_10 =>
 P (fieldAddrV 3 x6) fun x29 =>
 PH (stE 1 x29 x28 h_10) fun _ h_11 =>
 Ensures A n_pantryref26_reader_next [x17] h_11 fun x31 h_12 =>
 P (fieldAddrV 4 x6) fun x32 =>
 PH (stE 1 x32 x31 h_12) fun _ h_13 =>
 Ensures A n_pantryref26_reader_next [x17] h_13 fun x34 h_14 =>
 P (fieldAddrV 5 x6) fun x35 =>
 PH (stE 1 x35 x34 h_14) fun _ h_15 =>
 Ensures A n_pantryref26_reader_next [x17] h_15 fun x37 h_16 =>
 P (binV .rem x37 (vi 9)) fun x38 =>
 Lp (fun l h_17 K =>
 U2 l fun x7 x9 =>
 P (binV .lss x9 x38) fun x41 =>
 If x41 (Ensures A n_pantryref26_reader_next [x17] h_17 fun x45 h_18 =>
 P (binV .rem x45 (vi 33)) fun x46 =>
 Lp (fun l_19 h_20 K_21 =>
 U2 l_19 fun x10 x12 =>
 P (binV .lss x12 x46) fun x49 =>
 If x49 (Ly (evL .nil (.alloc [(vi 0), (vi 0), (vi 0), (vi 0)])) h_20 fun x13 h_22 =>
 Ensures A n_pantryref26_reader_next [x17] h_22 fun x53 h_23 =>
 P (binV .rem x53 (vi 5)) fun x54 =>
 P (fieldAddrV 0 x13) fun x55 =>
 PH (stE 1 x55 x54 h_23) fun _ h_24 =>
 Ensures A n_pantryref26_reader_next [x17] h_24 fun x57 h_25 =>
 P (fieldAddrV 1 x13) fun x58 =>
 PH (stE 1 x58 x57 h_25) fun _ h_26 =>
 Ensures A n_pantryref26_reader_next [x17] h_26 fun x60 h_27 =>
 P (fieldAddrV 2 x13) fun x61 =>
 PH (stE 1 x61 x60 h_27) fun _ h_28 =>
 Ensures A n_pantryref26_reader_next [x17] h_28 fun x63 h_29 =>
 P (fieldAddrV 3 x13) fun x64 =>
 PH (stE 1 x64 x63 h_29) fun _ h_30 =>
 P (lds h_30 4 x13) fun x66 =>
 Ly (evL .nil (.buildSlice [(vi 0), (vi 0), (vi 0), (vi 0)] 4 1 [(0, (.lit x66))])) h_30 fun x67 h_31 =>
 PH (apE 4 32 x10 x67 h_31) fun x68 h_32 =>
 P (binV .add x12 (vi 1)) fun x51 =>
 K_21 [x68, x51] h_32)
 (Ly (evL .nil (.buildSlice [vn] 1 1 [(0, (.lit x10))])) h_20 fun x71 h_33 =>
 PH (apE 1 24 x7 x71 h_33) fun x72 h_34 =>
 P (binV .add x9 (vi 1)) fun x43 =>
 K [x72, x43] h_34)) [vn, (vi 0)] h_18)
 (Lp (fun l_35 h_36 K_37 =>
 U1 l_35 fun x14 =>
 Fl 1 x17 h_36 fun x76 =>
 P (lenV x0) fun x78 =>
 P (binV .lss x76 x78) fun x79 =>
 If x79 (Ensures A n_pantryref26_reader_next [x17] h_36 fun x82 h_38 =>
 Ly (evL .nil (.buildSlice [(vi 0)] 1 1 [(0, (.lit x82))])) h_38 fun x83 h_39 =>
 PH (apE 1 8 x14 x83 h_39) fun x84 h_40 =>
 K_37 [x84] h_40)
 (P (lds h_36 6 x6) fun x85 =>
 PH (stE 6 x2 x85 h_36) fun _ h_41 =>
 P (lds h_41 6 x2) fun r =>
 Rt [r, x7, x14] h_41 Q)) [vn] h_17)) [vn, (vi 0)] h_16
theorem ww_pantryref26_Decode (A : AProg) (x0 : Value) (h : AHeap) (Q : VK) : w_pantryref26_Decode A x0 h Q = WF A c8 [x0] h Q := by kernel_rfl
theorem e_pantryref26_Decode {x0 : Value} {h : AHeap} {Q : VK} (w : w_pantryref26_Decode prW x0 h Q) : Ensures prW n_pantryref26_Decode [x0] h Q := ens_of (fn := c8) prW_grow (by kernel_rfl) (by kernel_rfl) (by kernel_rfl) (ww_pantryref26_Decode prW x0 h Q ▸ w)
def w_script_Encode (A : AProg) (x0 x1 x2 : Value) (h : AHeap) (Q : VK) : Prop :=
 Ly (evL .nil (.box (.lit x0))) h fun x3 h_1 =>
 P (evP .nil h_1 (.build [vn, (.bool false)] [])) fun x13 =>
 Ly (evL .nil (.box (.lit x13))) h_1 fun x14 h_2 =>
 P (fieldAddrV 0 x3) fun x16 =>
 P (ld h_2 x16) fun x17 =>
 P (fieldAddrV 1 x3) fun x18 =>
 P (ld h_2 x18) fun x19 =>
 P (fieldAddrV 2 x3) fun x20 =>
 P (ld h_2 x20) fun x21 =>
 P (fieldAddrV 3 x3) fun x22 =>
 P (ld h_2 x22) fun x23 =>
 P (fieldAddrV 4 x3) fun x24 =>
 P (ld h_2 x24) fun x25 =>
 P (fieldAddrV 5 x3) fun x26 =>
 P (ld h_2 x26) fun x27 =>
 Ly (evL .nil (.buildSlice [(vi 0)] 1 6 [(0, (.lit x17)), (1, (.lit x19)), (2, (.lit x21)), (3, (.lit x23)), (4, (.lit x25)), (5, (.lit x27))])) h_2 fun x28 h_3 =>
 Ensures A n_script_writer_put [x14, (vi 255), x28] h_3 fun x29 h_4 =>
 P (lenV x1) fun x32 =>
 Ly (evL .nil (.buildSlice [(vi 0)] 1 1 [(0, (.lit x32))])) h_4 fun x33 h_5 =>
 Ensures A n_script_writer_put [x14, (vi 8), x33] h_5 fun x34 h_6 =>
 P (lenV x1) fun x36 =>
 Lp (fun l h_7 K =>
 U1 l fun x37 =>
 P (binV .lss x37 x36) fun x38 =>
 If x38 (P (indexAddrV 1 x1 x37) fun x39 =>
 P (ld h_7 x39) fun x40 =>
 P (lenV x40) fun x43 =>
 Ly (evL .nil (.buildSlice [(vi 0)] 1 1 [(0, (.lit x43))])) h_7 fun x44 h_8 =>
 Ensures A n_script_writer_put [x14, (vi 32), x44] h_8 fun x45 h_9 =>
 P (lenV x40) fun x47 =>
 Lp (fun l_10 h_11 K_12 =>
 U1 l_10 fun x48 =>
 P (binV .lss x48 x47) fun x49 =>
 If x49 (P (indexAddrV 4 x40 x48) fun x50 =>
 P (lds h_11 4 x50) fun x51 =>
 Ly (evL .nil (.alloc [(vi 0), (vi 0), (vi 0), (vi 0)])) h_11 fun x12 h_13 =>
 PH (stE 4 x12 x51 h_13) fun _ h_14 =>
 P (fieldAddrV 0 x12) fun x53 =>
 P (ld h_14 x53) fun x54 =>
 Ly (evL .nil (.buildSlice [(vi 0)] 1 1 [(0, (.lit x54))])) h_14 fun x55 h_15 =>
 Ensures A n_script_writer_put [x14, (vi 4), x55] h_15 fun x56 h_16 =>
 P (fieldAddrV 1 x12) fun x58 =>
 P (ld h_16 x58) fun x59 =>
 P (fieldAddrV 2 x12) fun x60 =>
 P (ld h_16 x60) fun x61 =>
 P (fieldAddrV 3 x12) fun x62 =>
 P (ld h_16 x62) fun x63 =>
 Ly (evL .nil (.buildSlice [(vi 0)] 1 3 [(0, (.lit x59)), (1, (.lit x61)), (2, (.lit x63))])) h_16 fun x64 h_17 =>
 Ensures A n_script_writer_put [x14, (vi 255), x64] h_17 fun x65 h_18 =>
 P (binV .add x48 (vi 1)) fun x66 =>
 K_12 [x66] h_18)
 (P (binV .add x37 (vi 1)) fun x67 =>
 K [x67] h_11)) [(vi 0)] h_9)
 (Ensures A n_script_writer_put [x14, (vi 255), x2] h_7 fun x70 h_19 =>
 Fl 1 x14 h_19 fun x74 =>
 If x74 (Rt [vn, (vi 1)] h_19 Q)
 (Fl 0 x14 h_19 fun x78 =>
 Rt [x78, (vi 0)] h_19 Q))) [(vi 0)] h_6
theorem ww_script_Encode (A : AProg) (x0 x1 x2 : Value) (h : AHeap) (Q : VK) : w_script_Encode A x0 x1 x2 h Q = WF A c9 [x0, x1, x2] h Q := by kernel_rfl
theorem e_script_Encode {x0 x1 x2 : Value} {h : AHeap} {Q : VK} (w : w_script_Encode prW x0 x1 x2 h Q) : Ensures prW n_script_Encode [x0, x1, x2] h Q := ens_of (fn := c9) prW_grow (by kernel_rfl) (by kernel_rfl) (by kernel_rfl) (ww_script_Encode prW x0 x1 x2 h Q ▸ w)
def w_pantryref26_Encode (A : AProg) (x0 x1 x2 : Value) (h : AHeap) (Q : VK) : Prop :=
 Ly (evL .nil (.box (.lit x0))) h fun x3 h_1 =>
 P (fieldAddrV 0 x3) fun x14 =>
 P (ld h_1 x14) fun x15 =>
 Ensures A n_pantryref26_byteOf [x15] h_1 fun x16 h_2 =>
 Jg (fun x18 h_3 =>
 Jg (fun x19 h_4 =>
 Jg (fun x20 h_5 =>
 P (pickV x16 x20 (.bool false)) fun x21 =>
 Jg (fun x23 h_6 =>
 Jg (fun x24 h_7 =>
 Jg (fun x25 h_8 =>
 P (pickV x21 x25 (.bool false)) fun x26 =>
 Jg (fun x28 h_9 =>
 Jg (fun x29 h_10 =>
 Jg (fun x30 h_11 =>
 P (pickV x26 x30 (.bool false)) fun x31 =>
 Jg (fun x33 h_12 =>
 Jg (fun x34 h_13 =>
 Jg (fun x35 h_14 =>
 P (pickV x31 x35 (.bool false)) fun x36 =>
 Jg (fun x38 h_15 =>
 Jg (fun x39 h_16 =>
 Jg (fun x40 h_17 =>
 P (pickV x36 x40 (.bool false)) fun x41 =>
 Jg (fun x43 h_18 =>
 Jg (fun x44 h_19 =>
 Jg (fun x45 h_20 =>
 P (pickV x41 x45 (.bool false)) fun x46 =>
 P (notV x46) fun x48 =>
 If x48 (Rt [vn, (vi 1)] h_20 Q)
 (P (fieldAddrV 0 x3) fun x49 =>
 P (ld h_20 x49) fun x50 =>
 P (cvt .u8 x50) fun x51 =>
 P (fieldAddrV 1 x3) fun x52 =>
 P (ld h_20 x52) fun x53 =>
 P (cvt .u8 x53) fun x54 =>
 P (fieldAddrV 2 x3) fun x55 =>
 P (ld h_20 x55) fun x56 =>
 P (cvt .u8 x56) fun x57 =>
 P (fieldAddrV 3 x3) fun x58 =>
 P (ld h_20 x58) fun x59 =>
 P (cvt .u8 x59) fun x60 =>
 P (fieldAddrV 4 x3) fun x61 =>
 P (ld h_20 x61) fun x62 =>
 P (cvt .u8 x62) fun x63 =>
 P (fieldAddrV 5 x3) fun x64 =>
 P (ld h_20 x64) fun x65 =>
 P (cvt .u8 x65) fun x66 =>
 P (lenV x1) fun x68 =>
 P (cvt .u8 x68) fun x69 =>
 Ly (evL .nil (.buildSlice [(.int .u8 0)] 1 7 [(0, (.lit x51)), (1, (.lit x54)), (2, (.lit x57)), (3, (.lit x60)), (4, (.lit x63)), (5, (.lit x66)), (6, (.lit x69))])) h_20 fun x70 h_21 =>
 Lp (fun l h_22 K =>
 U4 l fun x6 x7 x9 x10 =>
 P (lenV x1) fun x73 =>
 P (binV .lss x10 x73) fun x74 =>
 If x74 (P (indexAddrV 1 x1 x10) fun x79 =>
 P (ld h_22 x79) fun x80 =>
 P (lenV x80) fun x81 =>
 P (binV .gtr x81 (vi 32)) fun x82 =>
 If x82 (Rt [vn, (vi 1)] h_22 Q)
 (P (indexAddrV 1 x1 x10) fun x86 =>
 P (ld h_22 x86) fun x87 =>
 P (lenV x87) fun x88 =>
 P (cvt .u8 x88) fun x89 =>
 Ly (evL .nil (.buildSlice [(.int .u8 0)] 1 1 [(0, (.lit x89))])) h_22 fun x90 h_23 =>
 PH (apE 1 1 x9 x90 h_23) fun x91 h_24 =>
 Lp (fun l_25 h_26 K_27 =>
 U4 l_25 fun x6_28 x7_29 x9_30 x11 =>
 P (indexAddrV 1 x1 x10) fun x95 =>
 P (ld h_26 x95) fun x96 =>
 P (lenV x96) fun x97 =>
 P (binV .lss x11 x97) fun x98 =>
 If x98 (P (indexAddrV 1 x1 x10) fun x103 =>
 P (ld h_26 x103) fun x104 =>
 P (indexAddrV 4 x104 x11) fun x106 =>
 P (lds h_26 4 x106) fun x107 =>
 Ly (evL .nil (.alloc [(vi 0), (vi 0), (vi 0), (vi 0)])) h_26 fun x12 h_31 =>
 PH (stE 4 x12 x107 h_31) fun _ h_32 =>
 P (fieldAddrV 0 x12) fun x108 =>
 P (ld h_32 x108) fun x109 =>
 P (binV .lss x109 (vi 0)) fun x110 =>
 Jg (fun x112 h_33 =>
 Jg (fun x113 h_34 =>
 Jg (fun x114 h_35 =>
 P (pickV x110 (.bool true) x114) fun x115 =>
 Jg (fun x117 h_36 =>
 Jg (fun x118 h_37 =>
 Jg (fun x119 h_38 =>
 Jg (fun x120 h_39 =>
 P (pickV x115 (.bool true) x120) fun x121 =>
 Jg (fun x123 h_40 =>
 Jg (fun x124 h_41 =>
 Jg (fun x125 h_42 =>
 Jg (fun x126 h_43 =>
 P (pickV x121 (.bool true) x126) fun x127 =>
 Jg (fun x129 h_44 =>
 Jg (fun x130 h_45 =>
 Jg (fun x131 h_46 =>
 Jg (fun x132 h_47 =>
 P (pickV x127 (.bool true) x132) fun x133 =>
 If x133 (Rt [vn, (vi 1)] h_47 Q)
 (P (fieldAddrV 0 x12) fun x135 =>
 P (ld h_47 x135) fun x136 =>
 P (cvt .u8 x136) fun x137 =>
 P (fieldAddrV 1 x12) fun x138 =>
 P (ld h_47 x138) fun x139 =>
 P (cvt .u8 x139) fun x140 =>
 P (fieldAddrV 2 x12) fun x141 =>
 P (ld h_47 x141) fun x142 =>
 P (cvt .u8 x142) fun x143 =>
 P (fieldAddrV 3 x12) fun x144 =>
 P (ld h_47 x144) fun x145 =>
 P (cvt .u8 x145) fun x146 =>
 Ly (evL .nil (.buildSlice [(.int .u8 0)] 1 4 [(0, (.lit x137)), (1, (.lit x140)), (2, (.lit x143)), (3, (.lit x146))])) h_47 fun x147 h_48 =>
 PH (apE 1 1 x9_30 x147 h_48) fun x148 h_49 =>
 P (binV .add x11 (vi 1)) fun x100 =>
 K_27 [x6_28, x7_29, x148, x100] h_49)) fun R => G x127 false (P (notV x131) fun x132_50 =>
 R x132_50 h_46) (R noValue h_46)) fun R_51 => G x127 false (Ensures A n_pantryref26_byteOf [x130] h_45 fun x131_52 h_53 =>
 R_51 x131_52 h_53) (R_51 noValue h_45)) fun R_54 => G x127 false (P (ld h_44 x129) fun x130_55 =>
 R_54 x130_55 h_44) (R_54 noValue h_44)) fun R_56 => G x127 false (P (fieldAddrV 3 x12) fun x129_57 =>
 R_56 x129_57 h_43) (R_56 noValue h_43)) fun R_58 => G x121 false (P (notV x125) fun x126_59 =>
 R_58 x126_59 h_42) (R_58 noValue h_42)) fun R_60 => G x121 false (Ensures A n_pantryref26_byteOf [x124] h_41 fun x125_61 h_62 =>
 R_60 x125_61 h_62) (R_60 noValue h_41)) fun R_63 => G x121 false (P (ld h_40 x123) fun x124_64 =>
 R_63 x124_64 h_40) (R_63 noValue h_40)) fun R_65 => G x121 false (P (fieldAddrV 2 x12) fun x123_66 =>
 R_65 x123_66 h_39) (R_65 noValue h_39)) fun R_67 => G x115 false (P (notV x119) fun x120_68 =>
 R_67 x120_68 h_38) (R_67 noValue h_38)) fun R_69 => G x115 false (Ensures A n_pantryref26_byteOf [x118] h_37 fun x119_70 h_71 =>
 R_69 x119_70 h_71) (R_69 noValue h_37)) fun R_72 => G x115 false (P (ld h_36 x117) fun x118_73 =>
 R_72 x118_73 h_36) (R_72 noValue h_36)) fun R_74 => G x115 false (P (fieldAddrV 1 x12) fun x117_75 =>
 R_74 x117_75 h_35) (R_74 noValue h_35)) fun R_76 => G x110 false (P (binV .gtr x113 (vi 4)) fun x114_77 =>
 R_76 x114_77 h_34) (R_76 noValue h_34)) fun R_78 => G x110 false (P (ld h_33 x112) fun x113_79 =>
 R_78 x113_79 h_33) (R_78 noValue h_33)) fun R_80 => G x110 false (P (fieldAddrV 0 x12) fun x112_81 =>
 R_80 x112_81 h_32) (R_80 noValue h_32))
 (P (binV .add x10 (vi 1)) fun x76 =>
 K [x6_28, x7_29, x9_30, x76] h_26)) [x6, x7, x91, (vi 0)] h_24))
 (Lp (fun l_82 h_83 K_84 =>
 U4 l_82 fun x6_85 x7_86 x9_87 x13 =>
 P (lenV x2) fun x151 =>
 P (binV .lss x13 x151) fun x152 =>
 If x152 (P (indexAddrV 1 x2 x13) fun x157 =>
 P (ld h_83 x157) fun x158 =>
 Ensures A n_pantryref26_byteOf [x158] h_83 fun x159 h_88 =>
 P (notV x159) fun x160 =>
 If x160 (Rt [vn, (vi 1)] h_88 Q)
 (P (indexAddrV 1 x2 x13) fun x164 =>
 P (ld h_88 x164) fun x165 =>
 P (cvt .u8 x165) fun x166 =>
 Ly (evL .nil (.buildSlice [(.int .u8 0)] 1 1 [(0, (.lit x166))])) h_88 fun x167 h_89 =>
 PH (apE 1 1 x9_87 x167 h_89) fun x168 h_90 =>
 P (binV .add x13 (vi 1)) fun x154 =>
 K_84 [x6_85, x7_86, x168, x154] h_90))
 (Rt [x9_87, (vi 0)] h_83 Q)) [x6, x7, x9, (vi 0)] h_22)) [vn, (vi 0), x70, (vi 0)] h_21)) fun R_91 => G x41 true (P (binV .leq x44 (vi 8)) fun x45_92 =>
 R_91 x45_92 h_19) (R_91 noValue h_19)) fun R_93 => G x41 true (P (lenV x43) fun x44_94 =>
 R_93 x44_94 h_18) (R_93 noValue h_18)) fun R_95 => G x41 true (R_95 x1 h_17) (R_95 noValue h_17)) fun R_96 => G x36 true (Ensures A n_pantryref26_byteOf [x39] h_16 fun x40_97 h_98 =>
 R_96 x40_97 h_98) (R_96 noValue h_16)) fun R_99 => G x36 true (P (ld h_15 x38) fun x39_100 =>
 R_99 x39_100 h_15) (R_99 noValue h_15)) fun R_101 => G x36 true (P (fieldAddrV 5 x3) fun x38_102 =>
 R_101 x38_102 h_14) (R_101 noValue h_14)) fun R_103 => G x31 true (Ensures A n_pantryref26_byteOf [x34] h_13 fun x35_104 h_105 =>
 R_103 x35_104 h_105) (R_103 noValue h_13)) fun R_106 => G x31 true (P (ld h_12 x33) fun x34_107 =>
 R_106 x34_107 h_12) (R_106 noValue h_12)) fun R_108 => G x31 true (P (fieldAddrV 4 x3) fun x33_109 =>
 R_108 x33_109 h_11) (R_108 noValue h_11)) fun R_110 => G x26 true (Ensures A n_pantryref26_byteOf [x29] h_10 fun x30_111 h_112 =>
 R_110 x30_111 h_112) (R_110 noValue h_10)) fun R_113 => G x26 true (P (ld h_9 x28) fun x29_114 =>
 R_113 x29_114 h_9) (R_113 noValue h_9)) fun R_115 => G x26 true (P (fieldAddrV 3 x3) fun x28_116 =>
 R_115 x28_116 h_8) (R_115 noValue h_8)) fun R_117 => G x21 true (Ensures A n_pantryref26_byteOf [x24] h_7 fun x25_118 h_119 =>
 R_117 x25_118 h_119) (R_117 noValue h_7)) fun R_120 => G x21 true (P (ld h_6 x23) fun x24_121 =>
 R_120 x24_121 h_6) (R_120 noValue h_6)) fun R_122 => G x21 true (P (fieldAddrV 2 x3) fun x23_123 =>
 R_122 x23_123 h_5) (R_122 noValue h_5)) fun R_124 => G x16 true (Ensures A n_pantryref26_byteOf [x19] h_4 fun x20_125 h_126 =>
 R_124 x20_125 h_126) (R_124 noValue h_4)) fun R_127 => G x16 true (P (ld h_3 x18) fun x19_128 =>
 R_127 x19_128 h_3) (R_127 noValue h_3)) fun R_129 => G x16 true (P (fieldAddrV 1 x3) fun x18_130 =>
 R_129 x18_130 h_2) (R_129 noValue h_2)
theorem ww_pantryref26_Encode (A : AProg) (x0 x1 x2 : Value) (h : AHeap) (Q : VK) : w_pantryref26_Encode A x0 x1 x2 h Q = WF A c10 [x0, x1, x2] h Q := by kernel_rfl
theorem e_pantryref26_Encode {x0 x1 x2 : Value} {h : AHeap} {Q : VK} (w : w_pantryref26_Encode prW x0 x1 x2 h Q) : Ensures prW n_pantryref26_Encode [x0, x1, x2] h Q := ens_of (fn := c10) prW_grow (by kernel_rfl) (by kernel_rfl) (by kernel_rfl) (ww_pantryref26_Encode prW x0 x1 x2 h Q ▸ w)
def w_pantryref26_Programs (A : AProg) (x0 x1 : Value) (h : AHeap) (Q : VK) : Prop :=
 P (lenV x0) fun x8 =>
 P (lenV x1) fun x10 =>
 P (binV .neq x8 x10) fun x11 =>
 If x11 (Rt [(.bool false)] h Q)
 (Lp (fun l h_1 K =>
 U2 l fun x4 x5 =>
 P (lenV x0) fun x14 =>
 P (binV .lss x5 x14) fun x15 =>
 If x15 (P (indexAddrV 1 x0 x5) fun x20 =>
 P (ld h_1 x20) fun x21 =>
 P (lenV x21) fun x22 =>
 P (indexAddrV 1 x1 x5) fun x25 =>
 P (ld h_1 x25) fun x26 =>
 P (lenV x26) fun x27 =>
 P (binV .neq x22 x27) fun x28 =>
 If x28 (Rt [(.bool false)] h_1 Q)
 (Lp (fun l_2 h_3 K_4 =>
 U2 l_2 fun x4_5 x6 =>
 P (indexAddrV 1 x0 x5) fun x32 =>
 P (ld h_3 x32) fun x33 =>
 P (lenV x33) fun x34 =>
 P (binV .lss x6 x34) fun x35 =>
 If x35 (P (indexAddrV 1 x0 x5) fun x40 =>
 P (ld h_3 x40) fun x41 =>
 P (indexAddrV 4 x41 x6) fun x43 =>
 P (lds h_3 4 x43) fun x44 =>
 P (indexAddrV 1 x1 x5) fun x47 =>
 P (ld h_3 x47) fun x48 =>
 P (indexAddrV 4 x48 x6) fun x50 =>
 P (lds h_3 4 x50) fun x51 =>
 P (eqAggV true [false, false, false, false] x44 x51) fun x52 =>
 If x52 (Rt [(.bool false)] h_3 Q)
 (P (binV .add x6 (vi 1)) fun x37 =>
 K_4 [x4_5, x37] h_3))
 (P (binV .add x5 (vi 1)) fun x17 =>
 K [x4_5, x17] h_3)) [x4, (vi 0)] h_1))
 (Rt [(.bool true)] h_1 Q)) [(.bool false), (vi 0)] h)
theorem ww_pantryref26_Programs (A : AProg) (x0 x1 : Value) (h : AHeap) (Q : VK) : w_pantryref26_Programs A x0 x1 h Q = WF A c11 [x0, x1] h Q := by kernel_rfl
theorem e_pantryref26_Programs {x0 x1 : Value} {h : AHeap} {Q : VK} (w : w_pantryref26_Programs prW x0 x1 h Q) : Ensures prW n_pantryref26_Programs [x0, x1] h Q := ens_of (fn := c11) prW_grow (by kernel_rfl) (by kernel_rfl) (by kernel_rfl) (ww_pantryref26_Programs prW x0 x1 h Q ▸ w)
def w_pantryref03_Ints (A : AProg) (x0 x1 : Value) (h : AHeap) (Q : VK) : Prop :=
 P (lenV x0) fun x7 =>
 P (lenV x1) fun x9 =>
 P (binV .neq x7 x9) fun x10 =>
 If x10 (Rt [(.bool false)] h Q)
 (Lp (fun l h_1 K =>
 U2 l fun x4 x5 =>
 P (lenV x0) fun x13 =>
 P (binV .lss x5 x13) fun x14 =>
 If x14 (P (indexAddrV 1 x0 x5) fun x19 =>
 P (ld h_1 x19) fun x20 =>
 P (indexAddrV 1 x1 x5) fun x23 =>
 P (ld h_1 x23) fun x24 =>
 P (binV .neq x20 x24) fun x25 =>
 If x25 (Rt [(.bool false)] h_1 Q)
 (P (binV .add x5 (vi 1)) fun x16 =>
 K [x4, x16] h_1))
 (Rt [(.bool true)] h_1 Q)) [(.bool false), (vi 0)] h)
theorem ww_pantryref03_Ints (A : AProg) (x0 x1 : Value) (h : AHeap) (Q : VK) : w_pantryref03_Ints A x0 x1 h Q = WF A c12 [x0, x1] h Q := by kernel_rfl
theorem e_pantryref03_Ints {x0 x1 : Value} {h : AHeap} {Q : VK} (w : w_pantryref03_Ints prW x0 x1 h Q) : Ensures prW n_pantryref03_Ints [x0, x1] h Q := ens_of (fn := c12) prW_grow (by kernel_rfl) (by kernel_rfl) (by kernel_rfl) (ww_pantryref03_Ints prW x0 x1 h Q ▸ w)
def w_script_Decode_1 (A : AProg) (x0 : Value) (h : AHeap) (Q : VK) : Prop :=
 P (ld h x0) fun x3 =>
 P (lenV x3) fun x4 =>
 P (binV .eql x4 (vi 0)) fun x5 =>
 If x5 (Rt [(vi 0)] h Q)
 (P (ld h x0) fun x6 =>
 P (indexAddrV 1 x6 (vi 0)) fun x7 =>
 P (ld h x7) fun x8 =>
 P (cvt .i64 x8) fun x9 =>
 P (ld h x0) fun x10 =>
 P (evP .nil h (.slice false 1 (.lit x10) (some (.lit (vi 1))) none none)) fun x11 =>
 PH (stE 1 x0 x11 h) fun _ h_1 =>
 Rt [x9] h_1 Q)
theorem ww_script_Decode_1 (A : AProg) (x0 : Value) (h : AHeap) (Q : VK) : w_script_Decode_1 A x0 h Q = WF A c16 [x0] h Q := by kernel_rfl
theorem e_script_Decode_1 {x0 : Value} {h : AHeap} {Q : VK} (w : w_script_Decode_1 prW x0 h Q) : Ensures prW n_script_Decode_1 [x0] h Q := ens_of (fn := c16) prW_grow (by kernel_rfl) (by kernel_rfl) (by kernel_rfl) (ww_script_Decode_1 prW x0 h Q ▸ w)
def w_pantryref26_reader_next (A : AProg) (x0 : Value) (h : AHeap) (Q : VK) : Prop :=
 Fl 1 x0 h fun x6 =>
 Fl 0 x0 h fun x10 =>
 P (lenV x10) fun x11 =>
 P (binV .geq x6 x11) fun x12 =>
 If x12 (Rt [(vi 0)] h Q)
 (Fl 1 x0 h fun x16 =>
 P (binV .add x16 (vi 1)) fun x17 =>
 Fa 1 x0 fun x19 =>
 PH (stE 1 x19 x17 h) fun _ h_1 =>
 Fl 0 x0 h_1 fun x23 =>
 Fl 1 x0 h_1 fun x27 =>
 P (binV .sub x27 (vi 1)) fun x28 =>
 P (indexAddrV 1 x23 x28) fun x29 =>
 P (ld h_1 x29) fun x30 =>
 P (cvt .i64 x30) fun x31 =>
 Rt [x31] h_1 Q)
theorem ww_pantryref26_reader_next (A : AProg) (x0 : Value) (h : AHeap) (Q : VK) : w_pantryref26_reader_next A x0 h Q = WF A c17 [x0] h Q := by kernel_rfl
theorem e_pantryref26_reader_next {x0 : Value} {h : AHeap} {Q : VK} (w : w_pantryref26_reader_next prW x0 h Q) : Ensures prW n_pantryref26_reader_next [x0] h Q := ens_of (fn := c17) prW_grow (by kernel_rfl) (by kernel_rfl) (by kernel_rfl) (ww_pantryref26_reader_next prW x0 h Q ▸ w)
def w_script_writer_put (A : AProg) (x0 x1 x2 : Value) (h : AHeap) (Q : VK) : Prop :=
 P (lenV x2) fun x9 =>
 Lp (fun l h_1 K =>
 U1 l fun x10 =>
 P (binV .lss x10 x9) fun x11 =>
 If x11 (P (indexAddrV 1 x2 x10) fun x12 =>
 P (ld h_1 x12) fun x13 =>
 Fl 1 x0 h_1 fun x18 =>
 Jg (fun x20 h_2 =>
 Jg (fun x21 h_3 =>
 P (pickV x18 (.bool true) x21) fun x22 =>
 Jg (fun x24 h_4 =>
 Jg (fun x25 h_5 =>
 Jg (fun x26 h_6 =>
 P (pickV x22 (.bool true) x26) fun x27 =>
 Fa 1 x0 fun x29 =>
 PH (stE 1 x29 x27 h_6) fun _ h_7 =>
 Fl 0 x0 h_7 fun x34 =>
 P (cvt .u8 x13) fun x36 =>
 Ly (evL .nil (.buildSlice [(.int .u8 0)] 1 1 [(0, (.lit x36))])) h_7 fun x37 h_8 =>
 PH (apE 1 1 x34 x37 h_8) fun x38 h_9 =>
 Fa 0 x0 fun x40 =>
 PH (stE 1 x40 x38 h_9) fun _ h_10 =>
 P (binV .add x10 (vi 1)) fun x41 =>
 K [x41] h_10) fun R => G x22 false (P (binV .gtr x24 x25) fun x26_11 =>
 R x26_11 h_5) (R noValue h_5)) fun R_12 => G x22 false (R_12 x1 h_4) (R_12 noValue h_4)) fun R_13 => G x22 false (R_13 x13 h_3) (R_13 noValue h_3)) fun R_14 => G x18 false (P (binV .lss x20 (vi 0)) fun x21_15 =>
 R_14 x21_15 h_2) (R_14 noValue h_2)) fun R_16 => G x18 false (R_16 x13 h_1) (R_16 noValue h_1))
 (Rt [] h_1 Q)) [(vi 0)] h
theorem ww_script_writer_put (A : AProg) (x0 x1 x2 : Value) (h : AHeap) (Q : VK) : w_script_writer_put A x0 x1 x2 h Q = WF A c18 [x0, x1, x2] h Q := by kernel_rfl
theorem e_script_writer_put {x0 x1 x2 : Value} {h : AHeap} {Q : VK} (w : w_script_writer_put prW x0 x1 x2 h Q) : Ensures prW n_script_writer_put [x0, x1, x2] h Q := ens_of (fn := c18) prW_grow (by kernel_rfl) (by kernel_rfl) (by kernel_rfl) (ww_script_writer_put prW x0 x1 x2 h Q ▸ w)
def w_pantryref26_byteOf (A : AProg) (x0 : Value) (h : AHeap) (Q : VK) : Prop :=
 P (binV .geq x0 (vi 0)) fun x4 =>
 Jg (fun x6 h_1 =>
 Jg (fun x7 h_2 =>
 P (pickV x4 x7 (.bool false)) fun x8 =>
 Rt [x8] h_2 Q) fun R => G x4 true (P (binV .leq x6 (vi 255)) fun x7_3 =>
 R x7_3 h_1) (R noValue h_1)) fun R_4 => G x4 true (R_4 x0 h) (R_4 noValue h)
theorem ww_pantryref26_byteOf (A : AProg) (x0 : Value) (h : AHeap) (Q : VK) : w_pantryref26_byteOf A x0 h Q = WF A c19 [x0] h Q := by kernel_rfl
theorem e_pantryref26_byteOf {x0 : Value} {h : AHeap} {Q : VK} (w : w_pantryref26_byteOf prW x0 h Q) : Ensures prW n_pantryref26_byteOf [x0] h Q := ens_of (fn := c19) prW_grow (by kernel_rfl) (by kernel_rfl) (by kernel_rfl) (ww_pantryref26_byteOf prW x0 h Q ▸ w)
end Go.Proofs.YtgnmjfnkibbnkaaGreatDoor

/- What each function computes, in plain Lean, and that it does: printed by vgen.py. -/
import Derived.Test.YtobhmahlenjheaaGL
set_option linter.unusedVariables false
set_option linter.unusedSimpArgs false
set_option maxRecDepth 1000000
set_option maxHeartbeats 0
namespace Go.Proofs.YtobhmahlenjheaaM
open Go Go.RowKit
noncomputable section
def KV0 : PureK := fun _ => none
def ZV0 : List VEnt := []
def PV0 : List FuncId := []
def NV0 : List FuncId := Wa0.fs
def EV0 : List VEnt := []
theorem CV0 : Ch Try.prog gl0 Wa0 KV0 NV0 ZV0 EV0 := Ch.start wok0
def RV0 : List FuncId := []
theorem rV0 : RdL Wa0 RV0 := RdL.nil
def F_header_fit (a0 : Int) (a1 : (List Int)) : Option (Bool × Unit) :=
  (iter (fun v0 => bif decide (v0.1 < (a1.length : Int)) then ((idxL a1 v0.1).bind fun v1 => bif decide (v1 < 0) then (some (.inr (.inl ()))) else (bif decide (v1 > a0) then (some (.inr (.inl ()))) else (some (.inl (IntKind.i64.wrap (v0.1 + 1), ()))))) else (some (.inr (.inr ())))) NF ((0 : Int), ())).bind fun v2 => sumK v2 (fun v3 => some (false, ())) (fun v4 => some (true, ()))
def eF_header_fit : VEnt := ⟨79, ⟨[.pv (.int .i64), .pv (.lst (.int .i64))], []⟩, [⟨[.pv .bool], []⟩], fun q => F_header_fit q.1 q.2.1⟩
def aF_header_fit : Ann := .s .z (.s (.s .z (.l ⟨mkT 21 0 [(9, .pv (.int .i64))], []⟩ [(.ret, ⟨mkT 21 0 [(4, .kb false)], []⟩), ((.exit 0), ⟨mkT 21 0 [], []⟩)] .z)) .z)
theorem tF_header_fit : vfn ⟨Try.prog, [], ZV0, PV0, RV0⟩ Try.f79 aF_header_fit eF_header_fit.ps eF_header_fit.rs = eF_header_fit.F := by kernel_rfl
def EV1 : List VEnt := eF_header_fit :: EV0
def ZV1 : List VEnt := eF_header_fit :: ZV0
def KV1 : PureK := KV0
def NV1 : List FuncId := 79 :: NV0
def PV1 : List FuncId := PV0
theorem CV1 : Ch Try.prog gl0 Wa0 KV1 NV1 ZV1 EV1 := Ch.add0 CV0 (by kernel_rfl) rV0 (by kernel_rfl) (by kernel_rfl) Try.func79 (by decide) tF_header_fit
def F_field_put (a0 : Int) (a1 : Int) : Option ((List UInt8) × Unit) :=
  (chkSub (oMin a1 (100000000 : Int)) a1 a1).bind fun v0 => (iter (fun v1 => bif decide (v1.1 < ((oRep a1 (0 : Int)).length : Int)) then ((shrI a0 .u64 (IntKind.i64.wrap (8 * v1.1))).bind fun v2 => (idxL v1.2.1 v1.1).bind fun v3 => (idxL v1.2.1 v1.1).bind fun v4 => some (.inl (IntKind.i64.wrap (v1.1 + 1), (oSet v1.2.1 v1.1 (IntKind.u8.wrap v2), ())))) else (some (.inr v1.2))) NF ((0 : Int), (oRep a1 (0 : Int), ()))).bind fun v5 => some (oByt v5.1, ())
def eF_field_put : VEnt := ⟨117, ⟨[.pv (.int .u64), .pv (.int .i64)], []⟩, [⟨[.pv .str], []⟩], fun q => F_field_put q.1 q.2.1⟩
def aF_field_put : Ann := .s .z (.s .z (.s (.s .z (.l ⟨mkT 25 0 [(5, .row 0), (11, .pv (.int .i64))], [.row 5 (.int .u8)]⟩ [((.exit 0), ⟨mkT 25 0 [(5, .row 0)], [.row 5 (.int .u8)]⟩)] .z)) .z))
theorem tF_field_put : vfn ⟨Try.prog, [], ZV1, PV1, RV0⟩ Try.f117 aF_field_put eF_field_put.ps eF_field_put.rs = eF_field_put.F := by kernel_rfl
def EV2 : List VEnt := eF_field_put :: EV1
def ZV2 : List VEnt := eF_field_put :: ZV1
def KV2 : PureK := addK KV1 117 (kOf eF_field_put)
def NV2 : List FuncId := NV1
def PV2 : List FuncId := 117 :: PV1
theorem CV2 : Ch Try.prog gl0 Wa0 KV2 NV2 ZV2 EV2 := Ch.pure mixedV noGoroutineV CV1 (by kernel_rfl) rV0 (by kernel_rfl) (by kernel_rfl) Try.func117 (by decide) (by kernel_rfl) tF_field_put
def F_field_P64 (a0 : Int) : Option ((List UInt8) × Unit) :=
  (F_field_put a0 (8 : Int)).bind fun v0 => some v0
def eF_field_P64 : VEnt := ⟨133, ⟨[.pv (.int .u64)], []⟩, [⟨[.pv .str], []⟩], fun q => F_field_P64 q.1⟩
def aF_field_P64 : Ann := .z
theorem tF_field_P64 : vfn ⟨Try.prog, [], ZV2, PV2, RV0⟩ Try.f133 aF_field_P64 eF_field_P64.ps eF_field_P64.rs = eF_field_P64.F := by kernel_rfl
def EV3 : List VEnt := eF_field_P64 :: EV2
def ZV3 : List VEnt := eF_field_P64 :: ZV2
def KV3 : PureK := addK KV2 133 (kOf eF_field_P64)
def NV3 : List FuncId := NV2
def PV3 : List FuncId := 133 :: PV2
theorem CV3 : Ch Try.prog gl0 Wa0 KV3 NV3 ZV3 EV3 := Ch.pure mixedV noGoroutineV CV2 (by kernel_rfl) rV0 (by kernel_rfl) (by kernel_rfl) Try.func133 (by decide) (by kernel_rfl) tF_field_P64
def eId4 : VEnt := idE 128 (⟨[.ptr 0 0], [.obj 95 (.cn (.con 1) (.cn (.con 0) (.nl)))]⟩)
def EV4 : List VEnt := eId4 :: EV3
def ZV4 : List VEnt := eId4 :: ZV3
def KV4 : PureK := KV3
def PV4 : List FuncId := PV3
def Wa1 : Aw := ⟨128 :: Wa0.fs, fun g => if g = 128 then handsBack else Wa0.hk g⟩
def NV4 : List FuncId := 128 :: NV3
theorem CV4 : Ch Try.prog gl0 Wa1 KV4 NV4 ZV4 EV4 := Ch.addW (e := eId4) (Ch.addHook CV3 (by kernel_rfl) (by kernel_rfl) (fun B => HookOK.noEscape Try.func128 (by kernel_rfl) (by kernel_rfl) (by kernel_rfl) rfl)) (by kernel_rfl) (fun Γ D n hf => idE_sound rfl (Eq.trans (show Γ 128 = some (if (128 : FuncId) = 128 then handsBack else Wa0.hk 128) from hf) (congrArg some (if_pos rfl))) n)
theorem rV1 : RdL Wa1 RV0 := RdL.up (f := 128) rV0 (by kernel_rfl)
def F_strings_Builder_copyCheck : Option Unit :=
  F_id0.bind fun v0 => some ()
def eF_strings_Builder_copyCheck : VEnt := ⟨106, ⟨[.ptr 0 0], [.obj 95 (.cn (.con 1) (.cn (.con 0) (.nl)))]⟩, [⟨[.tup (.nl)], [.obj 95 (.cn (.ptr 0 0) (.cn (.con 0) (.nl)))]⟩], fun q => F_strings_Builder_copyCheck⟩
def aF_strings_Builder_copyCheck : Ann := .z
theorem tF_strings_Builder_copyCheck : vfn ⟨Try.prog, [], ZV4, PV4, RV0⟩ Try.f106 aF_strings_Builder_copyCheck eF_strings_Builder_copyCheck.ps eF_strings_Builder_copyCheck.rs = eF_strings_Builder_copyCheck.F := by kernel_rfl
def EV5 : List VEnt := eF_strings_Builder_copyCheck :: EV4
def ZV5 : List VEnt := eF_strings_Builder_copyCheck :: ZV4
def KV5 : PureK := KV4
def NV5 : List FuncId := 106 :: NV4
def PV5 : List FuncId := PV4
theorem CV5 : Ch Try.prog gl0 Wa1 KV5 NV5 ZV5 EV5 := Ch.add0 CV4 (by kernel_rfl) rV1 (by kernel_rfl) (by kernel_rfl) Try.func106 (by decide) tF_strings_Builder_copyCheck
def F_strings_Builder_WriteString (a0 : (List UInt8)) : Option (Int × ((List Int) × Unit)) :=
  F_strings_Builder_copyCheck.bind fun v0 => (app ([] : (List Int)) (oInts a0)).bind fun v1 => some ((a0.length : Int), (v1, ()))
def eF_strings_Builder_WriteString : VEnt := ⟨66, ⟨[.ptr 0 0, .pv .str], [.obj 95 (.cn (.con 1) (.cn (.con 0) (.nl)))]⟩, [⟨[.tup (.cn (.pv (.int .i64)) (.cn (.con 4) (.nl)))], [.obj 95 (.cn (.ptr 0 0) (.cn (.row 1) (.nl))), .row 5 (.int .u8)]⟩], fun q => F_strings_Builder_WriteString q.1⟩
def aF_strings_Builder_WriteString : Ann := .z
theorem tF_strings_Builder_WriteString : vfn ⟨Try.prog, [], ZV5, PV5, RV0⟩ Try.f66 aF_strings_Builder_WriteString eF_strings_Builder_WriteString.ps eF_strings_Builder_WriteString.rs = eF_strings_Builder_WriteString.F := by kernel_rfl
def EV6 : List VEnt := eF_strings_Builder_WriteString :: EV5
def ZV6 : List VEnt := eF_strings_Builder_WriteString :: ZV5
def KV6 : PureK := KV5
def NV6 : List FuncId := 66 :: NV5
def PV6 : List FuncId := PV5
theorem CV6 : Ch Try.prog gl0 Wa1 KV6 NV6 ZV6 EV6 := Ch.add0 CV5 (by kernel_rfl) rV1 (by kernel_rfl) (by kernel_rfl) Try.func66 (by decide) tF_strings_Builder_WriteString
def F_strings_Builder_copyCheck_2 (a0 : (List Int)) : Option ((List Int) × Unit) :=
  some (a0, ())
def eF_strings_Builder_copyCheck_2 : VEnt := ⟨106, ⟨[.ptr 0 0], [.obj 95 (.cn (.ptr 0 0) (.cn (.row 1) (.nl))), .row 5 (.int .u8)]⟩, [⟨[.tup (.nl)], [.obj 95 (.cn (.ptr 0 0) (.cn (.row 1) (.nl))), .row 5 (.int .u8)]⟩], fun q => F_strings_Builder_copyCheck_2 q.1⟩
def aF_strings_Builder_copyCheck_2 : Ann := .z
theorem tF_strings_Builder_copyCheck_2 : vfn ⟨Try.prog, [], ZV6, PV6, RV0⟩ Try.f106 aF_strings_Builder_copyCheck_2 eF_strings_Builder_copyCheck_2.ps eF_strings_Builder_copyCheck_2.rs = eF_strings_Builder_copyCheck_2.F := by kernel_rfl
def EV7 : List VEnt := eF_strings_Builder_copyCheck_2 :: EV6
def ZV7 : List VEnt := eF_strings_Builder_copyCheck_2 :: ZV6
def KV7 : PureK := KV6
def NV7 : List FuncId := 106 :: NV6
def PV7 : List FuncId := PV6
theorem CV7 : Ch Try.prog gl0 Wa1 KV7 NV7 ZV7 EV7 := Ch.add0 CV6 (by kernel_rfl) rV1 (by kernel_rfl) (by kernel_rfl) Try.func106 (by decide) tF_strings_Builder_copyCheck_2
def F_strings_Builder_WriteString_2 (a0 : (List UInt8)) (a1 : (List Int)) : Option (Int × ((List Int) × Unit)) :=
  (F_strings_Builder_copyCheck_2 a1).bind fun v0 => (app v0.1 (oInts a0)).bind fun v1 => some ((a0.length : Int), (v1, ()))
def eF_strings_Builder_WriteString_2 : VEnt := ⟨66, ⟨[.ptr 0 0, .pv .str], [.obj 95 (.cn (.ptr 0 0) (.cn (.row 1) (.nl))), .row 5 (.int .u8)]⟩, [⟨[.tup (.cn (.pv (.int .i64)) (.cn (.con 4) (.nl)))], [.obj 95 (.cn (.ptr 0 0) (.cn (.row 2) (.nl))), .gone, .row 5 (.int .u8)]⟩], fun q => F_strings_Builder_WriteString_2 q.1 q.2.1⟩
def aF_strings_Builder_WriteString_2 : Ann := .z
theorem tF_strings_Builder_WriteString_2 : vfn ⟨Try.prog, [], ZV7, PV7, RV0⟩ Try.f66 aF_strings_Builder_WriteString_2 eF_strings_Builder_WriteString_2.ps eF_strings_Builder_WriteString_2.rs = eF_strings_Builder_WriteString_2.F := by kernel_rfl
def EV8 : List VEnt := eF_strings_Builder_WriteString_2 :: EV7
def ZV8 : List VEnt := eF_strings_Builder_WriteString_2 :: ZV7
def KV8 : PureK := KV7
def NV8 : List FuncId := 66 :: NV7
def PV8 : List FuncId := PV7
theorem CV8 : Ch Try.prog gl0 Wa1 KV8 NV8 ZV8 EV8 := Ch.add0 CV7 (by kernel_rfl) rV1 (by kernel_rfl) (by kernel_rfl) Try.func66 (by decide) tF_strings_Builder_WriteString_2
def F_strings_Builder_String (a0 : (List Int)) : Option ((List UInt8) × Unit) :=
  (chkNe a0).bind fun v0 => (usT a0 (a0.length : Int)).bind fun v1 => some (v1, ())
def eF_strings_Builder_String : VEnt := ⟨67, ⟨[.ptr 0 0], [.obj 95 (.cn (.ptr 0 0) (.cn (.row 1) (.nl))), .row 5 (.int .u8)]⟩, [⟨[.pv .str], [.obj 95 (.cn (.ptr 0 0) (.cn (.row 1) (.nl))), .gone]⟩], fun q => F_strings_Builder_String q.1⟩
def aF_strings_Builder_String : Ann := .z
theorem tF_strings_Builder_String : vfn ⟨Try.prog, [], ZV8, PV8, RV0⟩ Try.f67 aF_strings_Builder_String eF_strings_Builder_String.ps eF_strings_Builder_String.rs = eF_strings_Builder_String.F := by kernel_rfl
def EV9 : List VEnt := eF_strings_Builder_String :: EV8
def ZV9 : List VEnt := eF_strings_Builder_String :: ZV8
def KV9 : PureK := KV8
def NV9 : List FuncId := 67 :: NV8
def PV9 : List FuncId := PV8
theorem CV9 : Ch Try.prog gl0 Wa1 KV9 NV9 ZV9 EV9 := Ch.add0 CV8 (by kernel_rfl) rV1 (by kernel_rfl) (by kernel_rfl) Try.func67 (by decide) tF_strings_Builder_String
def F_strings_Builder_String_2 : Option ((List UInt8) × Unit) :=
  (chkZ (0 : Int)).bind fun v0 => some ((([] : (List UInt8)) : List UInt8), ())
def eF_strings_Builder_String_2 : VEnt := ⟨67, ⟨[.ptr 0 0], [.obj 95 (.cn (.con 1) (.cn (.con 0) (.nl)))]⟩, [⟨[.pv .str], [.obj 95 (.cn (.con 1) (.cn (.con 0) (.nl)))]⟩], fun q => F_strings_Builder_String_2⟩
def aF_strings_Builder_String_2 : Ann := .z
theorem tF_strings_Builder_String_2 : vfn ⟨Try.prog, [], ZV9, PV9, RV0⟩ Try.f67 aF_strings_Builder_String_2 eF_strings_Builder_String_2.ps eF_strings_Builder_String_2.rs = eF_strings_Builder_String_2.F := by kernel_rfl
def EV10 : List VEnt := eF_strings_Builder_String_2 :: EV9
def ZV10 : List VEnt := eF_strings_Builder_String_2 :: ZV9
def KV10 : PureK := KV9
def NV10 : List FuncId := 67 :: NV9
def PV10 : List FuncId := PV9
theorem CV10 : Ch Try.prog gl0 Wa1 KV10 NV10 ZV10 EV10 := Ch.add0 CV9 (by kernel_rfl) rV1 (by kernel_rfl) (by kernel_rfl) Try.func67 (by decide) tF_strings_Builder_String_2
def F_extra_Wide (a0 : (List Int)) : Option ((Int × ((List UInt8) × Unit)) × Unit) :=
  bif decide (0 < (a0.length : Int)) then ((idxL a0 (0 : Int)).bind fun v0 => (F_field_P64 (IntKind.u64.wrap v0)).bind fun v1 => (F_strings_Builder_WriteString v1.1).bind fun v2 => (iter (fun v3 => bif decide (v3.1 < (a0.length : Int)) then ((idxL a0 v3.1).bind fun v4 => (F_field_P64 (IntKind.u64.wrap v4)).bind fun v5 => (F_strings_Builder_WriteString_2 v5.1 v3.2.2.2.1).bind fun v6 => some (.inl (IntKind.i64.wrap (v3.1 + 1), (v3.2.1, (v3.2.2.1, v6.2))))) else (some (.inr v3.2))) NF (IntKind.i64.wrap (0 + 1), ((0 : Int), ((([] : (List UInt8)) : List UInt8), v2.2)))).bind fun v7 => (F_strings_Builder_String v7.2.2.1).bind fun v8 => some (((1 : Int), v8), ())) else (F_strings_Builder_String_2.bind fun v9 => some (((1 : Int), v9), ()))
def eF_extra_Wide : VEnt := ⟨115, ⟨[.pv (.lst (.int .i64))], []⟩, [⟨[.pv (.cons (.int .i64) (.cons .str .nil))], []⟩], fun q => F_extra_Wide q.1⟩
def aF_extra_Wide : Ann := .s .z (.s .z (.s (.s .z (.q .z (.l ⟨mkT 19 0 [(2, .ptr 0 0), (3, .ptr 1 0), (8, .pv (.int .i64))], [.obj 48 (.cn (.pv (.int .i64)) (.cn (.pv .str) (.nl))), .obj 95 (.cn (.ptr 1 0) (.cn (.row 2) (.nl))), .row 5 (.int .u8)]⟩ [((.exit 0), ⟨mkT 19 0 [(2, .ptr 0 0), (3, .ptr 1 0)], [.obj 48 (.cn (.pv (.int .i64)) (.cn (.pv .str) (.nl))), .obj 95 (.cn (.ptr 1 0) (.cn (.row 2) (.nl))), .row 5 (.int .u8)]⟩)] .z))) .z))
theorem tF_extra_Wide : vfn ⟨Try.prog, [], ZV10, PV10, RV0⟩ Try.f115 aF_extra_Wide eF_extra_Wide.ps eF_extra_Wide.rs = eF_extra_Wide.F := by kernel_rfl
def EV11 : List VEnt := eF_extra_Wide :: EV10
def ZV11 : List VEnt := eF_extra_Wide :: ZV10
def KV11 : PureK := KV10
def NV11 : List FuncId := 115 :: NV10
def PV11 : List FuncId := PV10
theorem CV11 : Ch Try.prog gl0 Wa1 KV11 NV11 ZV11 EV11 := Ch.add0 CV10 (by kernel_rfl) rV1 (by kernel_rfl) (by kernel_rfl) Try.func115 (by decide) tF_extra_Wide
def F_field_P16 (a0 : Int) : Option ((List UInt8) × Unit) :=
  (F_field_put (IntKind.u64.wrap a0) (2 : Int)).bind fun v0 => some v0
def eF_field_P16 : VEnt := ⟨116, ⟨[.pv (.int .i64)], []⟩, [⟨[.pv .str], []⟩], fun q => F_field_P16 q.1⟩
def aF_field_P16 : Ann := .z
theorem tF_field_P16 : vfn ⟨Try.prog, [], ZV11, PV11, RV0⟩ Try.f116 aF_field_P16 eF_field_P16.ps eF_field_P16.rs = eF_field_P16.F := by kernel_rfl
def EV12 : List VEnt := eF_field_P16 :: EV11
def ZV12 : List VEnt := eF_field_P16 :: ZV11
def KV12 : PureK := addK KV11 116 (kOf eF_field_P16)
def NV12 : List FuncId := NV11
def PV12 : List FuncId := 116 :: PV11
theorem CV12 : Ch Try.prog gl0 Wa1 KV12 NV12 ZV12 EV12 := Ch.pure mixedV noGoroutineV CV11 (by kernel_rfl) rV1 (by kernel_rfl) (by kernel_rfl) Try.func116 (by decide) (by kernel_rfl) tF_field_P16
def F_strings_Builder_Len (a0 : (List Int)) : Option (Int × ((List Int) × Unit)) :=
  some ((a0.length : Int), (a0, ()))
def eF_strings_Builder_Len : VEnt := ⟨105, ⟨[.ptr 0 0], [.obj 95 (.cn (.ptr 0 0) (.cn (.row 1) (.nl))), .row 5 (.int .u8)]⟩, [⟨[.pv (.int .i64)], [.obj 95 (.cn (.ptr 0 0) (.cn (.row 1) (.nl))), .row 5 (.int .u8)]⟩], fun q => F_strings_Builder_Len q.1⟩
def aF_strings_Builder_Len : Ann := .z
theorem tF_strings_Builder_Len : vfn ⟨Try.prog, [], ZV12, PV12, RV0⟩ Try.f105 aF_strings_Builder_Len eF_strings_Builder_Len.ps eF_strings_Builder_Len.rs = eF_strings_Builder_Len.F := by kernel_rfl
def EV13 : List VEnt := eF_strings_Builder_Len :: EV12
def ZV13 : List VEnt := eF_strings_Builder_Len :: ZV12
def KV13 : PureK := KV12
def NV13 : List FuncId := 105 :: NV12
def PV13 : List FuncId := PV12
theorem CV13 : Ch Try.prog gl0 Wa1 KV13 NV13 ZV13 EV13 := Ch.add0 CV12 (by kernel_rfl) rV1 (by kernel_rfl) (by kernel_rfl) Try.func105 (by decide) tF_strings_Builder_Len
def F_strings_Builder_Len_2 : Option (Int × Unit) :=
  some ((0 : Int), ())
def eF_strings_Builder_Len_2 : VEnt := ⟨105, ⟨[.ptr 0 0], [.obj 95 (.cn (.con 1) (.cn (.con 0) (.nl)))]⟩, [⟨[.pv (.int .i64)], [.obj 95 (.cn (.con 1) (.cn (.con 0) (.nl)))]⟩], fun q => F_strings_Builder_Len_2⟩
def aF_strings_Builder_Len_2 : Ann := .z
theorem tF_strings_Builder_Len_2 : vfn ⟨Try.prog, [], ZV13, PV13, RV0⟩ Try.f105 aF_strings_Builder_Len_2 eF_strings_Builder_Len_2.ps eF_strings_Builder_Len_2.rs = eF_strings_Builder_Len_2.F := by kernel_rfl
def EV14 : List VEnt := eF_strings_Builder_Len_2 :: EV13
def ZV14 : List VEnt := eF_strings_Builder_Len_2 :: ZV13
def KV14 : PureK := KV13
def NV14 : List FuncId := 105 :: NV13
def PV14 : List FuncId := PV13
theorem CV14 : Ch Try.prog gl0 Wa1 KV14 NV14 ZV14 EV14 := Ch.add0 CV13 (by kernel_rfl) rV1 (by kernel_rfl) (by kernel_rfl) Try.func105 (by decide) tF_strings_Builder_Len_2
def F_extra_Put (a0 : (List (Int × ((List UInt8) × Unit)))) : Option ((List UInt8) × (Int × Unit)) :=
  bif decide (0 < (a0.length : Int)) then ((idxL a0 (0 : Int)).bind fun v0 => bif decide (v0.1 < 0) then (some ((([] : (List UInt8)) : List UInt8), ((1 : Int), ()))) else (bif decide (v0.1 > 65535) then (some ((([] : (List UInt8)) : List UInt8), ((1 : Int), ()))) else (bif decide ((v0.2.1.length : Int) > 65535) then (some ((([] : (List UInt8)) : List UInt8), ((1 : Int), ()))) else ((F_field_P16 v0.1).bind fun v1 => (F_field_P16 (v0.2.1.length : Int)).bind fun v2 => (cat v1.1 v2.1).bind fun v3 => (cat v3 v0.2.1).bind fun v4 => (F_strings_Builder_WriteString v4).bind fun v5 => (iter (fun v6 => bif decide (v6.1 < (a0.length : Int)) then ((idxL a0 v6.1).bind fun v7 => bif decide (v7.1 < 0) then (some (.inr (.inl ((([] : (List UInt8)) : List UInt8), ((1 : Int), ()))))) else (bif decide (v7.1 > 65535) then (some (.inr (.inl ((([] : (List UInt8)) : List UInt8), ((1 : Int), ()))))) else (bif decide ((v7.2.1.length : Int) > 65535) then (some (.inr (.inl ((([] : (List UInt8)) : List UInt8), ((1 : Int), ()))))) else ((F_field_P16 v7.1).bind fun v8 => (F_field_P16 (v7.2.1.length : Int)).bind fun v9 => (cat v8.1 v9.1).bind fun v10 => (cat v10 v7.2.1).bind fun v11 => (F_strings_Builder_WriteString_2 v11 v6.2.1).bind fun v12 => some (.inl (IntKind.i64.wrap (v6.1 + 1), v12.2)))))) else (some (.inr (.inr v6.2)))) NF (IntKind.i64.wrap (0 + 1), v5.2)).bind fun v13 => sumK v13 (fun v14 => some v14) (fun v15 => (F_strings_Builder_Len v15.1).bind fun v16 => bif decide (v16.1 > 65535) then (some ((([] : (List UInt8)) : List UInt8), ((7 : Int), ()))) else ((F_strings_Builder_String v16.2.1).bind fun v17 => some (v17.1, ((0 : Int), ())))))))) else (F_strings_Builder_Len_2.bind fun v18 => bif decide (v18.1 > 65535) then (some ((([] : (List UInt8)) : List UInt8), ((7 : Int), ()))) else (F_strings_Builder_String_2.bind fun v19 => some (v19.1, ((0 : Int), ()))))
def eF_extra_Put : VEnt := ⟨114, ⟨[.pv (.lst (.cons (.int .i64) (.cons .str .nil)))], []⟩, [⟨[.tup (.cn (.pv .str) (.cn (.pv (.int .i64)) (.nl)))], []⟩], fun q => F_extra_Put q.1⟩
def aF_extra_Put : Ann := .s .z (.s .z (.s (.s .z (.q .z (.l ⟨mkT 43 0 [(4, .ptr 0 0), (9, .pv (.int .i64))], [.obj 95 (.cn (.ptr 0 0) (.cn (.row 1) (.nl))), .row 5 (.int .u8)]⟩ [(.ret, ⟨mkT 43 0 [(2, .pv .str), (3, .pv (.int .i64))], []⟩), ((.exit 0), ⟨mkT 43 0 [(4, .ptr 0 0)], [.obj 95 (.cn (.ptr 0 0) (.cn (.row 1) (.nl))), .row 5 (.int .u8)]⟩)] .z))) .z))
theorem tF_extra_Put : vfn ⟨Try.prog, [], ZV14, PV14, RV0⟩ Try.f114 aF_extra_Put eF_extra_Put.ps eF_extra_Put.rs = eF_extra_Put.F := by kernel_rfl
def EV15 : List VEnt := eF_extra_Put :: EV14
def ZV15 : List VEnt := eF_extra_Put :: ZV14
def KV15 : PureK := KV14
def NV15 : List FuncId := 114 :: NV14
def PV15 : List FuncId := PV14
theorem CV15 : Ch Try.prog gl0 Wa1 KV15 NV15 ZV15 EV15 := Ch.add0 CV14 (by kernel_rfl) rV1 (by kernel_rfl) (by kernel_rfl) Try.func114 (by decide) tF_extra_Put
def F_header_standing (a0 : (List UInt8)) (a1 : Bool) (a2 : (List Int)) : Option (((Int × (Int × (Int × Unit))) × ((List UInt8) × Unit)) × (Int × Unit)) :=
  (chkCp a2.length (3 : Nat)).bind fun v0 => bif !a1 then ((F_header_fit (4294967294 : Int) a2).bind fun v1 => bif !v1.1 then (some ((((0 : Int), ((0 : Int), ((0 : Int), ()))), ((([] : (List UInt8)) : List UInt8), ())), ((1 : Int), ()))) else (some (((a2.headD 0, (a2.tail.headD 0, (a2.tail.tail.headD 0, ()))), (a0, ())), ((0 : Int), ())))) else ((F_header_fit (1099511627776 : Int) a2).bind fun v2 => bif !v2.1 then (some ((((0 : Int), ((0 : Int), ((0 : Int), ()))), ((([] : (List UInt8)) : List UInt8), ())), ((1 : Int), ()))) else ((F_extra_Wide a2).bind fun v3 => (F_extra_Put [v3.1]).bind fun v4 => (cat v4.1 a0).bind fun v5 => bif decide ((v5.length : Int) > 65535) then (some ((((0 : Int), ((0 : Int), ((0 : Int), ()))), ((([] : (List UInt8)) : List UInt8), ())), ((7 : Int), ()))) else (some ((((4294967295 : Int), ((4294967295 : Int), ((4294967295 : Int), ()))), (v5, ())), ((0 : Int), ())))))
def eF_header_standing : VEnt := ⟨80, ⟨[.pv .str, .pv .bool, .pv (.lst (.int .i64))], []⟩, [⟨[.tup (.cn (.pv (.cons (.cons (.int .i64) (.cons (.int .i64) (.cons (.int .i64) .nil))) (.cons .str .nil))) (.cn (.pv (.int .i64)) (.nl)))], []⟩], fun q => F_header_standing q.1 q.2.1 q.2.2.1⟩
def aF_header_standing : Ann := .z
theorem tF_header_standing : vfn ⟨Try.prog, [], ZV15, PV15, RV0⟩ Try.f80 aF_header_standing eF_header_standing.ps eF_header_standing.rs = eF_header_standing.F := by kernel_rfl
def EV16 : List VEnt := eF_header_standing :: EV15
def ZV16 : List VEnt := eF_header_standing :: ZV15
def KV16 : PureK := KV15
def NV16 : List FuncId := 80 :: NV15
def PV16 : List FuncId := PV15
theorem CV16 : Ch Try.prog gl0 Wa1 KV16 NV16 ZV16 EV16 := Ch.add0 CV15 (by kernel_rfl) rV1 (by kernel_rfl) (by kernel_rfl) Try.func80 (by decide) tF_header_standing
def F_field_P32 (a0 : Int) : Option ((List UInt8) × Unit) :=
  (F_field_put (IntKind.u64.wrap a0) (4 : Int)).bind fun v0 => some v0
def eF_field_P32 : VEnt := ⟨90, ⟨[.pv (.int .i64)], []⟩, [⟨[.pv .str], []⟩], fun q => F_field_P32 q.1⟩
def aF_field_P32 : Ann := .z
theorem tF_field_P32 : vfn ⟨Try.prog, [], ZV16, PV16, RV0⟩ Try.f90 aF_field_P32 eF_field_P32.ps eF_field_P32.rs = eF_field_P32.F := by kernel_rfl
def EV17 : List VEnt := eF_field_P32 :: EV16
def ZV17 : List VEnt := eF_field_P32 :: ZV16
def KV17 : PureK := addK KV16 90 (kOf eF_field_P32)
def NV17 : List FuncId := NV16
def PV17 : List FuncId := 90 :: PV16
theorem CV17 : Ch Try.prog gl0 Wa1 KV17 NV17 ZV17 EV17 := Ch.pure mixedV noGoroutineV CV16 (by kernel_rfl) rV1 (by kernel_rfl) (by kernel_rfl) Try.func90 (by decide) (by kernel_rfl) tF_field_P32
def F_header_p32 (a0 : (List Int)) : Option ((List UInt8) × Unit) :=
  (iter (fun v0 => bif decide (v0.2.1 < (a0.length : Int)) then ((idxL a0 v0.2.1).bind fun v1 => (F_field_P32 v1).bind fun v2 => (cat v0.1 v2.1).bind fun v3 => some (.inl (v3, (IntKind.i64.wrap (v0.2.1 + 1), ())))) else (some (.inr (v0.1, ())))) NF ((([] : (List UInt8)) : List UInt8), ((0 : Int), ()))).bind fun v4 => some v4
def eF_header_p32 : VEnt := ⟨81, ⟨[.pv (.lst (.int .i64))], []⟩, [⟨[.pv .str], []⟩], fun q => F_header_p32 q.1⟩
def aF_header_p32 : Ann := .s .z (.s .z (.s (.s .z (.l ⟨mkT 18 0 [(3, .pv .str), (8, .pv (.int .i64))], []⟩ [((.exit 0), ⟨mkT 18 0 [(3, .pv .str)], []⟩)] .z)) .z))
theorem tF_header_p32 : vfn ⟨Try.prog, [], ZV17, PV17, RV0⟩ Try.f81 aF_header_p32 eF_header_p32.ps eF_header_p32.rs = eF_header_p32.F := by kernel_rfl
def EV18 : List VEnt := eF_header_p32 :: EV17
def ZV18 : List VEnt := eF_header_p32 :: ZV17
def KV18 : PureK := KV17
def NV18 : List FuncId := 81 :: NV17
def PV18 : List FuncId := PV17
def Wa2 : Aw := ⟨81 :: Wa1.fs, fun g => if g = 81 then hkR eF_header_p32 else Wa1.hk g⟩
theorem CV18 : Ch Try.prog gl0 Wa2 KV18 NV18 ZV18 EV18 := Ch.addRead mixedV noGoroutineV CV17 (by kernel_rfl) rV1 (by kernel_rfl) (by kernel_rfl) Try.func81 (by decide) (by kernel_rfl) tF_header_p32
def RV2 : List FuncId := 81 :: RV0
theorem rV2 : RdL Wa2 RV2 := RdL.add rV1 (by kernel_rfl) (hkR_reads (e := eF_header_p32) (by kernel_rfl))
def F_header_p16 (a0 : (List Int)) : Option ((List UInt8) × Unit) :=
  (iter (fun v0 => bif decide (v0.2.1 < (a0.length : Int)) then ((idxL a0 v0.2.1).bind fun v1 => (F_field_P16 v1).bind fun v2 => (cat v0.1 v2.1).bind fun v3 => some (.inl (v3, (IntKind.i64.wrap (v0.2.1 + 1), ())))) else (some (.inr (v0.1, ())))) NF ((([] : (List UInt8)) : List UInt8), ((0 : Int), ()))).bind fun v4 => some v4
def eF_header_p16 : VEnt := ⟨82, ⟨[.pv (.lst (.int .i64))], []⟩, [⟨[.pv .str], []⟩], fun q => F_header_p16 q.1⟩
def aF_header_p16 : Ann := .s .z (.s .z (.s (.s .z (.l ⟨mkT 18 0 [(3, .pv .str), (8, .pv (.int .i64))], []⟩ [((.exit 0), ⟨mkT 18 0 [(3, .pv .str)], []⟩)] .z)) .z))
theorem tF_header_p16 : vfn ⟨Try.prog, [], ZV18, PV18, RV2⟩ Try.f82 aF_header_p16 eF_header_p16.ps eF_header_p16.rs = eF_header_p16.F := by kernel_rfl
def EV19 : List VEnt := eF_header_p16 :: EV18
def ZV19 : List VEnt := eF_header_p16 :: ZV18
def KV19 : PureK := KV18
def NV19 : List FuncId := 82 :: NV18
def PV19 : List FuncId := PV18
def Wa3 : Aw := ⟨82 :: Wa2.fs, fun g => if g = 82 then hkR eF_header_p16 else Wa2.hk g⟩
theorem CV19 : Ch Try.prog gl0 Wa3 KV19 NV19 ZV19 EV19 := Ch.addRead mixedV noGoroutineV CV18 (by kernel_rfl) rV2 (by kernel_rfl) (by kernel_rfl) Try.func82 (by decide) (by kernel_rfl) tF_header_p16
def RV3 : List FuncId := 82 :: RV2
theorem rV3 : RdL Wa3 RV3 := RdL.add rV2 (by kernel_rfl) (hkR_reads (e := eF_header_p16) (by kernel_rfl))
def F_header_PutLocal (a0 : (Int × (Int × (Int × (Int × (Int × (Int × (Int × (Int × (Int × (Int × (Int × ((List UInt8) × ((List UInt8) × ((List UInt8) × Unit))))))))))))))) (a1 : Bool) : Option ((List UInt8) × (Int × Unit)) :=
  (F_header_fit (65535 : Int) [a0.2.1, a0.2.2.1, a0.2.2.2.1, (a0.2.2.2.2.2.2.2.2.2.2.2.1.length : Int), (a0.2.2.2.2.2.2.2.2.2.2.2.2.1.length : Int)]).bind fun v0 => bif !v0.1 then (some ((([] : (List UInt8)) : List UInt8), ((1 : Int), ()))) else ((F_header_fit (4294967295 : Int) [a0.2.2.2.2.1, a0.2.2.2.2.2.1]).bind fun v1 => bif !v1.1 then (some ((([] : (List UInt8)) : List UInt8), ((1 : Int), ()))) else ((F_header_standing a0.2.2.2.2.2.2.2.2.2.2.2.2.1 a1 [a0.2.2.2.2.2.2.2.1, a0.2.2.2.2.2.2.1]).bind fun v2 => bif v2.2.1 != 0 then (some ((([] : (List UInt8)) : List UInt8), v2.2)) else ((F_header_p32 [(67324752 : Int)]).bind fun v3 => (F_header_p16 [a0.2.1, a0.2.2.1, a0.2.2.2.1]).bind fun v4 => (F_header_p32 [a0.2.2.2.2.1, a0.2.2.2.2.2.1, v2.1.1.2.1, v2.1.1.1]).bind fun v5 => (F_header_p16 [(a0.2.2.2.2.2.2.2.2.2.2.2.1.length : Int), (v2.1.2.1.length : Int)]).bind fun v6 => (cat v3.1 v4.1).bind fun v7 => (cat v7 v5.1).bind fun v8 => (cat v8 v6.1).bind fun v9 => (cat v9 a0.2.2.2.2.2.2.2.2.2.2.2.1).bind fun v10 => (cat v10 v2.1.2.1).bind fun v11 => some (v11, ((0 : Int), ())))))
def eF_header_PutLocal : VEnt := ⟨27, ⟨[.pv (.cons (.int .i64) (.cons (.int .i64) (.cons (.int .i64) (.cons (.int .i64) (.cons (.int .i64) (.cons (.int .i64) (.cons (.int .i64) (.cons (.int .i64) (.cons (.int .i64) (.cons (.int .i64) (.cons (.int .i64) (.cons .str (.cons .str (.cons .str .nil)))))))))))))), .pv .bool], []⟩, [⟨[.tup (.cn (.pv .str) (.cn (.pv (.int .i64)) (.nl)))], []⟩], fun q => F_header_PutLocal q.1 q.2.1⟩
def aF_header_PutLocal : Ann := .z
theorem tF_header_PutLocal : vfn ⟨Try.prog, [], ZV19, PV19, RV3⟩ Try.f27 aF_header_PutLocal eF_header_PutLocal.ps eF_header_PutLocal.rs = eF_header_PutLocal.F := by kernel_rfl
def EV20 : List VEnt := eF_header_PutLocal :: EV19
def ZV20 : List VEnt := eF_header_PutLocal :: ZV19
def KV20 : PureK := addK KV19 27 (kOf eF_header_PutLocal)
def NV20 : List FuncId := NV19
def PV20 : List FuncId := 27 :: PV19
theorem CV20 : Ch Try.prog gl0 Wa3 KV20 NV20 ZV20 EV20 := Ch.pure mixedV noGoroutineV CV19 (by kernel_rfl) rV3 (by kernel_rfl) (by kernel_rfl) Try.func27 (by decide) (by kernel_rfl) tF_header_PutLocal
def F_field_Cut (a0 : (List UInt8)) (a1 : Int) (a2 : Int) : Option ((List UInt8) × (Int × Unit)) :=
  bif decide (a1 < 0) then (some ((([] : (List UInt8)) : List UInt8), ((3 : Int), ()))) else (bif decide (a2 < 0) then (some ((([] : (List UInt8)) : List UInt8), ((3 : Int), ()))) else (bif decide (a1 > (a0.length : Int)) then (some ((([] : (List UInt8)) : List UInt8), ((3 : Int), ()))) else (bif decide (a2 > (IntKind.i64.wrap ((a0.length : Int) - a1))) then (some ((([] : (List UInt8)) : List UInt8), ((3 : Int), ()))) else ((subS a0 a1 (IntKind.i64.wrap (a1 + a2))).bind fun v0 => some (v0, ((0 : Int), ()))))))
def eF_field_Cut : VEnt := ⟨107, ⟨[.pv .str, .pv (.int .i64), .pv (.int .i64)], []⟩, [⟨[.tup (.cn (.pv .str) (.cn (.pv (.int .i64)) (.nl)))], []⟩], fun q => F_field_Cut q.1 q.2.1 q.2.2.1⟩
def aF_field_Cut : Ann := .z
theorem tF_field_Cut : vfn ⟨Try.prog, [], ZV20, PV20, RV3⟩ Try.f107 aF_field_Cut eF_field_Cut.ps eF_field_Cut.rs = eF_field_Cut.F := by kernel_rfl
def EV21 : List VEnt := eF_field_Cut :: EV20
def ZV21 : List VEnt := eF_field_Cut :: ZV20
def KV21 : PureK := addK KV20 107 (kOf eF_field_Cut)
def NV21 : List FuncId := NV20
def PV21 : List FuncId := 107 :: PV20
theorem CV21 : Ch Try.prog gl0 Wa3 KV21 NV21 ZV21 EV21 := Ch.pure mixedV noGoroutineV CV20 (by kernel_rfl) rV3 (by kernel_rfl) (by kernel_rfl) Try.func107 (by decide) (by kernel_rfl) tF_field_Cut
def F_field_number (a0 : (List UInt8)) (a1 : Int) (a2 : Int) : Option (Int × (Int × Unit)) :=
  (F_field_Cut a0 a1 a2).bind fun v0 => (iter (fun v1 => bif decide (v1.2.1 < (v0.1.length : Int)) then ((idxS v0.1 v1.2.1).bind fun v2 => (shlI .u64 (IntKind.u64.wrap v2) (IntKind.i64.wrap (8 * v1.2.1))).bind fun v3 => some (.inl (orI .u64 v1.1 v3, (IntKind.i64.wrap (v1.2.1 + 1), ())))) else (some (.inr (v1.1, ())))) NF ((0 : Int), ((0 : Int), ()))).bind fun v4 => some (v4.1, v0.2)
def eF_field_number : VEnt := ⟨129, ⟨[.pv .str, .pv (.int .i64), .pv (.int .i64)], []⟩, [⟨[.tup (.cn (.pv (.int .u64)) (.cn (.pv (.int .i64)) (.nl)))], []⟩], fun q => F_field_number q.1 q.2.1 q.2.2.1⟩
def aF_field_number : Ann := .s .z (.s .z (.s .z (.s (.s .z (.l ⟨mkT 36 0 [(10, .pv (.int .u64)), (21, .pv (.int .i64))], []⟩ [((.exit 0), ⟨mkT 36 0 [(10, .pv (.int .u64))], []⟩)] .z)) .z)))
theorem tF_field_number : vfn ⟨Try.prog, [], ZV21, PV21, RV3⟩ Try.f129 aF_field_number eF_field_number.ps eF_field_number.rs = eF_field_number.F := by kernel_rfl
def EV22 : List VEnt := eF_field_number :: EV21
def ZV22 : List VEnt := eF_field_number :: ZV21
def KV22 : PureK := addK KV21 129 (kOf eF_field_number)
def NV22 : List FuncId := NV21
def PV22 : List FuncId := 129 :: PV21
theorem CV22 : Ch Try.prog gl0 Wa3 KV22 NV22 ZV22 EV22 := Ch.pure mixedV noGoroutineV CV21 (by kernel_rfl) rV3 (by kernel_rfl) (by kernel_rfl) Try.func129 (by decide) (by kernel_rfl) tF_field_number
def F_field_U32 (a0 : (List UInt8)) (a1 : Int) : Option (Int × (Int × Unit)) :=
  (F_field_number a0 a1 (4 : Int)).bind fun v0 => some (IntKind.i64.wrap v0.1, v0.2)
def eF_field_U32 : VEnt := ⟨109, ⟨[.pv .str, .pv (.int .i64)], []⟩, [⟨[.tup (.cn (.pv (.int .i64)) (.cn (.pv (.int .i64)) (.nl)))], []⟩], fun q => F_field_U32 q.1 q.2.1⟩
def aF_field_U32 : Ann := .z
theorem tF_field_U32 : vfn ⟨Try.prog, [], ZV22, PV22, RV3⟩ Try.f109 aF_field_U32 eF_field_U32.ps eF_field_U32.rs = eF_field_U32.F := by kernel_rfl
def EV23 : List VEnt := eF_field_U32 :: EV22
def ZV23 : List VEnt := eF_field_U32 :: ZV22
def KV23 : PureK := addK KV22 109 (kOf eF_field_U32)
def NV23 : List FuncId := NV22
def PV23 : List FuncId := 109 :: PV22
theorem CV23 : Ch Try.prog gl0 Wa3 KV23 NV23 ZV23 EV23 := Ch.pure mixedV noGoroutineV CV22 (by kernel_rfl) rV3 (by kernel_rfl) (by kernel_rfl) Try.func109 (by decide) (by kernel_rfl) tF_field_U32
def F_header_reader_u32 (a0 : (List UInt8)) (a1 : Int) : Option (Int × ((List UInt8) × (Int × Unit))) :=
  (F_field_U32 a0 a1).bind fun v0 => some (v0.1, (a0, (IntKind.i64.wrap (a1 + 4), ())))
def eF_header_reader_u32 : VEnt := ⟨71, ⟨[.ptr 0 0], [.obj 110 (.cn (.pv .str) (.cn (.pv (.int .i64)) (.nl)))]⟩, [⟨[.pv (.int .i64)], [.obj 110 (.cn (.pv .str) (.cn (.pv (.int .i64)) (.nl)))]⟩], fun q => F_header_reader_u32 q.1 q.2.1⟩
def aF_header_reader_u32 : Ann := .z
theorem tF_header_reader_u32 : vfn ⟨Try.prog, [], ZV23, PV23, RV3⟩ Try.f71 aF_header_reader_u32 eF_header_reader_u32.ps eF_header_reader_u32.rs = eF_header_reader_u32.F := by kernel_rfl
def EV24 : List VEnt := eF_header_reader_u32 :: EV23
def ZV24 : List VEnt := eF_header_reader_u32 :: ZV23
def KV24 : PureK := KV23
def NV24 : List FuncId := 71 :: NV23
def PV24 : List FuncId := PV23
theorem CV24 : Ch Try.prog gl0 Wa3 KV24 NV24 ZV24 EV24 := Ch.add0 CV23 (by kernel_rfl) rV3 (by kernel_rfl) (by kernel_rfl) Try.func71 (by decide) tF_header_reader_u32
def F_header_begin (a0 : (List UInt8)) (a1 : Int) (a2 : Int) (a3 : Int) : Option ((Int × Unit) ⊕ (Int × ((List UInt8) × (Int × Unit)))) :=
  (F_field_Cut a0 a1 a2).bind fun v0 => bif v0.2.1 != 0 then (some (.inl v0.2)) else ((F_header_reader_u32 a0 a1).bind fun v1 => bif v1.1 != a3 then (some (.inl ((2 : Int), ()))) else (some (.inr ((0 : Int), v1.2))))
def eF_header_begin : VEnt := ⟨69, ⟨[.pv .str, .pv (.int .i64), .pv (.int .i64), .pv (.int .i64)], []⟩, [⟨[.tup (.cn (.con 1) (.cn (.pv (.int .i64)) (.nl)))], []⟩, ⟨[.tup (.cn (.ptr 0 0) (.cn (.pv (.int .i64)) (.nl)))], [.obj 110 (.cn (.pv .str) (.cn (.pv (.int .i64)) (.nl)))]⟩], fun q => F_header_begin q.1 q.2.1 q.2.2.1 q.2.2.2.1⟩
def aF_header_begin : Ann := .z
theorem tF_header_begin : vfn ⟨Try.prog, [], ZV24, PV24, RV3⟩ Try.f69 aF_header_begin eF_header_begin.ps eF_header_begin.rs = eF_header_begin.F := by kernel_rfl
def EV25 : List VEnt := eF_header_begin :: EV24
def ZV25 : List VEnt := eF_header_begin :: ZV24
def KV25 : PureK := KV24
def NV25 : List FuncId := 69 :: NV24
def PV25 : List FuncId := PV24
theorem CV25 : Ch Try.prog gl0 Wa3 KV25 NV25 ZV25 EV25 := Ch.add0 CV24 (by kernel_rfl) rV3 (by kernel_rfl) (by kernel_rfl) Try.func69 (by decide) tF_header_begin
def F_header_reader_u16 : Option Unit :=
  none
def eF_header_reader_u16 : VEnt := ⟨70, ⟨[.con 1], []⟩, [], fun q => F_header_reader_u16⟩
def aF_header_reader_u16 : Ann := .z
theorem tF_header_reader_u16 : vfn ⟨Try.prog, [], ZV25, PV25, RV3⟩ Try.f70 aF_header_reader_u16 eF_header_reader_u16.ps eF_header_reader_u16.rs = eF_header_reader_u16.F := by kernel_rfl
def EV26 : List VEnt := eF_header_reader_u16 :: EV25
def ZV26 : List VEnt := eF_header_reader_u16 :: ZV25
def KV26 : PureK := KV25
def NV26 : List FuncId := 70 :: NV25
def PV26 : List FuncId := PV25
theorem CV26 : Ch Try.prog gl0 Wa3 KV26 NV26 ZV26 EV26 := Ch.add0 CV25 (by kernel_rfl) rV3 (by kernel_rfl) (by kernel_rfl) Try.func70 (by decide) tF_header_reader_u16
def F_field_U16 (a0 : (List UInt8)) (a1 : Int) : Option (Int × (Int × Unit)) :=
  (F_field_number a0 a1 (2 : Int)).bind fun v0 => some (IntKind.i64.wrap v0.1, v0.2)
def eF_field_U16 : VEnt := ⟨108, ⟨[.pv .str, .pv (.int .i64)], []⟩, [⟨[.tup (.cn (.pv (.int .i64)) (.cn (.pv (.int .i64)) (.nl)))], []⟩], fun q => F_field_U16 q.1 q.2.1⟩
def aF_field_U16 : Ann := .z
theorem tF_field_U16 : vfn ⟨Try.prog, [], ZV26, PV26, RV3⟩ Try.f108 aF_field_U16 eF_field_U16.ps eF_field_U16.rs = eF_field_U16.F := by kernel_rfl
def EV27 : List VEnt := eF_field_U16 :: EV26
def ZV27 : List VEnt := eF_field_U16 :: ZV26
def KV27 : PureK := addK KV26 108 (kOf eF_field_U16)
def NV27 : List FuncId := NV26
def PV27 : List FuncId := 108 :: PV26
theorem CV27 : Ch Try.prog gl0 Wa3 KV27 NV27 ZV27 EV27 := Ch.pure mixedV noGoroutineV CV26 (by kernel_rfl) rV3 (by kernel_rfl) (by kernel_rfl) Try.func108 (by decide) (by kernel_rfl) tF_field_U16
def F_header_reader_u16_2 (a0 : (List UInt8)) (a1 : Int) : Option (Int × ((List UInt8) × (Int × Unit))) :=
  (F_field_U16 a0 a1).bind fun v0 => some (v0.1, (a0, (IntKind.i64.wrap (a1 + 2), ())))
def eF_header_reader_u16_2 : VEnt := ⟨70, ⟨[.ptr 0 0], [.obj 110 (.cn (.pv .str) (.cn (.pv (.int .i64)) (.nl)))]⟩, [⟨[.pv (.int .i64)], [.obj 110 (.cn (.pv .str) (.cn (.pv (.int .i64)) (.nl)))]⟩], fun q => F_header_reader_u16_2 q.1 q.2.1⟩
def aF_header_reader_u16_2 : Ann := .z
theorem tF_header_reader_u16_2 : vfn ⟨Try.prog, [], ZV27, PV27, RV3⟩ Try.f70 aF_header_reader_u16_2 eF_header_reader_u16_2.ps eF_header_reader_u16_2.rs = eF_header_reader_u16_2.F := by kernel_rfl
def EV28 : List VEnt := eF_header_reader_u16_2 :: EV27
def ZV28 : List VEnt := eF_header_reader_u16_2 :: ZV27
def KV28 : PureK := KV27
def NV28 : List FuncId := 70 :: NV27
def PV28 : List FuncId := PV27
theorem CV28 : Ch Try.prog gl0 Wa3 KV28 NV28 ZV28 EV28 := Ch.add0 CV27 (by kernel_rfl) rV3 (by kernel_rfl) (by kernel_rfl) Try.func70 (by decide) tF_header_reader_u16_2
def F_header_reader_texts (a0 : (List Int)) (a1 : (List UInt8)) (a2 : Int) (a3 : Int) (a4 : Int) (a5 : Int) (a6 : Int) (a7 : Int) (a8 : Int) (a9 : Int) (a10 : Int) (a11 : Int) (a12 : Int) (a13 : Int) (a14 : (List UInt8)) (a15 : (List UInt8)) (a16 : (List UInt8)) : Option (Int × ((List UInt8) × (Int × (Int × (Int × (Int × (Int × (Int × (Int × (Int × (Int × (Int × (Int × (Int × ((List UInt8) × ((List UInt8) × ((List UInt8) × Unit))))))))))))))))) :=
  (bif decide (0 < (a0.length : Int)) then ((idxL a0 (0 : Int)).bind fun v0 => (F_field_Cut a1 a2 v0).bind fun v1 => bif v1.2.1 != 0 then (some (.inl (v1.2.1, (a1, (a2, (a3, (a4, (a5, (a6, (a7, (a8, (a9, (a10, (a11, (a12, (a13, (a14, (a15, (a16, ()))))))))))))))))))) else (bif decide ((IntKind.i64.wrap (0 + 1)) < (a0.length : Int)) then ((idxL a0 (IntKind.i64.wrap (0 + 1))).bind fun v2 => (F_field_Cut a1 (IntKind.i64.wrap (a2 + v0)) v2).bind fun v3 => bif v3.2.1 != 0 then (some (.inl (v3.2.1, (a1, (IntKind.i64.wrap (a2 + v0), (a3, (a4, (a5, (a6, (a7, (a8, (a9, (a10, (a11, (a12, (a13, (v1.1, (a15, (a16, ()))))))))))))))))))) else (bif decide ((IntKind.i64.wrap ((IntKind.i64.wrap (0 + 1)) + 1)) < (a0.length : Int)) then ((idxL a0 (IntKind.i64.wrap ((IntKind.i64.wrap (0 + 1)) + 1))).bind fun v4 => (F_field_Cut a1 (IntKind.i64.wrap ((IntKind.i64.wrap (a2 + v0)) + v2)) v4).bind fun v5 => bif v5.2.1 != 0 then (some (.inl (v5.2.1, (a1, (IntKind.i64.wrap ((IntKind.i64.wrap (a2 + v0)) + v2), (a3, (a4, (a5, (a6, (a7, (a8, (a9, (a10, (a11, (a12, (a13, (v1.1, (v3.1, (a16, ()))))))))))))))))))) else none) else (some (.inr (a1, (IntKind.i64.wrap ((IntKind.i64.wrap (a2 + v0)) + v2), (a3, (a4, (a5, (a6, (a7, (a8, (a9, (a10, (a11, (a12, (a13, (v1.1, (v3.1, (a16, ())))))))))))))))))))) else (some (.inr (a1, (IntKind.i64.wrap (a2 + v0), (a3, (a4, (a5, (a6, (a7, (a8, (a9, (a10, (a11, (a12, (a13, (v1.1, (a15, (a16, ())))))))))))))))))))) else (some (.inr (a1, (a2, (a3, (a4, (a5, (a6, (a7, (a8, (a9, (a10, (a11, (a12, (a13, (a14, (a15, (a16, ()))))))))))))))))))).bind fun v6 => sumK v6 (fun v7 => some v7) (fun v8 => some ((0 : Int), v8))
def eF_header_reader_texts : VEnt := ⟨72, ⟨[.ptr 0 0, .pv (.lst (.int .i64)), .row 1], [.obj 110 (.cn (.pv .str) (.cn (.pv (.int .i64)) (.nl))), .arr 106 2 1 (.cn (.ptr 2 11) (.cn (.ptr 2 12) (.nl))), .obj 31 (.cn (.pv (.int .i64)) (.cn (.pv (.int .i64)) (.cn (.pv (.int .i64)) (.cn (.pv (.int .i64)) (.cn (.pv (.int .i64)) (.cn (.pv (.int .i64)) (.cn (.pv (.int .i64)) (.cn (.pv (.int .i64)) (.cn (.pv (.int .i64)) (.cn (.pv (.int .i64)) (.cn (.pv (.int .i64)) (.cn (.pv .str) (.cn (.pv .str) (.cn (.pv .str) (.nl)))))))))))))))]⟩, [⟨[.pv (.int .i64)], [.obj 110 (.cn (.pv .str) (.cn (.pv (.int .i64)) (.nl))), .arr 106 2 1 (.cn (.ptr 2 11) (.cn (.ptr 2 12) (.nl))), .obj 31 (.cn (.pv (.int .i64)) (.cn (.pv (.int .i64)) (.cn (.pv (.int .i64)) (.cn (.pv (.int .i64)) (.cn (.pv (.int .i64)) (.cn (.pv (.int .i64)) (.cn (.pv (.int .i64)) (.cn (.pv (.int .i64)) (.cn (.pv (.int .i64)) (.cn (.pv (.int .i64)) (.cn (.pv (.int .i64)) (.cn (.pv .str) (.cn (.pv .str) (.cn (.pv .str) (.nl)))))))))))))))]⟩], fun q => F_header_reader_texts q.1 q.2.1 q.2.2.1 q.2.2.2.1 q.2.2.2.2.1 q.2.2.2.2.2.1 q.2.2.2.2.2.2.1 q.2.2.2.2.2.2.2.1 q.2.2.2.2.2.2.2.2.1 q.2.2.2.2.2.2.2.2.2.1 q.2.2.2.2.2.2.2.2.2.2.1 q.2.2.2.2.2.2.2.2.2.2.2.1 q.2.2.2.2.2.2.2.2.2.2.2.2.1 q.2.2.2.2.2.2.2.2.2.2.2.2.2.1 q.2.2.2.2.2.2.2.2.2.2.2.2.2.2.1 q.2.2.2.2.2.2.2.2.2.2.2.2.2.2.2.1 q.2.2.2.2.2.2.2.2.2.2.2.2.2.2.2.2.1⟩
def aF_header_reader_texts : Ann := .s .z (.j [(.ret, ⟨mkT 49 0 [(6, .pv (.int .i64))], [.obj 110 (.cn (.pv .str) (.cn (.pv (.int .i64)) (.nl))), .arr 106 2 1 (.cn (.ptr 2 11) (.cn (.ptr 2 12) (.nl))), .obj 31 (.cn (.pv (.int .i64)) (.cn (.pv (.int .i64)) (.cn (.pv (.int .i64)) (.cn (.pv (.int .i64)) (.cn (.pv (.int .i64)) (.cn (.pv (.int .i64)) (.cn (.pv (.int .i64)) (.cn (.pv (.int .i64)) (.cn (.pv (.int .i64)) (.cn (.pv (.int .i64)) (.cn (.pv (.int .i64)) (.cn (.pv .str) (.cn (.pv .str) (.cn (.pv .str) (.nl)))))))))))))))]⟩), (.normal, ⟨mkT 49 0 [], [.obj 110 (.cn (.pv .str) (.cn (.pv (.int .i64)) (.nl))), .arr 106 2 1 (.cn (.ptr 2 11) (.cn (.ptr 2 12) (.nl))), .obj 31 (.cn (.pv (.int .i64)) (.cn (.pv (.int .i64)) (.cn (.pv (.int .i64)) (.cn (.pv (.int .i64)) (.cn (.pv (.int .i64)) (.cn (.pv (.int .i64)) (.cn (.pv (.int .i64)) (.cn (.pv (.int .i64)) (.cn (.pv (.int .i64)) (.cn (.pv (.int .i64)) (.cn (.pv (.int .i64)) (.cn (.pv .str) (.cn (.pv .str) (.cn (.pv .str) (.nl)))))))))))))))]⟩)] (.s .z (.q .z (.q .z (.q .z .z)))) .z)
theorem tF_header_reader_texts : vfn ⟨Try.prog, [], ZV28, PV28, RV3⟩ Try.f72 aF_header_reader_texts eF_header_reader_texts.ps eF_header_reader_texts.rs = eF_header_reader_texts.F := by kernel_rfl
def EV29 : List VEnt := eF_header_reader_texts :: EV28
def ZV29 : List VEnt := eF_header_reader_texts :: ZV28
def KV29 : PureK := KV28
def NV29 : List FuncId := 72 :: NV28
def PV29 : List FuncId := PV28
theorem CV29 : Ch Try.prog gl0 Wa3 KV29 NV29 ZV29 EV29 := Ch.add0 CV28 (by kernel_rfl) rV3 (by kernel_rfl) (by kernel_rfl) Try.func72 (by decide) tF_header_reader_texts
def F_extra_Parse (a0 : (List UInt8)) : Option (Int × ((List (Int × ((List UInt8) × Unit))) × Unit)) :=
  (iter (fun v0 => bif decide (v0.1 < (a0.length : Int)) then ((F_field_U16 a0 v0.1).bind fun v1 => (F_field_U16 a0 (IntKind.i64.wrap (v0.1 + 2))).bind fun v2 => (F_field_Cut a0 (IntKind.i64.wrap (v0.1 + 4)) v2.1).bind fun v3 => bif v2.2.1 != 0 then (some (.inr (.inl ((2 : Int), ())))) else (bif v3.2.1 != 0 then (some (.inr (.inl ((2 : Int), ())))) else ((app v0.2.1 [(v1.1, (v3.1, ()))]).bind fun v4 => some (.inl (IntKind.i64.wrap (v0.1 + (IntKind.i64.wrap (4 + v2.1))), (v4, ())))))) else (some (.inr (.inr v0.2)))) NF ((0 : Int), (([] : (List (Int × ((List UInt8) × Unit)))), ()))).bind fun v5 => sumK v5 (fun v6 => some (v6.1, (([] : (List (Int × ((List UInt8) × Unit)))), ()))) (fun v7 => some ((0 : Int), v7))
def eF_extra_Parse : VEnt := ⟨110, ⟨[.pv .str], []⟩, [⟨[.tup (.cn (.row 0) (.cn (.pv (.int .i64)) (.nl)))], [.row 48 (.cons (.int .i64) (.cons .str .nil))]⟩], fun q => F_extra_Parse q.1⟩
def aF_extra_Parse : Ann := .s .z (.s .z (.s (.s .z (.l ⟨mkT 54 0 [(4, .row 0), (5, .pv (.int .i64))], [.row 48 (.cons (.int .i64) (.cons .str .nil))]⟩ [(.ret, ⟨mkT 54 0 [(2, .con 0), (3, .pv (.int .i64))], []⟩), ((.exit 0), ⟨mkT 54 0 [(4, .row 0)], [.row 48 (.cons (.int .i64) (.cons .str .nil))]⟩)] .z)) .z))
theorem tF_extra_Parse : vfn ⟨Try.prog, [], ZV29, PV29, RV3⟩ Try.f110 aF_extra_Parse eF_extra_Parse.ps eF_extra_Parse.rs = eF_extra_Parse.F := by kernel_rfl
def EV30 : List VEnt := eF_extra_Parse :: EV29
def ZV30 : List VEnt := eF_extra_Parse :: ZV29
def KV30 : PureK := KV29
def NV30 : List FuncId := 110 :: NV29
def PV30 : List FuncId := PV29
theorem CV30 : Ch Try.prog gl0 Wa3 KV30 NV30 ZV30 EV30 := Ch.add0 CV29 (by kernel_rfl) rV3 (by kernel_rfl) (by kernel_rfl) Try.func110 (by decide) tF_extra_Parse
def F_extra_Find (a0 : (List (Int × ((List UInt8) × Unit)))) (a1 : Int) : Option ((List UInt8) × (Bool × Unit)) :=
  (iter (fun v0 => bif decide (v0.1 < (a0.length : Int)) then ((idxL a0 v0.1).bind fun v1 => bif v1.1 == a1 then (some (.inr (.inl v1.2))) else (some (.inl (IntKind.i64.wrap (v0.1 + 1), ())))) else (some (.inr (.inr ())))) NF ((0 : Int), ())).bind fun v2 => sumK v2 (fun v3 => some (v3.1, (true, ()))) (fun v4 => some ((([] : (List UInt8)) : List UInt8), (false, ())))
def eF_extra_Find : VEnt := ⟨130, ⟨[.pv (.lst (.cons (.int .i64) (.cons .str .nil))), .pv (.int .i64)], []⟩, [⟨[.tup (.cn (.pv .str) (.cn (.pv .bool) (.nl)))], []⟩], fun q => F_extra_Find q.1 q.2.1⟩
def aF_extra_Find : Ann := .s .z (.s (.s .z (.l ⟨mkT 21 0 [(10, .pv (.int .i64))], []⟩ [(.ret, ⟨mkT 21 0 [(4, .pv .str), (5, .kb true)], []⟩), ((.exit 0), ⟨mkT 21 0 [], []⟩)] .z)) .z)
theorem tF_extra_Find : vfn ⟨Try.prog, [], ZV30, PV30, RV3⟩ Try.f130 aF_extra_Find eF_extra_Find.ps eF_extra_Find.rs = eF_extra_Find.F := by kernel_rfl
def EV31 : List VEnt := eF_extra_Find :: EV30
def ZV31 : List VEnt := eF_extra_Find :: ZV30
def KV31 : PureK := KV30
def NV31 : List FuncId := 130 :: NV30
def PV31 : List FuncId := PV30
theorem CV31 : Ch Try.prog gl0 Wa3 KV31 NV31 ZV31 EV31 := Ch.add0 CV30 (by kernel_rfl) rV3 (by kernel_rfl) (by kernel_rfl) Try.func130 (by decide) tF_extra_Find
def F_field_U64 (a0 : (List UInt8)) (a1 : Int) : Option (Int × (Int × Unit)) :=
  (F_field_number a0 a1 (8 : Int)).bind fun v0 => some v0
def eF_field_U64 : VEnt := ⟨131, ⟨[.pv .str, .pv (.int .i64)], []⟩, [⟨[.tup (.cn (.pv (.int .u64)) (.cn (.pv (.int .i64)) (.nl)))], []⟩], fun q => F_field_U64 q.1 q.2.1⟩
def aF_field_U64 : Ann := .z
theorem tF_field_U64 : vfn ⟨Try.prog, [], ZV31, PV31, RV3⟩ Try.f131 aF_field_U64 eF_field_U64.ps eF_field_U64.rs = eF_field_U64.F := by kernel_rfl
def EV32 : List VEnt := eF_field_U64 :: EV31
def ZV32 : List VEnt := eF_field_U64 :: ZV31
def KV32 : PureK := addK KV31 131 (kOf eF_field_U64)
def NV32 : List FuncId := NV31
def PV32 : List FuncId := 131 :: PV31
theorem CV32 : Ch Try.prog gl0 Wa3 KV32 NV32 ZV32 EV32 := Ch.pure mixedV noGoroutineV CV31 (by kernel_rfl) rV3 (by kernel_rfl) (by kernel_rfl) Try.func131 (by decide) (by kernel_rfl) tF_field_U64
def F_extra_Resolve (a0 : (List (Int × ((List UInt8) × Unit)))) (a1 : (Int × (Int × (Int × Unit)))) : Option ((Int × (Int × (Int × Unit))) × (Int × Unit)) :=
  (F_extra_Find a0 (1 : Int)).bind fun v0 => (bif a1.1 != 4294967295 then (some (.inl ((0 : Int), ((0 : Int), (a1.1, (a1.2.1, (a1.2.2.1, ((0 : Int), ((0 : Int), ((0 : Int), a1)))))))))) else ((F_field_U64 v0.1 (0 : Int)).bind fun v1 => bif v1.2.1 != 0 then (some (.inr ((2 : Int), ((0 : Int), ((0 : Int), ((0 : Int), ())))))) else ((bif decide (v1.1 > 1099511627776) then (some ((7 : Int), (a1.1, (a1.2.1, (a1.2.2.1, ((0 : Int), ((0 : Int), ((0 : Int), a1)))))))) else (some ((0 : Int), (a1.1, (a1.2.1, (a1.2.2.1, ((0 : Int), ((0 : Int), ((0 : Int), a1))))))))).bind fun v2 => some (.inl (IntKind.i64.wrap (0 + 8), (v2.1, (v2.2.1, (v2.2.2.1, (v2.2.2.2.1, (v2.2.2.2.2.1, (v2.2.2.2.2.2.1, (v2.2.2.2.2.2.2.1, (IntKind.i64.wrap v1.1, v2.2.2.2.2.2.2.2.2))))))))))))).bind fun v3 => sumK v3 (fun v4 => (bif v4.2.2.2.1 != 4294967295 then (some (.inl v4)) else ((F_field_U64 v0.1 v4.1).bind fun v5 => bif v5.2.1 != 0 then (some (.inr ((2 : Int), ((0 : Int), ((0 : Int), ((0 : Int), ())))))) else ((bif decide (v5.1 > 1099511627776) then (some ((7 : Int), v4.2.2)) else (some v4.2)).bind fun v6 => some (.inl (IntKind.i64.wrap (v4.1 + 8), (v6.1, (v6.2.1, (v6.2.2.1, (v6.2.2.2.1, (v6.2.2.2.2.1, (v6.2.2.2.2.2.1, (v6.2.2.2.2.2.2.1, (v6.2.2.2.2.2.2.2.1, (IntKind.i64.wrap v5.1, v6.2.2.2.2.2.2.2.2.2)))))))))))))).bind fun v7 => sumK v7 (fun v8 => (bif v8.2.2.2.2.1 != 4294967295 then (some (.inl v8)) else ((F_field_U64 v0.1 v8.1).bind fun v9 => bif v9.2.1 != 0 then (some (.inr ((2 : Int), ((0 : Int), ((0 : Int), ((0 : Int), ())))))) else ((bif decide (v9.1 > 1099511627776) then (some ((7 : Int), v8.2.2)) else (some v8.2)).bind fun v10 => some (.inl (IntKind.i64.wrap (v8.1 + 8), (v10.1, (v10.2.1, (v10.2.2.1, (v10.2.2.2.1, (v10.2.2.2.2.1, (v10.2.2.2.2.2.1, (v10.2.2.2.2.2.2.1, (v10.2.2.2.2.2.2.2.1, (v10.2.2.2.2.2.2.2.2.1, (IntKind.i64.wrap v9.1, ()))))))))))))))).bind fun v11 => sumK v11 (fun v12 => bif v12.2.1 != 0 then (some (((0 : Int), ((0 : Int), ((0 : Int), ()))), (v12.2.1, ()))) else (some (v12.2.2.2.2.2.2.2.2, ((0 : Int), ())))) (fun v13 => some (v13.2, (v13.1, ())))) (fun v14 => some (v14.2, (v14.1, ())))) (fun v15 => some (v15.2, (v15.1, ())))
def eF_extra_Resolve : VEnt := ⟨111, ⟨[.pv (.lst (.cons (.int .i64) (.cons .str .nil))), .pv (.cons (.int .i64) (.cons (.int .i64) (.cons (.int .i64) .nil)))], []⟩, [⟨[.tup (.cn (.pv (.cons (.int .i64) (.cons (.int .i64) (.cons (.int .i64) .nil)))) (.cn (.pv (.int .i64)) (.nl)))], []⟩], fun q => F_extra_Resolve q.1 q.2.1⟩
def aF_extra_Resolve : Ann := .s .z (.s .z (.s .z (.s .z (.s .z (.s (.s .z (.q (.s .z (.s .z (.j [(.normal, ⟨mkT 50 0 [(3, .ptr 0 0), (4, .ptr 1 0), (8, .ptr 2 0), (9, .pv (.int .i64)), (10, .pv (.int .i64))], [.obj 118 (.cn (.pv (.int .i64)) (.cn (.pv (.int .i64)) (.cn (.pv (.int .i64)) (.nl)))), .obj 118 (.cn (.pv (.int .i64)) (.cn (.pv (.int .i64)) (.cn (.pv (.int .i64)) (.nl)))), .obj 118 (.cn (.pv (.int .i64)) (.cn (.pv (.int .i64)) (.cn (.pv (.int .i64)) (.nl))))]⟩), (.ret, ⟨mkT 50 0 [(4, .ptr 0 0), (5, .pv (.int .i64))], [.obj 118 (.cn (.pv (.int .i64)) (.cn (.pv (.int .i64)) (.cn (.pv (.int .i64)) (.nl))))]⟩)] (.s .z (.s .z (.s .z (.s .z (.j [(.normal, ⟨mkT 50 0 [(3, .ptr 0 0), (4, .ptr 1 0), (8, .ptr 2 0), (10, .pv (.int .i64))], [.obj 118 (.cn (.pv (.int .i64)) (.cn (.pv (.int .i64)) (.cn (.pv (.int .i64)) (.nl)))), .obj 118 (.cn (.pv (.int .i64)) (.cn (.pv (.int .i64)) (.cn (.pv (.int .i64)) (.nl)))), .obj 118 (.cn (.pv (.int .i64)) (.cn (.pv (.int .i64)) (.cn (.pv (.int .i64)) (.nl))))]⟩)] .z .z))))) .z))) (.q (.s .z (.s .z (.j [(.normal, ⟨mkT 50 0 [(3, .ptr 0 0), (4, .ptr 1 0), (8, .ptr 2 0), (9, .pv (.int .i64)), (10, .pv (.int .i64))], [.obj 118 (.cn (.pv (.int .i64)) (.cn (.pv (.int .i64)) (.cn (.pv (.int .i64)) (.nl)))), .obj 118 (.cn (.pv (.int .i64)) (.cn (.pv (.int .i64)) (.cn (.pv (.int .i64)) (.nl)))), .obj 118 (.cn (.pv (.int .i64)) (.cn (.pv (.int .i64)) (.cn (.pv (.int .i64)) (.nl))))]⟩), (.ret, ⟨mkT 50 0 [(4, .ptr 0 0), (5, .pv (.int .i64))], [.obj 118 (.cn (.pv (.int .i64)) (.cn (.pv (.int .i64)) (.cn (.pv (.int .i64)) (.nl))))]⟩)] (.s .z (.s .z (.s .z (.s .z (.j [(.normal, ⟨mkT 50 0 [(3, .ptr 0 0), (4, .ptr 1 0), (8, .ptr 2 0), (10, .pv (.int .i64))], [.obj 118 (.cn (.pv (.int .i64)) (.cn (.pv (.int .i64)) (.cn (.pv (.int .i64)) (.nl)))), .obj 118 (.cn (.pv (.int .i64)) (.cn (.pv (.int .i64)) (.cn (.pv (.int .i64)) (.nl)))), .obj 118 (.cn (.pv (.int .i64)) (.cn (.pv (.int .i64)) (.cn (.pv (.int .i64)) (.nl))))]⟩)] .z .z))))) .z))) (.q (.s .z (.s .z (.j [(.normal, ⟨mkT 50 0 [(3, .ptr 0 0), (4, .ptr 1 0), (8, .ptr 2 0), (9, .pv (.int .i64)), (10, .pv (.int .i64))], [.obj 118 (.cn (.pv (.int .i64)) (.cn (.pv (.int .i64)) (.cn (.pv (.int .i64)) (.nl)))), .obj 118 (.cn (.pv (.int .i64)) (.cn (.pv (.int .i64)) (.cn (.pv (.int .i64)) (.nl)))), .obj 118 (.cn (.pv (.int .i64)) (.cn (.pv (.int .i64)) (.cn (.pv (.int .i64)) (.nl))))]⟩), (.ret, ⟨mkT 50 0 [(4, .ptr 0 0), (5, .pv (.int .i64))], [.obj 118 (.cn (.pv (.int .i64)) (.cn (.pv (.int .i64)) (.cn (.pv (.int .i64)) (.nl))))]⟩)] (.s .z (.s .z (.s .z (.s .z (.j [(.normal, ⟨mkT 50 0 [(3, .ptr 0 0), (4, .ptr 1 0), (8, .ptr 2 0), (10, .pv (.int .i64))], [.obj 118 (.cn (.pv (.int .i64)) (.cn (.pv (.int .i64)) (.cn (.pv (.int .i64)) (.nl)))), .obj 118 (.cn (.pv (.int .i64)) (.cn (.pv (.int .i64)) (.cn (.pv (.int .i64)) (.nl)))), .obj 118 (.cn (.pv (.int .i64)) (.cn (.pv (.int .i64)) (.cn (.pv (.int .i64)) (.nl))))]⟩)] .z .z))))) .z))) (.q .z .z))))) .z)))))
theorem tF_extra_Resolve : vfn ⟨Try.prog, [], ZV32, PV32, RV3⟩ Try.f111 aF_extra_Resolve eF_extra_Resolve.ps eF_extra_Resolve.rs = eF_extra_Resolve.F := by kernel_rfl
def EV33 : List VEnt := eF_extra_Resolve :: EV32
def ZV33 : List VEnt := eF_extra_Resolve :: ZV32
def KV33 : PureK := KV32
def NV33 : List FuncId := 111 :: NV32
def PV33 : List FuncId := PV32
def Wa4 : Aw := ⟨111 :: Wa3.fs, fun g => if g = 111 then hkR eF_extra_Resolve else Wa3.hk g⟩
theorem CV33 : Ch Try.prog gl0 Wa4 KV33 NV33 ZV33 EV33 := Ch.addRead mixedV noGoroutineV CV32 (by kernel_rfl) rV3 (by kernel_rfl) (by kernel_rfl) Try.func111 (by decide) (by kernel_rfl) tF_extra_Resolve
def RV4 : List FuncId := 111 :: RV3
theorem rV4 : RdL Wa4 RV4 := RdL.add rV3 (by kernel_rfl) (hkR_reads (e := eF_extra_Resolve) (by kernel_rfl))
def F_header_resolve (a0 : Int) (a1 : Int) (a2 : Int) (a3 : Int) (a4 : Int) (a5 : Int) (a6 : Int) (a7 : Int) (a8 : Int) (a9 : Int) (a10 : Int) (a11 : (List UInt8)) (a12 : (List UInt8)) (a13 : (List UInt8)) : Option (Int × (Int × (Int × (Int × (Int × (Int × (Int × (Int × (Int × (Int × (Int × (Int × ((List UInt8) × ((List UInt8) × ((List UInt8) × Unit))))))))))))))) :=
  (F_extra_Parse a12).bind fun v0 => bif v0.1 != 0 then (some (v0.1, (a0, (a1, (a2, (a3, (a4, (a5, (a6, (a7, (a8, (a9, (a10, (a11, (a12, (a13, ())))))))))))))))) else ((F_extra_Resolve v0.2.1 (a7, (a6, (a10, ())))).bind fun v1 => some (v1.2.1, (a0, (a1, (a2, (a3, (a4, (a5, (v1.1.2.1, (v1.1.1, (a8, (a9, (v1.1.2.2.1, (a11, (a12, (a13, ()))))))))))))))))
def eF_header_resolve : VEnt := ⟨73, ⟨[.ptr 0 0], [.obj 31 (.cn (.pv (.int .i64)) (.cn (.pv (.int .i64)) (.cn (.pv (.int .i64)) (.cn (.pv (.int .i64)) (.cn (.pv (.int .i64)) (.cn (.pv (.int .i64)) (.cn (.pv (.int .i64)) (.cn (.pv (.int .i64)) (.cn (.pv (.int .i64)) (.cn (.pv (.int .i64)) (.cn (.pv (.int .i64)) (.cn (.pv .str) (.cn (.pv .str) (.cn (.pv .str) (.nl)))))))))))))))]⟩, [⟨[.pv (.int .i64)], [.obj 31 (.cn (.pv (.int .i64)) (.cn (.pv (.int .i64)) (.cn (.pv (.int .i64)) (.cn (.pv (.int .i64)) (.cn (.pv (.int .i64)) (.cn (.pv (.int .i64)) (.cn (.pv (.int .i64)) (.cn (.pv (.int .i64)) (.cn (.pv (.int .i64)) (.cn (.pv (.int .i64)) (.cn (.pv (.int .i64)) (.cn (.pv .str) (.cn (.pv .str) (.cn (.pv .str) (.nl)))))))))))))))]⟩], fun q => F_header_resolve q.1 q.2.1 q.2.2.1 q.2.2.2.1 q.2.2.2.2.1 q.2.2.2.2.2.1 q.2.2.2.2.2.2.1 q.2.2.2.2.2.2.2.1 q.2.2.2.2.2.2.2.2.1 q.2.2.2.2.2.2.2.2.2.1 q.2.2.2.2.2.2.2.2.2.2.1 q.2.2.2.2.2.2.2.2.2.2.2.1 q.2.2.2.2.2.2.2.2.2.2.2.2.1 q.2.2.2.2.2.2.2.2.2.2.2.2.2.1⟩
def aF_header_resolve : Ann := .z
theorem tF_header_resolve : vfn ⟨Try.prog, [], ZV33, PV33, RV4⟩ Try.f73 aF_header_resolve eF_header_resolve.ps eF_header_resolve.rs = eF_header_resolve.F := by kernel_rfl
def EV34 : List VEnt := eF_header_resolve :: EV33
def ZV34 : List VEnt := eF_header_resolve :: ZV33
def KV34 : PureK := KV33
def NV34 : List FuncId := 73 :: NV33
def PV34 : List FuncId := PV33
theorem CV34 : Ch Try.prog gl0 Wa4 KV34 NV34 ZV34 EV34 := Ch.add0 CV33 (by kernel_rfl) rV4 (by kernel_rfl) (by kernel_rfl) Try.func73 (by decide) tF_header_resolve
def F_header_Local (a0 : (List UInt8)) (a1 : Int) : Option ((Int × (Int × (Int × (Int × (Int × (Int × (Int × (Int × (Int × (Int × (Int × ((List UInt8) × ((List UInt8) × ((List UInt8) × Unit)))))))))))))) × (Int × (Int × Unit))) :=
  (F_header_begin a0 a1 (30 : Int) (67324752 : Int)).bind fun v0 => sumK v0 (fun v1 => bif v1.1 != 0 then (some (((0 : Int), ((0 : Int), ((0 : Int), ((0 : Int), ((0 : Int), ((0 : Int), ((0 : Int), ((0 : Int), ((0 : Int), ((0 : Int), ((0 : Int), ((([] : (List UInt8)) : List UInt8), ((([] : (List UInt8)) : List UInt8), ((([] : (List UInt8)) : List UInt8), ())))))))))))))), ((0 : Int), v1))) else none) (fun v2 => bif v2.1 != 0 then (some (((0 : Int), ((0 : Int), ((0 : Int), ((0 : Int), ((0 : Int), ((0 : Int), ((0 : Int), ((0 : Int), ((0 : Int), ((0 : Int), ((0 : Int), ((([] : (List UInt8)) : List UInt8), ((([] : (List UInt8)) : List UInt8), ((([] : (List UInt8)) : List UInt8), ())))))))))))))), ((0 : Int), (v2.1, ())))) else ((F_header_reader_u16_2 v2.2.1 v2.2.2.1).bind fun v3 => (F_header_reader_u16_2 v3.2.1 v3.2.2.1).bind fun v4 => (F_header_reader_u16_2 v4.2.1 v4.2.2.1).bind fun v5 => (F_header_reader_u32 v5.2.1 v5.2.2.1).bind fun v6 => (F_header_reader_u32 v6.2.1 v6.2.2.1).bind fun v7 => (F_header_reader_u32 v7.2.1 v7.2.2.1).bind fun v8 => (F_header_reader_u32 v8.2.1 v8.2.2.1).bind fun v9 => (F_header_reader_u16_2 v9.2.1 v9.2.2.1).bind fun v10 => (F_header_reader_u16_2 v10.2.1 v10.2.2.1).bind fun v11 => (F_header_reader_texts [v10.1, v11.1] v11.2.1 v11.2.2.1 (0 : Int) v3.1 v4.1 v5.1 v6.1 v7.1 v8.1 v9.1 (0 : Int) (0 : Int) (0 : Int) (([] : (List UInt8)) : List UInt8) (([] : (List UInt8)) : List UInt8) (([] : (List UInt8)) : List UInt8)).bind fun v12 => bif v12.1 != 0 then (some (((0 : Int), ((0 : Int), ((0 : Int), ((0 : Int), ((0 : Int), ((0 : Int), ((0 : Int), ((0 : Int), ((0 : Int), ((0 : Int), ((0 : Int), ((([] : (List UInt8)) : List UInt8), ((([] : (List UInt8)) : List UInt8), ((([] : (List UInt8)) : List UInt8), ())))))))))))))), ((0 : Int), (v12.1, ())))) else (bif !((v12.2.2.2.2.2.2.2.2.2.1 == 4294967295) == (v12.2.2.2.2.2.2.2.2.2.2.1 == 4294967295)) then (some (((0 : Int), ((0 : Int), ((0 : Int), ((0 : Int), ((0 : Int), ((0 : Int), ((0 : Int), ((0 : Int), ((0 : Int), ((0 : Int), ((0 : Int), ((([] : (List UInt8)) : List UInt8), ((([] : (List UInt8)) : List UInt8), ((([] : (List UInt8)) : List UInt8), ())))))))))))))), ((0 : Int), ((2 : Int), ())))) else ((F_header_resolve v12.2.2.2.1 v12.2.2.2.2.1 v12.2.2.2.2.2.1 v12.2.2.2.2.2.2.1 v12.2.2.2.2.2.2.2.1 v12.2.2.2.2.2.2.2.2.1 v12.2.2.2.2.2.2.2.2.2.1 v12.2.2.2.2.2.2.2.2.2.2.1 v12.2.2.2.2.2.2.2.2.2.2.2.1 v12.2.2.2.2.2.2.2.2.2.2.2.2.1 v12.2.2.2.2.2.2.2.2.2.2.2.2.2.1 v12.2.2.2.2.2.2.2.2.2.2.2.2.2.2.1 v12.2.2.2.2.2.2.2.2.2.2.2.2.2.2.2.1 v12.2.2.2.2.2.2.2.2.2.2.2.2.2.2.2.2.1).bind fun v13 => bif v13.1 != 0 then (some (((0 : Int), ((0 : Int), ((0 : Int), ((0 : Int), ((0 : Int), ((0 : Int), ((0 : Int), ((0 : Int), ((0 : Int), ((0 : Int), ((0 : Int), ((([] : (List UInt8)) : List UInt8), ((([] : (List UInt8)) : List UInt8), ((([] : (List UInt8)) : List UInt8), ())))))))))))))), ((0 : Int), (v13.1, ())))) else (some (v13.2, (v12.2.2.1, ((0 : Int), ()))))))))
def eF_header_Local : VEnt := ⟨23, ⟨[.pv .str, .pv (.int .i64)], []⟩, [⟨[.tup (.cn (.pv (.cons (.int .i64) (.cons (.int .i64) (.cons (.int .i64) (.cons (.int .i64) (.cons (.int .i64) (.cons (.int .i64) (.cons (.int .i64) (.cons (.int .i64) (.cons (.int .i64) (.cons (.int .i64) (.cons (.int .i64) (.cons .str (.cons .str (.cons .str .nil))))))))))))))) (.cn (.pv (.int .i64)) (.cn (.pv (.int .i64)) (.nl))))], []⟩], fun q => F_header_Local q.1 q.2.1⟩
def aF_header_Local : Ann := .z
theorem tF_header_Local : vfn ⟨Try.prog, [], ZV34, PV34, RV4⟩ Try.f23 aF_header_Local eF_header_Local.ps eF_header_Local.rs = eF_header_Local.F := by kernel_rfl
def EV35 : List VEnt := eF_header_Local :: EV34
def ZV35 : List VEnt := eF_header_Local :: ZV34
def KV35 : PureK := addK KV34 23 (kOf eF_header_Local)
def NV35 : List FuncId := NV34
def PV35 : List FuncId := 23 :: PV34
theorem CV35 : Ch Try.prog gl0 Wa4 KV35 NV35 ZV35 EV35 := Ch.pure mixedV noGoroutineV CV34 (by kernel_rfl) rV4 (by kernel_rfl) (by kernel_rfl) Try.func23 (by decide) (by kernel_rfl) tF_header_Local
def F_header_PutCentral (a0 : (Int × (Int × (Int × (Int × (Int × (Int × (Int × (Int × (Int × (Int × (Int × ((List UInt8) × ((List UInt8) × ((List UInt8) × Unit))))))))))))))) (a1 : Bool) : Option ((List UInt8) × (Int × Unit)) :=
  (F_header_fit (65535 : Int) [a0.1, a0.2.1, a0.2.2.1, a0.2.2.2.1, a0.2.2.2.2.2.2.2.2.1, (a0.2.2.2.2.2.2.2.2.2.2.2.1.length : Int), (a0.2.2.2.2.2.2.2.2.2.2.2.2.1.length : Int), (a0.2.2.2.2.2.2.2.2.2.2.2.2.2.1.length : Int)]).bind fun v0 => bif !v0.1 then (some ((([] : (List UInt8)) : List UInt8), ((1 : Int), ()))) else ((F_header_fit (4294967295 : Int) [a0.2.2.2.2.1, a0.2.2.2.2.2.1, a0.2.2.2.2.2.2.2.2.2.1]).bind fun v1 => bif !v1.1 then (some ((([] : (List UInt8)) : List UInt8), ((1 : Int), ()))) else ((F_header_standing a0.2.2.2.2.2.2.2.2.2.2.2.2.1 a1 [a0.2.2.2.2.2.2.2.1, a0.2.2.2.2.2.2.1, a0.2.2.2.2.2.2.2.2.2.2.1]).bind fun v2 => bif v2.2.1 != 0 then (some ((([] : (List UInt8)) : List UInt8), v2.2)) else ((F_header_p32 [(33639248 : Int)]).bind fun v3 => (F_header_p16 [a0.1, a0.2.1, a0.2.2.1, a0.2.2.2.1]).bind fun v4 => (F_header_p32 [a0.2.2.2.2.1, a0.2.2.2.2.2.1, v2.1.1.2.1, v2.1.1.1]).bind fun v5 => (F_header_p16 [(a0.2.2.2.2.2.2.2.2.2.2.2.1.length : Int), (v2.1.2.1.length : Int), (a0.2.2.2.2.2.2.2.2.2.2.2.2.2.1.length : Int), (0 : Int), a0.2.2.2.2.2.2.2.2.1]).bind fun v6 => (F_header_p32 [a0.2.2.2.2.2.2.2.2.2.1, v2.1.1.2.2.1]).bind fun v7 => (cat v3.1 v4.1).bind fun v8 => (cat v8 v5.1).bind fun v9 => (cat v9 v6.1).bind fun v10 => (cat v10 v7.1).bind fun v11 => (cat v11 a0.2.2.2.2.2.2.2.2.2.2.2.1).bind fun v12 => (cat v12 v2.1.2.1).bind fun v13 => (cat v13 a0.2.2.2.2.2.2.2.2.2.2.2.2.2.1).bind fun v14 => some (v14, ((0 : Int), ())))))
def eF_header_PutCentral : VEnt := ⟨25, ⟨[.pv (.cons (.int .i64) (.cons (.int .i64) (.cons (.int .i64) (.cons (.int .i64) (.cons (.int .i64) (.cons (.int .i64) (.cons (.int .i64) (.cons (.int .i64) (.cons (.int .i64) (.cons (.int .i64) (.cons (.int .i64) (.cons .str (.cons .str (.cons .str .nil)))))))))))))), .pv .bool], []⟩, [⟨[.tup (.cn (.pv .str) (.cn (.pv (.int .i64)) (.nl)))], []⟩], fun q => F_header_PutCentral q.1 q.2.1⟩
def aF_header_PutCentral : Ann := .z
theorem tF_header_PutCentral : vfn ⟨Try.prog, [], ZV35, PV35, RV4⟩ Try.f25 aF_header_PutCentral eF_header_PutCentral.ps eF_header_PutCentral.rs = eF_header_PutCentral.F := by kernel_rfl
def EV36 : List VEnt := eF_header_PutCentral :: EV35
def ZV36 : List VEnt := eF_header_PutCentral :: ZV35
def KV36 : PureK := addK KV35 25 (kOf eF_header_PutCentral)
def NV36 : List FuncId := NV35
def PV36 : List FuncId := 25 :: PV35
theorem CV36 : Ch Try.prog gl0 Wa4 KV36 NV36 ZV36 EV36 := Ch.pure mixedV noGoroutineV CV35 (by kernel_rfl) rV4 (by kernel_rfl) (by kernel_rfl) Try.func25 (by decide) (by kernel_rfl) tF_header_PutCentral
def F_header_reader_texts_2 (a0 : (List Int)) (a1 : (List UInt8)) (a2 : Int) (a3 : Int) (a4 : Int) (a5 : Int) (a6 : Int) (a7 : Int) (a8 : Int) (a9 : Int) (a10 : Int) (a11 : Int) (a12 : Int) (a13 : Int) (a14 : (List UInt8)) (a15 : (List UInt8)) (a16 : (List UInt8)) : Option (Int × ((List UInt8) × (Int × (Int × (Int × (Int × (Int × (Int × (Int × (Int × (Int × (Int × (Int × (Int × ((List UInt8) × ((List UInt8) × ((List UInt8) × Unit))))))))))))))))) :=
  (bif decide (0 < (a0.length : Int)) then ((idxL a0 (0 : Int)).bind fun v0 => (F_field_Cut a1 a2 v0).bind fun v1 => bif v1.2.1 != 0 then (some (.inl (v1.2.1, (a1, (a2, (a3, (a4, (a5, (a6, (a7, (a8, (a9, (a10, (a11, (a12, (a13, (a14, (a15, (a16, ()))))))))))))))))))) else (bif decide ((IntKind.i64.wrap (0 + 1)) < (a0.length : Int)) then ((idxL a0 (IntKind.i64.wrap (0 + 1))).bind fun v2 => (F_field_Cut a1 (IntKind.i64.wrap (a2 + v0)) v2).bind fun v3 => bif v3.2.1 != 0 then (some (.inl (v3.2.1, (a1, (IntKind.i64.wrap (a2 + v0), (a3, (a4, (a5, (a6, (a7, (a8, (a9, (a10, (a11, (a12, (a13, (v1.1, (a15, (a16, ()))))))))))))))))))) else (bif decide ((IntKind.i64.wrap ((IntKind.i64.wrap (0 + 1)) + 1)) < (a0.length : Int)) then ((idxL a0 (IntKind.i64.wrap ((IntKind.i64.wrap (0 + 1)) + 1))).bind fun v4 => (F_field_Cut a1 (IntKind.i64.wrap ((IntKind.i64.wrap (a2 + v0)) + v2)) v4).bind fun v5 => bif v5.2.1 != 0 then (some (.inl (v5.2.1, (a1, (IntKind.i64.wrap ((IntKind.i64.wrap (a2 + v0)) + v2), (a3, (a4, (a5, (a6, (a7, (a8, (a9, (a10, (a11, (a12, (a13, (v1.1, (v3.1, (a16, ()))))))))))))))))))) else (bif decide ((IntKind.i64.wrap ((IntKind.i64.wrap ((IntKind.i64.wrap (0 + 1)) + 1)) + 1)) < (a0.length : Int)) then ((idxL a0 (IntKind.i64.wrap ((IntKind.i64.wrap ((IntKind.i64.wrap (0 + 1)) + 1)) + 1))).bind fun v6 => (F_field_Cut a1 (IntKind.i64.wrap ((IntKind.i64.wrap ((IntKind.i64.wrap (a2 + v0)) + v2)) + v4)) v6).bind fun v7 => bif v7.2.1 != 0 then (some (.inl (v7.2.1, (a1, (IntKind.i64.wrap ((IntKind.i64.wrap ((IntKind.i64.wrap (a2 + v0)) + v2)) + v4), (a3, (a4, (a5, (a6, (a7, (a8, (a9, (a10, (a11, (a12, (a13, (v1.1, (v3.1, (v5.1, ()))))))))))))))))))) else none) else (some (.inr (a1, (IntKind.i64.wrap ((IntKind.i64.wrap ((IntKind.i64.wrap (a2 + v0)) + v2)) + v4), (a3, (a4, (a5, (a6, (a7, (a8, (a9, (a10, (a11, (a12, (a13, (v1.1, (v3.1, (v5.1, ())))))))))))))))))))) else (some (.inr (a1, (IntKind.i64.wrap ((IntKind.i64.wrap (a2 + v0)) + v2), (a3, (a4, (a5, (a6, (a7, (a8, (a9, (a10, (a11, (a12, (a13, (v1.1, (v3.1, (a16, ())))))))))))))))))))) else (some (.inr (a1, (IntKind.i64.wrap (a2 + v0), (a3, (a4, (a5, (a6, (a7, (a8, (a9, (a10, (a11, (a12, (a13, (v1.1, (a15, (a16, ())))))))))))))))))))) else (some (.inr (a1, (a2, (a3, (a4, (a5, (a6, (a7, (a8, (a9, (a10, (a11, (a12, (a13, (a14, (a15, (a16, ()))))))))))))))))))).bind fun v8 => sumK v8 (fun v9 => some v9) (fun v10 => some ((0 : Int), v10))
def eF_header_reader_texts_2 : VEnt := ⟨72, ⟨[.ptr 0 0, .pv (.lst (.int .i64)), .row 1], [.obj 110 (.cn (.pv .str) (.cn (.pv (.int .i64)) (.nl))), .arr 106 3 1 (.cn (.ptr 2 11) (.cn (.ptr 2 12) (.cn (.ptr 2 13) (.nl)))), .obj 31 (.cn (.pv (.int .i64)) (.cn (.pv (.int .i64)) (.cn (.pv (.int .i64)) (.cn (.pv (.int .i64)) (.cn (.pv (.int .i64)) (.cn (.pv (.int .i64)) (.cn (.pv (.int .i64)) (.cn (.pv (.int .i64)) (.cn (.pv (.int .i64)) (.cn (.pv (.int .i64)) (.cn (.pv (.int .i64)) (.cn (.pv .str) (.cn (.pv .str) (.cn (.pv .str) (.nl)))))))))))))))]⟩, [⟨[.pv (.int .i64)], [.obj 110 (.cn (.pv .str) (.cn (.pv (.int .i64)) (.nl))), .arr 106 3 1 (.cn (.ptr 2 11) (.cn (.ptr 2 12) (.cn (.ptr 2 13) (.nl)))), .obj 31 (.cn (.pv (.int .i64)) (.cn (.pv (.int .i64)) (.cn (.pv (.int .i64)) (.cn (.pv (.int .i64)) (.cn (.pv (.int .i64)) (.cn (.pv (.int .i64)) (.cn (.pv (.int .i64)) (.cn (.pv (.int .i64)) (.cn (.pv (.int .i64)) (.cn (.pv (.int .i64)) (.cn (.pv (.int .i64)) (.cn (.pv .str) (.cn (.pv .str) (.cn (.pv .str) (.nl)))))))))))))))]⟩], fun q => F_header_reader_texts_2 q.1 q.2.1 q.2.2.1 q.2.2.2.1 q.2.2.2.2.1 q.2.2.2.2.2.1 q.2.2.2.2.2.2.1 q.2.2.2.2.2.2.2.1 q.2.2.2.2.2.2.2.2.1 q.2.2.2.2.2.2.2.2.2.1 q.2.2.2.2.2.2.2.2.2.2.1 q.2.2.2.2.2.2.2.2.2.2.2.1 q.2.2.2.2.2.2.2.2.2.2.2.2.1 q.2.2.2.2.2.2.2.2.2.2.2.2.2.1 q.2.2.2.2.2.2.2.2.2.2.2.2.2.2.1 q.2.2.2.2.2.2.2.2.2.2.2.2.2.2.2.1 q.2.2.2.2.2.2.2.2.2.2.2.2.2.2.2.2.1⟩
def aF_header_reader_texts_2 : Ann := .s .z (.j [(.ret, ⟨mkT 49 0 [(6, .pv (.int .i64))], [.obj 110 (.cn (.pv .str) (.cn (.pv (.int .i64)) (.nl))), .arr 106 3 1 (.cn (.ptr 2 11) (.cn (.ptr 2 12) (.cn (.ptr 2 13) (.nl)))), .obj 31 (.cn (.pv (.int .i64)) (.cn (.pv (.int .i64)) (.cn (.pv (.int .i64)) (.cn (.pv (.int .i64)) (.cn (.pv (.int .i64)) (.cn (.pv (.int .i64)) (.cn (.pv (.int .i64)) (.cn (.pv (.int .i64)) (.cn (.pv (.int .i64)) (.cn (.pv (.int .i64)) (.cn (.pv (.int .i64)) (.cn (.pv .str) (.cn (.pv .str) (.cn (.pv .str) (.nl)))))))))))))))]⟩), (.normal, ⟨mkT 49 0 [], [.obj 110 (.cn (.pv .str) (.cn (.pv (.int .i64)) (.nl))), .arr 106 3 1 (.cn (.ptr 2 11) (.cn (.ptr 2 12) (.cn (.ptr 2 13) (.nl)))), .obj 31 (.cn (.pv (.int .i64)) (.cn (.pv (.int .i64)) (.cn (.pv (.int .i64)) (.cn (.pv (.int .i64)) (.cn (.pv (.int .i64)) (.cn (.pv (.int .i64)) (.cn (.pv (.int .i64)) (.cn (.pv (.int .i64)) (.cn (.pv (.int .i64)) (.cn (.pv (.int .i64)) (.cn (.pv (.int .i64)) (.cn (.pv .str) (.cn (.pv .str) (.cn (.pv .str) (.nl)))))))))))))))]⟩)] (.s .z (.q .z (.q .z (.q .z (.q .z .z))))) .z)
theorem tF_header_reader_texts_2 : vfn ⟨Try.prog, [], ZV36, PV36, RV4⟩ Try.f72 aF_header_reader_texts_2 eF_header_reader_texts_2.ps eF_header_reader_texts_2.rs = eF_header_reader_texts_2.F := by kernel_rfl
def EV37 : List VEnt := eF_header_reader_texts_2 :: EV36
def ZV37 : List VEnt := eF_header_reader_texts_2 :: ZV36
def KV37 : PureK := KV36
def NV37 : List FuncId := 72 :: NV36
def PV37 : List FuncId := PV36
theorem CV37 : Ch Try.prog gl0 Wa4 KV37 NV37 ZV37 EV37 := Ch.add0 CV36 (by kernel_rfl) rV4 (by kernel_rfl) (by kernel_rfl) Try.func72 (by decide) tF_header_reader_texts_2
def F_header_Central (a0 : (List UInt8)) (a1 : Int) : Option ((Int × (Int × (Int × (Int × (Int × (Int × (Int × (Int × (Int × (Int × (Int × ((List UInt8) × ((List UInt8) × ((List UInt8) × Unit)))))))))))))) × (Int × (Int × Unit))) :=
  (F_header_begin a0 a1 (46 : Int) (33639248 : Int)).bind fun v0 => sumK v0 (fun v1 => bif v1.1 != 0 then (some (((0 : Int), ((0 : Int), ((0 : Int), ((0 : Int), ((0 : Int), ((0 : Int), ((0 : Int), ((0 : Int), ((0 : Int), ((0 : Int), ((0 : Int), ((([] : (List UInt8)) : List UInt8), ((([] : (List UInt8)) : List UInt8), ((([] : (List UInt8)) : List UInt8), ())))))))))))))), ((0 : Int), v1))) else none) (fun v2 => bif v2.1 != 0 then (some (((0 : Int), ((0 : Int), ((0 : Int), ((0 : Int), ((0 : Int), ((0 : Int), ((0 : Int), ((0 : Int), ((0 : Int), ((0 : Int), ((0 : Int), ((([] : (List UInt8)) : List UInt8), ((([] : (List UInt8)) : List UInt8), ((([] : (List UInt8)) : List UInt8), ())))))))))))))), ((0 : Int), (v2.1, ())))) else ((F_header_reader_u16_2 v2.2.1 v2.2.2.1).bind fun v3 => (F_header_reader_u16_2 v3.2.1 v3.2.2.1).bind fun v4 => (F_header_reader_u16_2 v4.2.1 v4.2.2.1).bind fun v5 => (F_header_reader_u16_2 v5.2.1 v5.2.2.1).bind fun v6 => (F_header_reader_u32 v6.2.1 v6.2.2.1).bind fun v7 => (F_header_reader_u32 v7.2.1 v7.2.2.1).bind fun v8 => (F_header_reader_u32 v8.2.1 v8.2.2.1).bind fun v9 => (F_header_reader_u32 v9.2.1 v9.2.2.1).bind fun v10 => (F_header_reader_u16_2 v10.2.1 v10.2.2.1).bind fun v11 => (F_header_reader_u16_2 v11.2.1 v11.2.2.1).bind fun v12 => (F_header_reader_u16_2 v12.2.1 v12.2.2.1).bind fun v13 => (F_header_reader_u16_2 v13.2.1 v13.2.2.1).bind fun v14 => (F_header_reader_u16_2 v14.2.1 v14.2.2.1).bind fun v15 => (F_header_reader_u32 v15.2.1 v15.2.2.1).bind fun v16 => (F_header_reader_u32 v16.2.1 v16.2.2.1).bind fun v17 => bif v14.1 != 0 then (some (((0 : Int), ((0 : Int), ((0 : Int), ((0 : Int), ((0 : Int), ((0 : Int), ((0 : Int), ((0 : Int), ((0 : Int), ((0 : Int), ((0 : Int), ((([] : (List UInt8)) : List UInt8), ((([] : (List UInt8)) : List UInt8), ((([] : (List UInt8)) : List UInt8), ())))))))))))))), ((0 : Int), ((2 : Int), ())))) else ((F_header_reader_texts_2 [v11.1, v12.1, v13.1] v17.2.1 v17.2.2.1 v3.1 v4.1 v5.1 v6.1 v7.1 v8.1 v9.1 v10.1 v15.1 v16.1 v17.1 (([] : (List UInt8)) : List UInt8) (([] : (List UInt8)) : List UInt8) (([] : (List UInt8)) : List UInt8)).bind fun v18 => bif v18.1 != 0 then (some (((0 : Int), ((0 : Int), ((0 : Int), ((0 : Int), ((0 : Int), ((0 : Int), ((0 : Int), ((0 : Int), ((0 : Int), ((0 : Int), ((0 : Int), ((([] : (List UInt8)) : List UInt8), ((([] : (List UInt8)) : List UInt8), ((([] : (List UInt8)) : List UInt8), ())))))))))))))), ((0 : Int), (v18.1, ())))) else ((F_header_resolve v18.2.2.2.1 v18.2.2.2.2.1 v18.2.2.2.2.2.1 v18.2.2.2.2.2.2.1 v18.2.2.2.2.2.2.2.1 v18.2.2.2.2.2.2.2.2.1 v18.2.2.2.2.2.2.2.2.2.1 v18.2.2.2.2.2.2.2.2.2.2.1 v18.2.2.2.2.2.2.2.2.2.2.2.1 v18.2.2.2.2.2.2.2.2.2.2.2.2.1 v18.2.2.2.2.2.2.2.2.2.2.2.2.2.1 v18.2.2.2.2.2.2.2.2.2.2.2.2.2.2.1 v18.2.2.2.2.2.2.2.2.2.2.2.2.2.2.2.1 v18.2.2.2.2.2.2.2.2.2.2.2.2.2.2.2.2.1).bind fun v19 => bif v19.1 != 0 then (some (((0 : Int), ((0 : Int), ((0 : Int), ((0 : Int), ((0 : Int), ((0 : Int), ((0 : Int), ((0 : Int), ((0 : Int), ((0 : Int), ((0 : Int), ((([] : (List UInt8)) : List UInt8), ((([] : (List UInt8)) : List UInt8), ((([] : (List UInt8)) : List UInt8), ())))))))))))))), ((0 : Int), (v19.1, ())))) else (some (v19.2, (v18.2.2.1, ((0 : Int), ()))))))))
def eF_header_Central : VEnt := ⟨21, ⟨[.pv .str, .pv (.int .i64)], []⟩, [⟨[.tup (.cn (.pv (.cons (.int .i64) (.cons (.int .i64) (.cons (.int .i64) (.cons (.int .i64) (.cons (.int .i64) (.cons (.int .i64) (.cons (.int .i64) (.cons (.int .i64) (.cons (.int .i64) (.cons (.int .i64) (.cons (.int .i64) (.cons .str (.cons .str (.cons .str .nil))))))))))))))) (.cn (.pv (.int .i64)) (.cn (.pv (.int .i64)) (.nl))))], []⟩], fun q => F_header_Central q.1 q.2.1⟩
def aF_header_Central : Ann := .z
theorem tF_header_Central : vfn ⟨Try.prog, [], ZV37, PV37, RV4⟩ Try.f21 aF_header_Central eF_header_Central.ps eF_header_Central.rs = eF_header_Central.F := by kernel_rfl
def EV38 : List VEnt := eF_header_Central :: EV37
def ZV38 : List VEnt := eF_header_Central :: ZV37
def KV38 : PureK := addK KV37 21 (kOf eF_header_Central)
def NV38 : List FuncId := NV37
def PV38 : List FuncId := 21 :: PV37
theorem CV38 : Ch Try.prog gl0 Wa4 KV38 NV38 ZV38 EV38 := Ch.pure mixedV noGoroutineV CV37 (by kernel_rfl) rV4 (by kernel_rfl) (by kernel_rfl) Try.func21 (by decide) (by kernel_rfl) tF_header_Central
def F_law18_awake : Option (Bool × Unit) :=
  (F_header_PutLocal ((0 : Int), ((20 : Int), ((0 : Int), ((8 : Int), ((0 : Int), ((0 : Int), ((7 : Int), ((5 : Int), ((0 : Int), ((0 : Int), ((0 : Int), (([97] : List UInt8), ((([] : (List UInt8)) : List UInt8), ((([] : (List UInt8)) : List UInt8), ())))))))))))))) false).bind fun v0 => (cat ([63] : List UInt8) v0.1).bind fun v1 => (F_header_Local v1 (1 : Int)).bind fun v2 => (F_header_PutCentral ((0 : Int), ((20 : Int), ((0 : Int), ((8 : Int), ((0 : Int), ((0 : Int), ((7 : Int), ((5 : Int), ((0 : Int), ((0 : Int), ((0 : Int), (([97] : List UInt8), ((([] : (List UInt8)) : List UInt8), ((([] : (List UInt8)) : List UInt8), ())))))))))))))) true).bind fun v3 => (F_header_Central v3.1 (0 : Int)).bind fun v4 => (F_header_Central (([] : (List UInt8)) : List UInt8) (0 : Int)).bind fun v5 => (bif v0.2.1 == 0 then (bif (v0.1.length : Int) == 31 then (bif (v2.1.1 == 0) && ((v2.1.2.1 == 20) && ((v2.1.2.2.1 == 0) && ((v2.1.2.2.2.1 == 8) && ((v2.1.2.2.2.2.1 == 0) && ((v2.1.2.2.2.2.2.1 == 0) && ((v2.1.2.2.2.2.2.2.1 == 7) && ((v2.1.2.2.2.2.2.2.2.1 == 5) && ((v2.1.2.2.2.2.2.2.2.2.1 == 0) && ((v2.1.2.2.2.2.2.2.2.2.2.1 == 0) && ((v2.1.2.2.2.2.2.2.2.2.2.2.1 == 0) && ((v2.1.2.2.2.2.2.2.2.2.2.2.2.1 == [97]) && ((v2.1.2.2.2.2.2.2.2.2.2.2.2.2.1 == ([] : (List UInt8))) && (v2.1.2.2.2.2.2.2.2.2.2.2.2.2.2.1 == ([] : (List UInt8))))))))))))))) then (bif v2.2.1 == 32 then (bif v2.2.2.1 == 0 then (bif v3.2.1 == 0 then (bif (v3.1.length : Int) == 75 then (bif v4.1.2.2.2.2.2.2.2.1 == 5 then (bif v4.2.2.1 == 0 then (some (v5.2.2.1 == 3, ())) else (some (false, ()))) else (some (false, ()))) else (some (false, ()))) else (some (false, ()))) else (some (false, ()))) else (some (false, ()))) else (some (false, ()))) else (some (false, ()))) else (some (false, ()))).bind fun v6 => some v6
def eF_law18_awake : VEnt := ⟨20, ⟨[], []⟩, [⟨[.pv .bool], []⟩], fun q => F_law18_awake⟩
def aF_law18_awake : Ann := .s .z (.s .z (.s .z (.s .z (.s .z (.s .z (.s .z (.j [(.normal, ⟨mkT 86 0 [(0, .pv .bool)], []⟩)] .z .z)))))))
theorem tF_law18_awake : vfn ⟨Try.prog, [], ZV38, PV38, RV4⟩ Try.f20 aF_law18_awake eF_law18_awake.ps eF_law18_awake.rs = eF_law18_awake.F := by kernel_rfl
def EV39 : List VEnt := eF_law18_awake :: EV38
def ZV39 : List VEnt := eF_law18_awake :: ZV38
def KV39 : PureK := addK KV38 20 (kOf eF_law18_awake)
def NV39 : List FuncId := NV38
def PV39 : List FuncId := 20 :: PV38
theorem CV39 : Ch Try.prog gl0 Wa4 KV39 NV39 ZV39 EV39 := Ch.pure mixedV noGoroutineV CV38 (by kernel_rfl) rV4 (by kernel_rfl) (by kernel_rfl) Try.func20 (by decide) (by kernel_rfl) tF_law18_awake
def F_ref18_short (a0 : (List Int)) : Option (Bool × Unit) :=
  (iter (fun v0 => bif decide (v0.1 < (a0.length : Int)) then ((idxL a0 v0.1).bind fun v1 => bif decide (v1 < 0) then (some (.inr (.inl ()))) else ((idxL a0 v0.1).bind fun v2 => bif decide (v2 > 65535) then (some (.inr (.inl ()))) else (some (.inl (IntKind.i64.wrap (v0.1 + 1), ()))))) else (some (.inr (.inr ())))) NF ((0 : Int), ())).bind fun v3 => sumK v3 (fun v4 => some (false, ())) (fun v5 => some (true, ()))
def eF_ref18_short : VEnt := ⟨83, ⟨[.pv (.lst (.int .i64))], []⟩, [⟨[.pv .bool], []⟩], fun q => F_ref18_short q.1⟩
def aF_ref18_short : Ann := .s .z (.s (.s .z (.l ⟨mkT 22 0 [(3, .pv (.int .i64))], []⟩ [(.ret, ⟨mkT 22 0 [(2, .kb false)], []⟩), ((.exit 0), ⟨mkT 22 0 [], []⟩)] .z)) .z)
theorem tF_ref18_short : vfn ⟨Try.prog, [], ZV39, PV39, RV4⟩ Try.f83 aF_ref18_short eF_ref18_short.ps eF_ref18_short.rs = eF_ref18_short.F := by kernel_rfl
def EV40 : List VEnt := eF_ref18_short :: EV39
def ZV40 : List VEnt := eF_ref18_short :: ZV39
def KV40 : PureK := KV39
def NV40 : List FuncId := 83 :: NV39
def PV40 : List FuncId := PV39
theorem CV40 : Ch Try.prog gl0 Wa4 KV40 NV40 ZV40 EV40 := Ch.add0 CV39 (by kernel_rfl) rV4 (by kernel_rfl) (by kernel_rfl) Try.func83 (by decide) tF_ref18_short
def F_ref18_long (a0 : (List Int)) (a1 : Int) : Option (Bool × Unit) :=
  (iter (fun v0 => bif decide (v0.1 < (a0.length : Int)) then ((idxL a0 v0.1).bind fun v1 => bif decide (v1 < 0) then (some (.inr (.inl ()))) else ((idxL a0 v0.1).bind fun v2 => bif decide (v2 > a1) then (some (.inr (.inl ()))) else (some (.inl (IntKind.i64.wrap (v0.1 + 1), ()))))) else (some (.inr (.inr ())))) NF ((0 : Int), ())).bind fun v3 => sumK v3 (fun v4 => some (false, ())) (fun v5 => some (true, ()))
def eF_ref18_long : VEnt := ⟨84, ⟨[.pv (.lst (.int .i64)), .pv (.int .i64)], []⟩, [⟨[.pv .bool], []⟩], fun q => F_ref18_long q.1 q.2.1⟩
def aF_ref18_long : Ann := .s .z (.s (.s .z (.l ⟨mkT 25 0 [(5, .pv (.int .i64))], []⟩ [(.ret, ⟨mkT 25 0 [(4, .kb false)], []⟩), ((.exit 0), ⟨mkT 25 0 [], []⟩)] .z)) .z)
theorem tF_ref18_long : vfn ⟨Try.prog, [], ZV40, PV40, RV4⟩ Try.f84 aF_ref18_long eF_ref18_long.ps eF_ref18_long.rs = eF_ref18_long.F := by kernel_rfl
def EV41 : List VEnt := eF_ref18_long :: EV40
def ZV41 : List VEnt := eF_ref18_long :: ZV40
def KV41 : PureK := KV40
def NV41 : List FuncId := 84 :: NV40
def PV41 : List FuncId := PV40
theorem CV41 : Ch Try.prog gl0 Wa4 KV41 NV41 ZV41 EV41 := Ch.add0 CV40 (by kernel_rfl) rV4 (by kernel_rfl) (by kernel_rfl) Try.func84 (by decide) tF_ref18_long
def F_ref02_Put (a0 : Int) (a1 : Int) : Option ((List UInt8) × Unit) :=
  (iter (fun v0 => bif decide (v0.2.1 < a1) then ((remI v0.1 (256 : Int)).bind fun v1 => (app v0.2.2.1 [IntKind.u8.wrap v1]).bind fun v2 => (quoI .u64 v0.1 256).bind fun v3 => some (.inl (v3, (IntKind.i64.wrap (v0.2.1 + 1), (v2, ()))))) else (some (.inr v0.2.2))) NF (a0, ((0 : Int), (([] : (List Int)), ())))).bind fun v4 => some (oByt v4.1, ())
def eF_ref02_Put : VEnt := ⟨88, ⟨[.pv (.int .u64), .pv (.int .i64)], []⟩, [⟨[.pv .str], []⟩], fun q => F_ref02_Put q.1 q.2.1⟩
def aF_ref02_Put : Ann := .s .z (.s .z (.s (.s .z (.l ⟨mkT 22 0 [(0, .pv (.int .u64)), (5, .row 0), (6, .pv (.int .i64))], [.row 5 (.int .u8)]⟩ [((.exit 0), ⟨mkT 22 0 [(5, .row 0)], [.row 5 (.int .u8)]⟩)] .z)) .z))
theorem tF_ref02_Put : vfn ⟨Try.prog, [], ZV41, PV41, RV4⟩ Try.f88 aF_ref02_Put eF_ref02_Put.ps eF_ref02_Put.rs = eF_ref02_Put.F := by kernel_rfl
def EV42 : List VEnt := eF_ref02_Put :: EV41
def ZV42 : List VEnt := eF_ref02_Put :: ZV41
def KV42 : PureK := addK KV41 88 (kOf eF_ref02_Put)
def NV42 : List FuncId := NV41
def PV42 : List FuncId := 88 :: PV41
theorem CV42 : Ch Try.prog gl0 Wa4 KV42 NV42 ZV42 EV42 := Ch.pure mixedV noGoroutineV CV41 (by kernel_rfl) rV4 (by kernel_rfl) (by kernel_rfl) Try.func88 (by decide) (by kernel_rfl) tF_ref02_Put
def F_ref17_Wide (a0 : (List Int)) : Option ((Int × ((List UInt8) × Unit)) × Unit) :=
  (iter (fun v0 => bif decide (v0.2.1 < (a0.length : Int)) then ((idxL a0 v0.2.1).bind fun v1 => (F_ref02_Put (IntKind.u64.wrap v1) (8 : Int)).bind fun v2 => (cat v0.1 v2.1).bind fun v3 => some (.inl (v3, (IntKind.i64.wrap (v0.2.1 + 1), v0.2.2)))) else (some (.inr (v0.1, v0.2.2)))) NF ((([] : (List UInt8)) : List UInt8), ((0 : Int), ((0 : Int), ((([] : (List UInt8)) : List UInt8), ()))))).bind fun v4 => some (((1 : Int), (v4.1, ())), ())
def eF_ref17_Wide : VEnt := ⟨31, ⟨[.pv (.lst (.int .i64))], []⟩, [⟨[.pv (.cons (.int .i64) (.cons .str .nil))], []⟩], fun q => F_ref17_Wide q.1⟩
def aF_ref17_Wide : Ann := .s .z (.s .z (.s (.s .z (.l ⟨mkT 21 0 [(2, .ptr 0 0), (3, .pv .str), (4, .pv (.int .i64))], [.obj 48 (.cn (.pv (.int .i64)) (.cn (.pv .str) (.nl)))]⟩ [((.exit 0), ⟨mkT 21 0 [(2, .ptr 0 0), (3, .pv .str)], [.obj 48 (.cn (.pv (.int .i64)) (.cn (.pv .str) (.nl)))]⟩)] .z)) .z))
theorem tF_ref17_Wide : vfn ⟨Try.prog, [], ZV42, PV42, RV4⟩ Try.f31 aF_ref17_Wide eF_ref17_Wide.ps eF_ref17_Wide.rs = eF_ref17_Wide.F := by kernel_rfl
def EV43 : List VEnt := eF_ref17_Wide :: EV42
def ZV43 : List VEnt := eF_ref17_Wide :: ZV42
def KV43 : PureK := KV42
def NV43 : List FuncId := 31 :: NV42
def PV43 : List FuncId := PV42
theorem CV43 : Ch Try.prog gl0 Wa4 KV43 NV43 ZV43 EV43 := Ch.add0 CV42 (by kernel_rfl) rV4 (by kernel_rfl) (by kernel_rfl) Try.func31 (by decide) tF_ref17_Wide
def F_ref17_Put (a0 : (List (Int × ((List UInt8) × Unit)))) : Option ((List UInt8) × (Int × Unit)) :=
  (iter (fun v0 => bif decide (v0.2.1 < (a0.length : Int)) then ((idxL a0 v0.2.1).bind fun v1 => bif decide (v1.1 < 0) then (some (.inr (.inl ((([] : (List UInt8)) : List UInt8), ((1 : Int), ()))))) else ((idxL a0 v0.2.1).bind fun v2 => bif decide (v2.1 > 65535) then (some (.inr (.inl ((([] : (List UInt8)) : List UInt8), ((1 : Int), ()))))) else ((idxL a0 v0.2.1).bind fun v3 => bif decide ((v3.2.1.length : Int) > 65535) then (some (.inr (.inl ((([] : (List UInt8)) : List UInt8), ((1 : Int), ()))))) else ((idxL a0 v0.2.1).bind fun v4 => (F_ref02_Put (IntKind.u64.wrap v4.1) (2 : Int)).bind fun v5 => (cat v0.1 v5.1).bind fun v6 => (idxL a0 v0.2.1).bind fun v7 => (F_ref02_Put (IntKind.u64.wrap (v7.2.1.length : Int)) (2 : Int)).bind fun v8 => (cat v6 v8.1).bind fun v9 => (idxL a0 v0.2.1).bind fun v10 => (cat v9 v10.2.1).bind fun v11 => some (.inl (v11, (IntKind.i64.wrap (v0.2.1 + 1), ()))))))) else (some (.inr (.inr (v0.1, ()))))) NF ((([] : (List UInt8)) : List UInt8), ((0 : Int), ()))).bind fun v12 => sumK v12 (fun v13 => some v13) (fun v14 => bif decide ((v14.1.length : Int) > 65535) then (some ((([] : (List UInt8)) : List UInt8), ((7 : Int), ()))) else (some (v14.1, ((0 : Int), ()))))
def eF_ref17_Put : VEnt := ⟨30, ⟨[.pv (.lst (.cons (.int .i64) (.cons .str .nil)))], []⟩, [⟨[.tup (.cn (.pv .str) (.cn (.pv (.int .i64)) (.nl)))], []⟩], fun q => F_ref17_Put q.1⟩
def aF_ref17_Put : Ann := .s .z (.s .z (.s (.s .z (.l ⟨mkT 63 0 [(4, .pv .str), (5, .pv (.int .i64))], []⟩ [(.ret, ⟨mkT 63 0 [(2, .pv .str), (3, .pv (.int .i64))], []⟩), ((.exit 0), ⟨mkT 63 0 [(4, .pv .str)], []⟩)] .z)) .z))
theorem tF_ref17_Put : vfn ⟨Try.prog, [], ZV43, PV43, RV4⟩ Try.f30 aF_ref17_Put eF_ref17_Put.ps eF_ref17_Put.rs = eF_ref17_Put.F := by kernel_rfl
def EV44 : List VEnt := eF_ref17_Put :: EV43
def ZV44 : List VEnt := eF_ref17_Put :: ZV43
def KV44 : PureK := KV43
def NV44 : List FuncId := 30 :: NV43
def PV44 : List FuncId := PV43
theorem CV44 : Ch Try.prog gl0 Wa4 KV44 NV44 ZV44 EV44 := Ch.add0 CV43 (by kernel_rfl) rV4 (by kernel_rfl) (by kernel_rfl) Try.func30 (by decide) tF_ref17_Put
def F_ref18_sizes (a0 : (List Int)) (a1 : (List UInt8)) (a2 : Bool) : Option ((List Int) × ((List UInt8) × (Int × Unit))) :=
  (bif a2 then (some ((1099511627776 : Int), ())) else (some ((4294967294 : Int), ()))).bind fun v0 => (F_ref18_long a0 v0.1).bind fun v1 => bif !v1.1 then (some (([] : (List Int)), ((([] : (List UInt8)) : List UInt8), ((1 : Int), ())))) else (bif decide ((a1.length : Int) > 65535) then (some (([] : (List Int)), ((([] : (List UInt8)) : List UInt8), ((1 : Int), ())))) else (bif !a2 then (some (a0, (a1, ((0 : Int), ())))) else ((F_ref17_Wide a0).bind fun v2 => (F_ref17_Put [v2.1]).bind fun v3 => (cat v3.1 a1).bind fun v4 => (iter (fun v5 => bif decide (v5.1 < (a0.length : Int)) then ((app v5.2.1 [(4294967295 : Int)]).bind fun v6 => some (.inl (IntKind.i64.wrap (v5.1 + 1), (v6, ())))) else (some (.inr v5.2))) NF ((0 : Int), (([] : (List Int)), ()))).bind fun v7 => bif decide ((v4.length : Int) > 65535) then (some (([] : (List Int)), ((([] : (List UInt8)) : List UInt8), ((7 : Int), ())))) else (some (v7.1, (v4, ((0 : Int), ())))))))
def eF_ref18_sizes : VEnt := ⟨85, ⟨[.pv (.lst (.int .i64)), .pv .str, .pv .bool], []⟩, [⟨[.tup (.cn (.pv (.lst (.int .i64))) (.cn (.pv .str) (.cn (.pv (.int .i64)) (.nl))))], []⟩], fun q => F_ref18_sizes q.1 q.2.1 q.2.2.1⟩
def aF_ref18_sizes : Ann := .s .z (.s .z (.j [(.normal, ⟨mkT 52 0 [(9, .pv (.int .i64))], []⟩)] .z (.s .z (.s .z (.s .z (.s .z (.s .z (.s (.s .z (.l ⟨mkT 52 0 [(12, .row 0), (13, .pv (.int .i64))], [.row 3 (.int .i64)]⟩ [((.exit 0), ⟨mkT 52 0 [(12, .row 0)], [.row 3 (.int .i64)]⟩)] .z)) .z))))))))
theorem tF_ref18_sizes : vfn ⟨Try.prog, [], ZV44, PV44, RV4⟩ Try.f85 aF_ref18_sizes eF_ref18_sizes.ps eF_ref18_sizes.rs = eF_ref18_sizes.F := by kernel_rfl
def EV45 : List VEnt := eF_ref18_sizes :: EV44
def ZV45 : List VEnt := eF_ref18_sizes :: ZV44
def KV45 : PureK := KV44
def NV45 : List FuncId := 85 :: NV44
def PV45 : List FuncId := PV44
theorem CV45 : Ch Try.prog gl0 Wa4 KV45 NV45 ZV45 EV45 := Ch.add0 CV44 (by kernel_rfl) rV4 (by kernel_rfl) (by kernel_rfl) Try.func85 (by decide) tF_ref18_sizes
def F_ref18_p4 (a0 : (List Int)) : Option ((List UInt8) × Unit) :=
  (iter (fun v0 => bif decide (v0.2.1 < (a0.length : Int)) then ((idxL a0 v0.2.1).bind fun v1 => (F_ref02_Put (IntKind.u64.wrap v1) (4 : Int)).bind fun v2 => (cat v0.1 v2.1).bind fun v3 => some (.inl (v3, (IntKind.i64.wrap (v0.2.1 + 1), ())))) else (some (.inr (v0.1, ())))) NF ((([] : (List UInt8)) : List UInt8), ((0 : Int), ()))).bind fun v4 => some v4
def eF_ref18_p4 : VEnt := ⟨86, ⟨[.pv (.lst (.int .i64))], []⟩, [⟨[.pv .str], []⟩], fun q => F_ref18_p4 q.1⟩
def aF_ref18_p4 : Ann := .s .z (.s .z (.s (.s .z (.l ⟨mkT 20 0 [(3, .pv .str), (4, .pv (.int .i64))], []⟩ [((.exit 0), ⟨mkT 20 0 [(3, .pv .str)], []⟩)] .z)) .z))
theorem tF_ref18_p4 : vfn ⟨Try.prog, [], ZV45, PV45, RV4⟩ Try.f86 aF_ref18_p4 eF_ref18_p4.ps eF_ref18_p4.rs = eF_ref18_p4.F := by kernel_rfl
def EV46 : List VEnt := eF_ref18_p4 :: EV45
def ZV46 : List VEnt := eF_ref18_p4 :: ZV45
def KV46 : PureK := KV45
def NV46 : List FuncId := 86 :: NV45
def PV46 : List FuncId := PV45
def Wa5 : Aw := ⟨86 :: Wa4.fs, fun g => if g = 86 then hkR eF_ref18_p4 else Wa4.hk g⟩
theorem CV46 : Ch Try.prog gl0 Wa5 KV46 NV46 ZV46 EV46 := Ch.addRead mixedV noGoroutineV CV45 (by kernel_rfl) rV4 (by kernel_rfl) (by kernel_rfl) Try.func86 (by decide) (by kernel_rfl) tF_ref18_p4
def RV5 : List FuncId := 86 :: RV4
theorem rV5 : RdL Wa5 RV5 := RdL.add rV4 (by kernel_rfl) (hkR_reads (e := eF_ref18_p4) (by kernel_rfl))
def F_ref18_p2 (a0 : (List Int)) : Option ((List UInt8) × Unit) :=
  (iter (fun v0 => bif decide (v0.2.1 < (a0.length : Int)) then ((idxL a0 v0.2.1).bind fun v1 => (F_ref02_Put (IntKind.u64.wrap v1) (2 : Int)).bind fun v2 => (cat v0.1 v2.1).bind fun v3 => some (.inl (v3, (IntKind.i64.wrap (v0.2.1 + 1), ())))) else (some (.inr (v0.1, ())))) NF ((([] : (List UInt8)) : List UInt8), ((0 : Int), ()))).bind fun v4 => some v4
def eF_ref18_p2 : VEnt := ⟨87, ⟨[.pv (.lst (.int .i64))], []⟩, [⟨[.pv .str], []⟩], fun q => F_ref18_p2 q.1⟩
def aF_ref18_p2 : Ann := .s .z (.s .z (.s (.s .z (.l ⟨mkT 20 0 [(3, .pv .str), (4, .pv (.int .i64))], []⟩ [((.exit 0), ⟨mkT 20 0 [(3, .pv .str)], []⟩)] .z)) .z))
theorem tF_ref18_p2 : vfn ⟨Try.prog, [], ZV46, PV46, RV5⟩ Try.f87 aF_ref18_p2 eF_ref18_p2.ps eF_ref18_p2.rs = eF_ref18_p2.F := by kernel_rfl
def EV47 : List VEnt := eF_ref18_p2 :: EV46
def ZV47 : List VEnt := eF_ref18_p2 :: ZV46
def KV47 : PureK := KV46
def NV47 : List FuncId := 87 :: NV46
def PV47 : List FuncId := PV46
def Wa6 : Aw := ⟨87 :: Wa5.fs, fun g => if g = 87 then hkR eF_ref18_p2 else Wa5.hk g⟩
theorem CV47 : Ch Try.prog gl0 Wa6 KV47 NV47 ZV47 EV47 := Ch.addRead mixedV noGoroutineV CV46 (by kernel_rfl) rV5 (by kernel_rfl) (by kernel_rfl) Try.func87 (by decide) (by kernel_rfl) tF_ref18_p2
def RV6 : List FuncId := 87 :: RV5
theorem rV6 : RdL Wa6 RV6 := RdL.add rV5 (by kernel_rfl) (hkR_reads (e := eF_ref18_p2) (by kernel_rfl))
def F_ref18_PutCentral (a0 : (Int × (Int × (Int × (Int × (Int × (Int × (Int × (Int × (Int × (Int × (Int × ((List UInt8) × ((List UInt8) × ((List UInt8) × Unit))))))))))))))) (a1 : Bool) : Option ((List UInt8) × (Int × Unit)) :=
  (F_ref18_short [a0.1, a0.2.1, a0.2.2.1, a0.2.2.2.1, a0.2.2.2.2.2.2.2.2.1, (a0.2.2.2.2.2.2.2.2.2.2.2.1.length : Int), (a0.2.2.2.2.2.2.2.2.2.2.2.2.2.1.length : Int)]).bind fun v0 => bif !v0.1 then (some ((([] : (List UInt8)) : List UInt8), ((1 : Int), ()))) else ((F_ref18_long [a0.2.2.2.2.1, a0.2.2.2.2.2.1, a0.2.2.2.2.2.2.2.2.2.1] (4294967295 : Int)).bind fun v1 => bif !v1.1 then (some ((([] : (List UInt8)) : List UInt8), ((1 : Int), ()))) else ((F_ref18_sizes [a0.2.2.2.2.2.2.2.1, a0.2.2.2.2.2.2.1, a0.2.2.2.2.2.2.2.2.2.2.1] a0.2.2.2.2.2.2.2.2.2.2.2.2.1 a1).bind fun v2 => bif v2.2.2.1 != 0 then (some ((([] : (List UInt8)) : List UInt8), v2.2.2)) else ((F_ref18_p4 [(33639248 : Int)]).bind fun v3 => (F_ref18_p2 [a0.1, a0.2.1, a0.2.2.1, a0.2.2.2.1]).bind fun v4 => (idxL v2.1 (1 : Int)).bind fun v5 => (idxL v2.1 (0 : Int)).bind fun v6 => (F_ref18_p4 [a0.2.2.2.2.1, a0.2.2.2.2.2.1, v5, v6]).bind fun v7 => (F_ref18_p2 [(a0.2.2.2.2.2.2.2.2.2.2.2.1.length : Int), (v2.2.1.length : Int), (a0.2.2.2.2.2.2.2.2.2.2.2.2.2.1.length : Int), (0 : Int), a0.2.2.2.2.2.2.2.2.1]).bind fun v8 => (idxL v2.1 (2 : Int)).bind fun v9 => (F_ref18_p4 [a0.2.2.2.2.2.2.2.2.2.1, v9]).bind fun v10 => (cat v3.1 v4.1).bind fun v11 => (cat v11 v7.1).bind fun v12 => (cat v12 v8.1).bind fun v13 => (cat v13 v10.1).bind fun v14 => (cat v14 a0.2.2.2.2.2.2.2.2.2.2.2.1).bind fun v15 => (cat v15 v2.2.1).bind fun v16 => (cat v16 a0.2.2.2.2.2.2.2.2.2.2.2.2.2.1).bind fun v17 => some (v17, ((0 : Int), ())))))
def eF_ref18_PutCentral : VEnt := ⟨26, ⟨[.pv (.cons (.int .i64) (.cons (.int .i64) (.cons (.int .i64) (.cons (.int .i64) (.cons (.int .i64) (.cons (.int .i64) (.cons (.int .i64) (.cons (.int .i64) (.cons (.int .i64) (.cons (.int .i64) (.cons (.int .i64) (.cons .str (.cons .str (.cons .str .nil)))))))))))))), .pv .bool], []⟩, [⟨[.tup (.cn (.pv .str) (.cn (.pv (.int .i64)) (.nl)))], []⟩], fun q => F_ref18_PutCentral q.1 q.2.1⟩
def aF_ref18_PutCentral : Ann := .z
theorem tF_ref18_PutCentral : vfn ⟨Try.prog, [], ZV47, PV47, RV6⟩ Try.f26 aF_ref18_PutCentral eF_ref18_PutCentral.ps eF_ref18_PutCentral.rs = eF_ref18_PutCentral.F := by kernel_rfl
def EV48 : List VEnt := eF_ref18_PutCentral :: EV47
def ZV48 : List VEnt := eF_ref18_PutCentral :: ZV47
def KV48 : PureK := addK KV47 26 (kOf eF_ref18_PutCentral)
def NV48 : List FuncId := NV47
def PV48 : List FuncId := 26 :: PV47
theorem CV48 : Ch Try.prog gl0 Wa6 KV48 NV48 ZV48 EV48 := Ch.pure mixedV noGoroutineV CV47 (by kernel_rfl) rV6 (by kernel_rfl) (by kernel_rfl) Try.func26 (by decide) (by kernel_rfl) tF_ref18_PutCentral
def F_ref18_PutLocal (a0 : (Int × (Int × (Int × (Int × (Int × (Int × (Int × (Int × (Int × (Int × (Int × ((List UInt8) × ((List UInt8) × ((List UInt8) × Unit))))))))))))))) (a1 : Bool) : Option ((List UInt8) × (Int × Unit)) :=
  (F_ref18_short [a0.2.1, a0.2.2.1, a0.2.2.2.1, (a0.2.2.2.2.2.2.2.2.2.2.2.1.length : Int)]).bind fun v0 => bif !v0.1 then (some ((([] : (List UInt8)) : List UInt8), ((1 : Int), ()))) else ((F_ref18_long [a0.2.2.2.2.1, a0.2.2.2.2.2.1] (4294967295 : Int)).bind fun v1 => bif !v1.1 then (some ((([] : (List UInt8)) : List UInt8), ((1 : Int), ()))) else ((F_ref18_sizes [a0.2.2.2.2.2.2.2.1, a0.2.2.2.2.2.2.1] a0.2.2.2.2.2.2.2.2.2.2.2.2.1 a1).bind fun v2 => bif v2.2.2.1 != 0 then (some ((([] : (List UInt8)) : List UInt8), v2.2.2)) else ((F_ref18_p4 [(67324752 : Int)]).bind fun v3 => (F_ref18_p2 [a0.2.1, a0.2.2.1, a0.2.2.2.1]).bind fun v4 => (idxL v2.1 (1 : Int)).bind fun v5 => (idxL v2.1 (0 : Int)).bind fun v6 => (F_ref18_p4 [a0.2.2.2.2.1, a0.2.2.2.2.2.1, v5, v6]).bind fun v7 => (F_ref18_p2 [(a0.2.2.2.2.2.2.2.2.2.2.2.1.length : Int), (v2.2.1.length : Int)]).bind fun v8 => (cat v3.1 v4.1).bind fun v9 => (cat v9 v7.1).bind fun v10 => (cat v10 v8.1).bind fun v11 => (cat v11 a0.2.2.2.2.2.2.2.2.2.2.2.1).bind fun v12 => (cat v12 v2.2.1).bind fun v13 => some (v13, ((0 : Int), ())))))
def eF_ref18_PutLocal : VEnt := ⟨28, ⟨[.pv (.cons (.int .i64) (.cons (.int .i64) (.cons (.int .i64) (.cons (.int .i64) (.cons (.int .i64) (.cons (.int .i64) (.cons (.int .i64) (.cons (.int .i64) (.cons (.int .i64) (.cons (.int .i64) (.cons (.int .i64) (.cons .str (.cons .str (.cons .str .nil)))))))))))))), .pv .bool], []⟩, [⟨[.tup (.cn (.pv .str) (.cn (.pv (.int .i64)) (.nl)))], []⟩], fun q => F_ref18_PutLocal q.1 q.2.1⟩
def aF_ref18_PutLocal : Ann := .z
theorem tF_ref18_PutLocal : vfn ⟨Try.prog, [], ZV48, PV48, RV6⟩ Try.f28 aF_ref18_PutLocal eF_ref18_PutLocal.ps eF_ref18_PutLocal.rs = eF_ref18_PutLocal.F := by kernel_rfl
def EV49 : List VEnt := eF_ref18_PutLocal :: EV48
def ZV49 : List VEnt := eF_ref18_PutLocal :: ZV48
def KV49 : PureK := addK KV48 28 (kOf eF_ref18_PutLocal)
def NV49 : List FuncId := NV48
def PV49 : List FuncId := 28 :: PV48
theorem CV49 : Ch Try.prog gl0 Wa6 KV49 NV49 ZV49 EV49 := Ch.pure mixedV noGoroutineV CV48 (by kernel_rfl) rV6 (by kernel_rfl) (by kernel_rfl) Try.func28 (by decide) (by kernel_rfl) tF_ref18_PutLocal
def F_law18_HeaderPuts (a0 : (Int × (Int × (Int × (Int × (Int × (Int × (Int × (Int × (Int × (Int × (Int × ((List UInt8) × ((List UInt8) × ((List UInt8) × Unit))))))))))))))) (a1 : Bool) : Option (Bool × Unit) :=
  F_law18_awake.bind fun v0 => bif !v0.1 then (some (false, ())) else (bif decide ((a0.2.2.2.2.2.2.2.2.2.2.2.1.length : Int) > 60) then (some (true, ())) else (bif decide ((a0.2.2.2.2.2.2.2.2.2.2.2.2.1.length : Int) > 60) then (some (true, ())) else (bif decide ((a0.2.2.2.2.2.2.2.2.2.2.2.2.2.1.length : Int) > 60) then (some (true, ())) else ((F_header_PutCentral a0 a1).bind fun v1 => (F_ref18_PutCentral a0 a1).bind fun v2 => (F_header_PutLocal a0 a1).bind fun v3 => (F_ref18_PutLocal a0 a1).bind fun v4 => (bif v1.1 == v2.1 then (bif v1.2.1 == v2.2.1 then (bif v3.1 == v4.1 then (some (v3.2.1 == v4.2.1, ())) else (some (false, ()))) else (some (false, ()))) else (some (false, ()))).bind fun v5 => some v5))))
def eF_law18_HeaderPuts : VEnt := ⟨6, ⟨[.pv (.cons (.int .i64) (.cons (.int .i64) (.cons (.int .i64) (.cons (.int .i64) (.cons (.int .i64) (.cons (.int .i64) (.cons (.int .i64) (.cons (.int .i64) (.cons (.int .i64) (.cons (.int .i64) (.cons (.int .i64) (.cons .str (.cons .str (.cons .str .nil)))))))))))))), .pv .bool], []⟩, [⟨[.pv .bool], []⟩], fun q => F_law18_HeaderPuts q.1 q.2.1⟩
def aF_law18_HeaderPuts : Ann := .s .z (.s .z (.s .z (.s .z (.s .z (.s .z (.s .z (.j [(.normal, ⟨mkT 73 0 [(4, .pv .bool)], []⟩)] .z .z)))))))
theorem tF_law18_HeaderPuts : vfn ⟨Try.prog, [], ZV49, PV49, RV6⟩ Try.f6 aF_law18_HeaderPuts eF_law18_HeaderPuts.ps eF_law18_HeaderPuts.rs = eF_law18_HeaderPuts.F := by kernel_rfl
def EV50 : List VEnt := eF_law18_HeaderPuts :: EV49
def ZV50 : List VEnt := eF_law18_HeaderPuts :: ZV49
def KV50 : PureK := addK KV49 6 (kOf eF_law18_HeaderPuts)
def NV50 : List FuncId := NV49
def PV50 : List FuncId := 6 :: PV49
theorem CV50 : Ch Try.prog gl0 Wa6 KV50 NV50 ZV50 EV50 := Ch.pure mixedV noGoroutineV CV49 (by kernel_rfl) rV6 (by kernel_rfl) (by kernel_rfl) Try.func6 (by decide) (by kernel_rfl) tF_law18_HeaderPuts
def F_ref02_Cut (a0 : (List UInt8)) (a1 : Int) (a2 : Int) : Option ((List UInt8) × (Int × Unit)) :=
  bif decide (a1 < 0) then (some ((([] : (List UInt8)) : List UInt8), ((3 : Int), ()))) else (bif decide (a2 < 0) then (some ((([] : (List UInt8)) : List UInt8), ((3 : Int), ()))) else (bif decide (a1 > (a0.length : Int)) then (some ((([] : (List UInt8)) : List UInt8), ((3 : Int), ()))) else (bif decide (a2 > (IntKind.i64.wrap ((a0.length : Int) - a1))) then (some ((([] : (List UInt8)) : List UInt8), ((3 : Int), ()))) else ((subS a0 a1 (IntKind.i64.wrap (a1 + a2))).bind fun v0 => some (v0, ((0 : Int), ()))))))
def eF_ref02_Cut : VEnt := ⟨74, ⟨[.pv .str, .pv (.int .i64), .pv (.int .i64)], []⟩, [⟨[.tup (.cn (.pv .str) (.cn (.pv (.int .i64)) (.nl)))], []⟩], fun q => F_ref02_Cut q.1 q.2.1 q.2.2.1⟩
def aF_ref02_Cut : Ann := .z
theorem tF_ref02_Cut : vfn ⟨Try.prog, [], ZV50, PV50, RV6⟩ Try.f74 aF_ref02_Cut eF_ref02_Cut.ps eF_ref02_Cut.rs = eF_ref02_Cut.F := by kernel_rfl
def EV51 : List VEnt := eF_ref02_Cut :: EV50
def ZV51 : List VEnt := eF_ref02_Cut :: ZV50
def KV51 : PureK := addK KV50 74 (kOf eF_ref02_Cut)
def NV51 : List FuncId := NV50
def PV51 : List FuncId := 74 :: PV50
theorem CV51 : Ch Try.prog gl0 Wa6 KV51 NV51 ZV51 EV51 := Ch.pure mixedV noGoroutineV CV50 (by kernel_rfl) rV6 (by kernel_rfl) (by kernel_rfl) Try.func74 (by decide) (by kernel_rfl) tF_ref02_Cut
def F_ref02_Num (a0 : (List UInt8)) (a1 : Int) (a2 : Int) : Option (Int × (Int × Unit)) :=
  (F_ref02_Cut a0 a1 a2).bind fun v0 => (iter (fun v1 => bif decide (v1.2.1 ≥ 0) then ((idxS v0.1 v1.2.1).bind fun v2 => some (.inl (IntKind.u64.wrap ((IntKind.u64.wrap (256 * v1.1)) + (IntKind.u64.wrap v2)), (IntKind.i64.wrap (v1.2.1 - 1), ())))) else (some (.inr (v1.1, ())))) NF ((0 : Int), (IntKind.i64.wrap ((v0.1.length : Int) - 1), ()))).bind fun v3 => some (v3.1, v0.2)
def eF_ref02_Num : VEnt := ⟨112, ⟨[.pv .str, .pv (.int .i64), .pv (.int .i64)], []⟩, [⟨[.tup (.cn (.pv (.int .u64)) (.cn (.pv (.int .i64)) (.nl)))], []⟩], fun q => F_ref02_Num q.1 q.2.1 q.2.2.1⟩
def aF_ref02_Num : Ann := .s .z (.s .z (.s .z (.s (.s .z (.l ⟨mkT 35 0 [(10, .pv (.int .u64)), (11, .pv (.int .i64))], []⟩ [((.exit 0), ⟨mkT 35 0 [(10, .pv (.int .u64))], []⟩)] .z)) .z)))
theorem tF_ref02_Num : vfn ⟨Try.prog, [], ZV51, PV51, RV6⟩ Try.f112 aF_ref02_Num eF_ref02_Num.ps eF_ref02_Num.rs = eF_ref02_Num.F := by kernel_rfl
def EV52 : List VEnt := eF_ref02_Num :: EV51
def ZV52 : List VEnt := eF_ref02_Num :: ZV51
def KV52 : PureK := addK KV51 112 (kOf eF_ref02_Num)
def NV52 : List FuncId := NV51
def PV52 : List FuncId := 112 :: PV51
theorem CV52 : Ch Try.prog gl0 Wa6 KV52 NV52 ZV52 EV52 := Ch.pure mixedV noGoroutineV CV51 (by kernel_rfl) rV6 (by kernel_rfl) (by kernel_rfl) Try.func112 (by decide) (by kernel_rfl) tF_ref02_Num
def F_ref02_U32 (a0 : (List UInt8)) (a1 : Int) : Option (Int × Unit) :=
  (F_ref02_Num a0 a1 (4 : Int)).bind fun v0 => some (IntKind.i64.wrap v0.1, ())
def eF_ref02_U32 : VEnt := ⟨75, ⟨[.pv .str, .pv (.int .i64)], []⟩, [⟨[.pv (.int .i64)], []⟩], fun q => F_ref02_U32 q.1 q.2.1⟩
def aF_ref02_U32 : Ann := .z
theorem tF_ref02_U32 : vfn ⟨Try.prog, [], ZV52, PV52, RV6⟩ Try.f75 aF_ref02_U32 eF_ref02_U32.ps eF_ref02_U32.rs = eF_ref02_U32.F := by kernel_rfl
def EV53 : List VEnt := eF_ref02_U32 :: EV52
def ZV53 : List VEnt := eF_ref02_U32 :: ZV52
def KV53 : PureK := addK KV52 75 (kOf eF_ref02_U32)
def NV53 : List FuncId := NV52
def PV53 : List FuncId := 75 :: PV52
theorem CV53 : Ch Try.prog gl0 Wa6 KV53 NV53 ZV53 EV53 := Ch.pure mixedV noGoroutineV CV52 (by kernel_rfl) rV6 (by kernel_rfl) (by kernel_rfl) Try.func75 (by decide) (by kernel_rfl) tF_ref02_U32
def F_ref02_U16 (a0 : (List UInt8)) (a1 : Int) : Option (Int × Unit) :=
  (F_ref02_Num a0 a1 (2 : Int)).bind fun v0 => some (IntKind.i64.wrap v0.1, ())
def eF_ref02_U16 : VEnt := ⟨76, ⟨[.pv .str, .pv (.int .i64)], []⟩, [⟨[.pv (.int .i64)], []⟩], fun q => F_ref02_U16 q.1 q.2.1⟩
def aF_ref02_U16 : Ann := .z
theorem tF_ref02_U16 : vfn ⟨Try.prog, [], ZV53, PV53, RV6⟩ Try.f76 aF_ref02_U16 eF_ref02_U16.ps eF_ref02_U16.rs = eF_ref02_U16.F := by kernel_rfl
def EV54 : List VEnt := eF_ref02_U16 :: EV53
def ZV54 : List VEnt := eF_ref02_U16 :: ZV53
def KV54 : PureK := addK KV53 76 (kOf eF_ref02_U16)
def NV54 : List FuncId := NV53
def PV54 : List FuncId := 76 :: PV53
theorem CV54 : Ch Try.prog gl0 Wa6 KV54 NV54 ZV54 EV54 := Ch.pure mixedV noGoroutineV CV53 (by kernel_rfl) rV6 (by kernel_rfl) (by kernel_rfl) Try.func76 (by decide) (by kernel_rfl) tF_ref02_U16
def F_ref18_texts (a0 : (List UInt8)) (a1 : Int) (a2 : (List Int)) : Option (Int × ((List (List UInt8)) × Unit)) :=
  (iter (fun v0 => bif decide (v0.2.1 < (a2.length : Int)) then ((idxL a2 v0.2.1).bind fun v1 => (F_ref02_Cut a0 v0.1 v1).bind fun v2 => bif v2.2.1 != 0 then (some (.inr (.inl (((-1) : Int), ())))) else ((app v0.2.2.1 [v2.1]).bind fun v3 => (idxL a2 v0.2.1).bind fun v4 => some (.inl (IntKind.i64.wrap (v0.1 + v4), (IntKind.i64.wrap (v0.2.1 + 1), (v3, ())))))) else (some (.inr (.inr (v0.1, v0.2.2))))) NF (a1, ((0 : Int), (([] : (List (List UInt8))), ())))).bind fun v5 => sumK v5 (fun v6 => some (v6.1, (([] : (List (List UInt8))), ()))) (fun v7 => some v7)
def eF_ref18_texts : VEnt := ⟨77, ⟨[.pv .str, .pv (.int .i64), .pv (.lst (.int .i64))], []⟩, [⟨[.tup (.cn (.row 0) (.cn (.pv (.int .i64)) (.nl)))], [.row 9 .str]⟩], fun q => F_ref18_texts q.1 q.2.1 q.2.2.1⟩
def aF_ref18_texts : Ann := .s .z (.s .z (.s (.s .z (.l ⟨mkT 42 0 [(1, .pv (.int .i64)), (8, .row 0), (9, .pv (.int .i64))], [.row 9 .str]⟩ [(.ret, ⟨mkT 42 0 [(6, .con 0), (7, .pv (.int .i64))], []⟩), ((.exit 0), ⟨mkT 42 0 [(1, .pv (.int .i64)), (8, .row 0)], [.row 9 .str]⟩)] .z)) .z))
theorem tF_ref18_texts : vfn ⟨Try.prog, [], ZV54, PV54, RV6⟩ Try.f77 aF_ref18_texts eF_ref18_texts.ps eF_ref18_texts.rs = eF_ref18_texts.F := by kernel_rfl
def EV55 : List VEnt := eF_ref18_texts :: EV54
def ZV55 : List VEnt := eF_ref18_texts :: ZV54
def KV55 : PureK := KV54
def NV55 : List FuncId := 77 :: NV54
def PV55 : List FuncId := PV54
theorem CV55 : Ch Try.prog gl0 Wa6 KV55 NV55 ZV55 EV55 := Ch.add0 CV54 (by kernel_rfl) rV6 (by kernel_rfl) (by kernel_rfl) Try.func77 (by decide) tF_ref18_texts
def F_ref17_Parse (a0 : (List UInt8)) : Option (Int × ((List (Int × ((List UInt8) × Unit))) × Unit)) :=
  (iter (fun v0 => bif decide (v0.1 < (a0.length : Int)) then (bif decide ((IntKind.i64.wrap ((a0.length : Int) - v0.1)) < 4) then (some (.inr (.inl ((2 : Int), ())))) else ((F_ref02_U16 a0 (IntKind.i64.wrap (v0.1 + 2))).bind fun v1 => (F_ref02_Cut a0 (IntKind.i64.wrap (v0.1 + 4)) v1.1).bind fun v2 => bif v2.2.1 != 0 then (some (.inr (.inl ((2 : Int), ())))) else ((F_ref02_U16 a0 v0.1).bind fun v3 => (app v0.2.1 [(v3.1, (v2.1, ()))]).bind fun v4 => some (.inl (IntKind.i64.wrap ((IntKind.i64.wrap (v0.1 + 4)) + v1.1), (v4, ())))))) else (some (.inr (.inr v0.2)))) NF ((0 : Int), (([] : (List (Int × ((List UInt8) × Unit)))), ()))).bind fun v5 => sumK v5 (fun v6 => some (v6.1, (([] : (List (Int × ((List UInt8) × Unit)))), ()))) (fun v7 => some ((0 : Int), v7))
def eF_ref17_Parse : VEnt := ⟨29, ⟨[.pv .str], []⟩, [⟨[.tup (.cn (.row 0) (.cn (.pv (.int .i64)) (.nl)))], [.row 48 (.cons (.int .i64) (.cons .str .nil))]⟩], fun q => F_ref17_Parse q.1⟩
def aF_ref17_Parse : Ann := .s .z (.s .z (.s (.s .z (.l ⟨mkT 45 0 [(4, .row 0), (5, .pv (.int .i64))], [.row 48 (.cons (.int .i64) (.cons .str .nil))]⟩ [(.ret, ⟨mkT 45 0 [(2, .con 0), (3, .pv (.int .i64))], []⟩), ((.exit 0), ⟨mkT 45 0 [(4, .row 0)], [.row 48 (.cons (.int .i64) (.cons .str .nil))]⟩)] .z)) .z))
theorem tF_ref17_Parse : vfn ⟨Try.prog, [], ZV55, PV55, RV6⟩ Try.f29 aF_ref17_Parse eF_ref17_Parse.ps eF_ref17_Parse.rs = eF_ref17_Parse.F := by kernel_rfl
def EV56 : List VEnt := eF_ref17_Parse :: EV55
def ZV56 : List VEnt := eF_ref17_Parse :: ZV55
def KV56 : PureK := KV55
def NV56 : List FuncId := 29 :: NV55
def PV56 : List FuncId := PV55
theorem CV56 : Ch Try.prog gl0 Wa6 KV56 NV56 ZV56 EV56 := Ch.add0 CV55 (by kernel_rfl) rV6 (by kernel_rfl) (by kernel_rfl) Try.func29 (by decide) tF_ref17_Parse
def F_ref17_Find (a0 : (List (Int × ((List UInt8) × Unit)))) (a1 : Int) : Option ((List UInt8) × (Bool × Unit)) :=
  (iter (fun v0 => bif decide (v0.1 < (a0.length : Int)) then ((idxL a0 v0.1).bind fun v1 => bif v1.1 == a1 then ((idxL a0 v0.1).bind fun v2 => some (.inr (.inl v2.2))) else (some (.inl (IntKind.i64.wrap (v0.1 + 1), ())))) else (some (.inr (.inr ())))) NF ((0 : Int), ())).bind fun v3 => sumK v3 (fun v4 => some (v4.1, (true, ()))) (fun v5 => some ((([] : (List UInt8)) : List UInt8), (false, ())))
def eF_ref17_Find : VEnt := ⟨132, ⟨[.pv (.lst (.cons (.int .i64) (.cons .str .nil))), .pv (.int .i64)], []⟩, [⟨[.tup (.cn (.pv .str) (.cn (.pv .bool) (.nl)))], []⟩], fun q => F_ref17_Find q.1 q.2.1⟩
def aF_ref17_Find : Ann := .s .z (.s (.s .z (.l ⟨mkT 25 0 [(6, .pv (.int .i64))], []⟩ [(.ret, ⟨mkT 25 0 [(4, .pv .str), (5, .kb true)], []⟩), ((.exit 0), ⟨mkT 25 0 [], []⟩)] .z)) .z)
theorem tF_ref17_Find : vfn ⟨Try.prog, [], ZV56, PV56, RV6⟩ Try.f132 aF_ref17_Find eF_ref17_Find.ps eF_ref17_Find.rs = eF_ref17_Find.F := by kernel_rfl
def EV57 : List VEnt := eF_ref17_Find :: EV56
def ZV57 : List VEnt := eF_ref17_Find :: ZV56
def KV57 : PureK := KV56
def NV57 : List FuncId := 132 :: NV56
def PV57 : List FuncId := PV56
theorem CV57 : Ch Try.prog gl0 Wa6 KV57 NV57 ZV57 EV57 := Ch.add0 CV56 (by kernel_rfl) rV6 (by kernel_rfl) (by kernel_rfl) Try.func132 (by decide) tF_ref17_Find
def F_ref17_Resolve (a0 : (List (Int × ((List UInt8) × Unit)))) (a1 : (Int × (Int × (Int × Unit)))) : Option ((Int × (Int × (Int × Unit))) × (Int × Unit)) :=
  (F_ref17_Find a0 (1 : Int)).bind fun v0 => (bif a1.1 != 4294967295 then (some (.inl ((0 : Int), (false, (a1.1, (a1.2.1, (a1.2.2.1, ((0 : Int), ((0 : Int), ((0 : Int), ())))))))))) else ((F_ref02_Num v0.1 (0 : Int) (8 : Int)).bind fun v1 => bif v1.2.1 != 0 then (some (.inr ((2 : Int), ((0 : Int), ((0 : Int), ((0 : Int), ())))))) else (some (.inl (IntKind.i64.wrap (0 + 8), (decide (v1.1 > 1099511627776), (IntKind.i64.wrap v1.1, (a1.2.1, (a1.2.2.1, ((0 : Int), ((0 : Int), ((0 : Int), ())))))))))))).bind fun v2 => sumK v2 (fun v3 => (bif v3.2.2.2.1 != 4294967295 then (some (.inl v3)) else ((F_ref02_Num v0.1 v3.1 (8 : Int)).bind fun v4 => bif v4.2.1 != 0 then (some (.inr ((2 : Int), ((0 : Int), ((0 : Int), ((0 : Int), ())))))) else ((bif v3.2.1 then (some (true, v3.2.2)) else (some (decide (v4.1 > 1099511627776), v3.2.2))).bind fun v5 => some (.inl (IntKind.i64.wrap (v3.1 + 8), (v5.1, (v5.2.1, (IntKind.i64.wrap v4.1, v5.2.2.2)))))))).bind fun v6 => sumK v6 (fun v7 => (bif v7.2.2.2.2.1 != 4294967295 then (some (.inl v7)) else ((F_ref02_Num v0.1 v7.1 (8 : Int)).bind fun v8 => bif v8.2.1 != 0 then (some (.inr ((2 : Int), ((0 : Int), ((0 : Int), ((0 : Int), ())))))) else ((bif v7.2.1 then (some (true, v7.2.2)) else (some (decide (v8.1 > 1099511627776), v7.2.2))).bind fun v9 => some (.inl (IntKind.i64.wrap (v7.1 + 8), (v9.1, (v9.2.1, (v9.2.2.1, (IntKind.i64.wrap v8.1, v9.2.2.2.2))))))))).bind fun v10 => sumK v10 (fun v11 => bif v11.2.1 then (some (((0 : Int), ((0 : Int), ((0 : Int), ()))), ((7 : Int), ()))) else (some ((v11.2.2.1, (v11.2.2.2.1, (v11.2.2.2.2.1, ()))), ((0 : Int), ())))) (fun v12 => some (v12.2, (v12.1, ())))) (fun v13 => some (v13.2, (v13.1, ())))) (fun v14 => some (v14.2, (v14.1, ())))
def eF_ref17_Resolve : VEnt := ⟨113, ⟨[.pv (.lst (.cons (.int .i64) (.cons .str .nil))), .pv (.cons (.int .i64) (.cons (.int .i64) (.cons (.int .i64) .nil)))], []⟩, [⟨[.tup (.cn (.pv (.cons (.int .i64) (.cons (.int .i64) (.cons (.int .i64) .nil)))) (.cn (.pv (.int .i64)) (.nl)))], []⟩], fun q => F_ref17_Resolve q.1 q.2.1⟩
def aF_ref17_Resolve : Ann := .s .z (.s .z (.s .z (.s .z (.s (.s .z (.q (.s .z (.j [(.normal, ⟨mkT 49 0 [(3, .ptr 0 0), (4, .ptr 1 0), (8, .pv (.int .i64)), (9, .pv .bool)], [.obj 118 (.cn (.pv (.int .i64)) (.cn (.pv (.int .i64)) (.cn (.pv (.int .i64)) (.nl)))), .obj 118 (.cn (.pv (.int .i64)) (.cn (.pv (.int .i64)) (.cn (.pv (.int .i64)) (.nl))))]⟩), (.ret, ⟨mkT 49 0 [(4, .ptr 0 0), (5, .pv (.int .i64))], [.obj 118 (.cn (.pv (.int .i64)) (.cn (.pv (.int .i64)) (.cn (.pv (.int .i64)) (.nl))))]⟩)] .z .z)) (.q (.s .z (.j [(.normal, ⟨mkT 49 0 [(3, .ptr 0 0), (4, .ptr 1 0), (8, .pv (.int .i64)), (9, .pv .bool)], [.obj 118 (.cn (.pv (.int .i64)) (.cn (.pv (.int .i64)) (.cn (.pv (.int .i64)) (.nl)))), .obj 118 (.cn (.pv (.int .i64)) (.cn (.pv (.int .i64)) (.cn (.pv (.int .i64)) (.nl))))]⟩), (.ret, ⟨mkT 49 0 [(4, .ptr 0 0), (5, .pv (.int .i64))], [.obj 118 (.cn (.pv (.int .i64)) (.cn (.pv (.int .i64)) (.cn (.pv (.int .i64)) (.nl))))]⟩)] (.s .z (.s .z (.s .z (.s .z (.j [(.normal, ⟨mkT 49 0 [(3, .ptr 0 0), (4, .ptr 1 0), (9, .pv .bool)], [.obj 118 (.cn (.pv (.int .i64)) (.cn (.pv (.int .i64)) (.cn (.pv (.int .i64)) (.nl)))), .obj 118 (.cn (.pv (.int .i64)) (.cn (.pv (.int .i64)) (.cn (.pv (.int .i64)) (.nl))))]⟩)] .z .z))))) .z)) (.q (.s .z (.j [(.normal, ⟨mkT 49 0 [(3, .ptr 0 0), (4, .ptr 1 0), (8, .pv (.int .i64)), (9, .pv .bool)], [.obj 118 (.cn (.pv (.int .i64)) (.cn (.pv (.int .i64)) (.cn (.pv (.int .i64)) (.nl)))), .obj 118 (.cn (.pv (.int .i64)) (.cn (.pv (.int .i64)) (.cn (.pv (.int .i64)) (.nl))))]⟩), (.ret, ⟨mkT 49 0 [(4, .ptr 0 0), (5, .pv (.int .i64))], [.obj 118 (.cn (.pv (.int .i64)) (.cn (.pv (.int .i64)) (.cn (.pv (.int .i64)) (.nl))))]⟩)] (.s .z (.s .z (.s .z (.s .z (.j [(.normal, ⟨mkT 49 0 [(3, .ptr 0 0), (4, .ptr 1 0), (9, .pv .bool)], [.obj 118 (.cn (.pv (.int .i64)) (.cn (.pv (.int .i64)) (.cn (.pv (.int .i64)) (.nl)))), .obj 118 (.cn (.pv (.int .i64)) (.cn (.pv (.int .i64)) (.cn (.pv (.int .i64)) (.nl))))]⟩)] .z .z))))) .z)) (.q .z .z))))) .z))))
theorem tF_ref17_Resolve : vfn ⟨Try.prog, [], ZV57, PV57, RV6⟩ Try.f113 aF_ref17_Resolve eF_ref17_Resolve.ps eF_ref17_Resolve.rs = eF_ref17_Resolve.F := by kernel_rfl
def EV58 : List VEnt := eF_ref17_Resolve :: EV57
def ZV58 : List VEnt := eF_ref17_Resolve :: ZV57
def KV58 : PureK := KV57
def NV58 : List FuncId := 113 :: NV57
def PV58 : List FuncId := PV57
theorem CV58 : Ch Try.prog gl0 Wa6 KV58 NV58 ZV58 EV58 := Ch.add0 CV57 (by kernel_rfl) rV6 (by kernel_rfl) (by kernel_rfl) Try.func113 (by decide) tF_ref17_Resolve
def F_ref18_finish (a0 : (Int × (Int × (Int × (Int × (Int × (Int × (Int × (Int × (Int × (Int × (Int × ((List UInt8) × ((List UInt8) × ((List UInt8) × Unit))))))))))))))) : Option ((Int × (Int × (Int × (Int × (Int × (Int × (Int × (Int × (Int × (Int × (Int × ((List UInt8) × ((List UInt8) × ((List UInt8) × Unit)))))))))))))) × (Int × Unit)) :=
  (F_ref17_Parse a0.2.2.2.2.2.2.2.2.2.2.2.2.1).bind fun v0 => bif v0.1 != 0 then (some (((0 : Int), ((0 : Int), ((0 : Int), ((0 : Int), ((0 : Int), ((0 : Int), ((0 : Int), ((0 : Int), ((0 : Int), ((0 : Int), ((0 : Int), ((([] : (List UInt8)) : List UInt8), ((([] : (List UInt8)) : List UInt8), ((([] : (List UInt8)) : List UInt8), ())))))))))))))), (v0.1, ()))) else ((F_ref17_Resolve v0.2.1 (a0.2.2.2.2.2.2.2.1, (a0.2.2.2.2.2.2.1, (a0.2.2.2.2.2.2.2.2.2.2.1, ())))).bind fun v1 => bif v1.2.1 != 0 then (some (((0 : Int), ((0 : Int), ((0 : Int), ((0 : Int), ((0 : Int), ((0 : Int), ((0 : Int), ((0 : Int), ((0 : Int), ((0 : Int), ((0 : Int), ((([] : (List UInt8)) : List UInt8), ((([] : (List UInt8)) : List UInt8), ((([] : (List UInt8)) : List UInt8), ())))))))))))))), v1.2)) else (some ((a0.1, (a0.2.1, (a0.2.2.1, (a0.2.2.2.1, (a0.2.2.2.2.1, (a0.2.2.2.2.2.1, (v1.1.2.1, (v1.1.1, (a0.2.2.2.2.2.2.2.2.1, (a0.2.2.2.2.2.2.2.2.2.1, (v1.1.2.2.1, a0.2.2.2.2.2.2.2.2.2.2.2))))))))))), ((0 : Int), ()))))
def eF_ref18_finish : VEnt := ⟨78, ⟨[.pv (.cons (.int .i64) (.cons (.int .i64) (.cons (.int .i64) (.cons (.int .i64) (.cons (.int .i64) (.cons (.int .i64) (.cons (.int .i64) (.cons (.int .i64) (.cons (.int .i64) (.cons (.int .i64) (.cons (.int .i64) (.cons .str (.cons .str (.cons .str .nil))))))))))))))], []⟩, [⟨[.tup (.cn (.pv (.cons (.int .i64) (.cons (.int .i64) (.cons (.int .i64) (.cons (.int .i64) (.cons (.int .i64) (.cons (.int .i64) (.cons (.int .i64) (.cons (.int .i64) (.cons (.int .i64) (.cons (.int .i64) (.cons (.int .i64) (.cons .str (.cons .str (.cons .str .nil))))))))))))))) (.cn (.pv (.int .i64)) (.nl)))], []⟩], fun q => F_ref18_finish q.1⟩
def aF_ref18_finish : Ann := .z
theorem tF_ref18_finish : vfn ⟨Try.prog, [], ZV58, PV58, RV6⟩ Try.f78 aF_ref18_finish eF_ref18_finish.ps eF_ref18_finish.rs = eF_ref18_finish.F := by kernel_rfl
def EV59 : List VEnt := eF_ref18_finish :: EV58
def ZV59 : List VEnt := eF_ref18_finish :: ZV58
def KV59 : PureK := addK KV58 78 (kOf eF_ref18_finish)
def NV59 : List FuncId := NV58
def PV59 : List FuncId := 78 :: PV58
theorem CV59 : Ch Try.prog gl0 Wa6 KV59 NV59 ZV59 EV59 := Ch.pure mixedV noGoroutineV CV58 (by kernel_rfl) rV6 (by kernel_rfl) (by kernel_rfl) Try.func78 (by decide) (by kernel_rfl) tF_ref18_finish
def F_ref18_Central (a0 : (List UInt8)) (a1 : Int) : Option ((Int × (Int × (Int × (Int × (Int × (Int × (Int × (Int × (Int × (Int × (Int × ((List UInt8) × ((List UInt8) × ((List UInt8) × Unit)))))))))))))) × (Int × (Int × Unit))) :=
  (F_ref02_Cut a0 a1 (46 : Int)).bind fun v0 => bif v0.2.1 != 0 then (some (((0 : Int), ((0 : Int), ((0 : Int), ((0 : Int), ((0 : Int), ((0 : Int), ((0 : Int), ((0 : Int), ((0 : Int), ((0 : Int), ((0 : Int), ((([] : (List UInt8)) : List UInt8), ((([] : (List UInt8)) : List UInt8), ((([] : (List UInt8)) : List UInt8), ())))))))))))))), ((0 : Int), ((3 : Int), ())))) else (((F_ref02_U32 v0.1 (0 : Int)).bind fun v1 => bif v1.1 != 33639248 then (some (true, ((0 : Int), ((0 : Int), ((0 : Int), ((0 : Int), ((0 : Int), ((0 : Int), ((0 : Int), ((0 : Int), ((0 : Int), ((0 : Int), ((0 : Int), ((([] : (List UInt8)) : List UInt8), ((([] : (List UInt8)) : List UInt8), ((([] : (List UInt8)) : List UInt8), ())))))))))))))))) else ((F_ref02_U16 v0.1 (34 : Int)).bind fun v2 => some (v2.1 != 0, ((0 : Int), ((0 : Int), ((0 : Int), ((0 : Int), ((0 : Int), ((0 : Int), ((0 : Int), ((0 : Int), ((0 : Int), ((0 : Int), ((0 : Int), ((([] : (List UInt8)) : List UInt8), ((([] : (List UInt8)) : List UInt8), ((([] : (List UInt8)) : List UInt8), ()))))))))))))))))).bind fun v3 => bif v3.1 then (some (((0 : Int), ((0 : Int), ((0 : Int), ((0 : Int), ((0 : Int), ((0 : Int), ((0 : Int), ((0 : Int), ((0 : Int), ((0 : Int), ((0 : Int), ((([] : (List UInt8)) : List UInt8), ((([] : (List UInt8)) : List UInt8), ((([] : (List UInt8)) : List UInt8), ())))))))))))))), ((0 : Int), ((2 : Int), ())))) else ((F_ref02_U16 v0.1 (28 : Int)).bind fun v4 => (F_ref02_U16 v0.1 (30 : Int)).bind fun v5 => (F_ref02_U16 v0.1 (32 : Int)).bind fun v6 => (F_ref18_texts a0 (IntKind.i64.wrap (a1 + 46)) [v4.1, v5.1, v6.1]).bind fun v7 => bif decide (v7.1 < 0) then (some (((0 : Int), ((0 : Int), ((0 : Int), ((0 : Int), ((0 : Int), ((0 : Int), ((0 : Int), ((0 : Int), ((0 : Int), ((0 : Int), ((0 : Int), ((([] : (List UInt8)) : List UInt8), ((([] : (List UInt8)) : List UInt8), ((([] : (List UInt8)) : List UInt8), ())))))))))))))), ((0 : Int), ((3 : Int), ())))) else ((F_ref02_U16 v0.1 (4 : Int)).bind fun v8 => (F_ref02_U16 v0.1 (6 : Int)).bind fun v9 => (F_ref02_U16 v0.1 (8 : Int)).bind fun v10 => (F_ref02_U16 v0.1 (10 : Int)).bind fun v11 => (F_ref02_U32 v0.1 (12 : Int)).bind fun v12 => (F_ref02_U32 v0.1 (16 : Int)).bind fun v13 => (F_ref02_U32 v0.1 (20 : Int)).bind fun v14 => (F_ref02_U32 v0.1 (24 : Int)).bind fun v15 => (F_ref02_U16 v0.1 (36 : Int)).bind fun v16 => (F_ref02_U32 v0.1 (38 : Int)).bind fun v17 => (F_ref02_U32 v0.1 (42 : Int)).bind fun v18 => (idxL v7.2.1 (0 : Int)).bind fun v19 => (idxL v7.2.1 (0 : Int)).bind fun v20 => (idxL v7.2.1 (1 : Int)).bind fun v21 => (idxL v7.2.1 (1 : Int)).bind fun v22 => (idxL v7.2.1 (2 : Int)).bind fun v23 => (idxL v7.2.1 (2 : Int)).bind fun v24 => (F_ref18_finish (v8.1, (v9.1, (v10.1, (v11.1, (v12.1, (v13.1, (v14.1, (v15.1, (v16.1, (v17.1, (v18.1, (v20, (v22, (v24, ()))))))))))))))).bind fun v25 => bif v25.2.1 != 0 then (some (((0 : Int), ((0 : Int), ((0 : Int), ((0 : Int), ((0 : Int), ((0 : Int), ((0 : Int), ((0 : Int), ((0 : Int), ((0 : Int), ((0 : Int), ((([] : (List UInt8)) : List UInt8), ((([] : (List UInt8)) : List UInt8), ((([] : (List UInt8)) : List UInt8), ())))))))))))))), ((0 : Int), v25.2))) else (some (v25.1, (v7.1, ((0 : Int), ())))))))
def eF_ref18_Central : VEnt := ⟨22, ⟨[.pv .str, .pv (.int .i64)], []⟩, [⟨[.tup (.cn (.pv (.cons (.int .i64) (.cons (.int .i64) (.cons (.int .i64) (.cons (.int .i64) (.cons (.int .i64) (.cons (.int .i64) (.cons (.int .i64) (.cons (.int .i64) (.cons (.int .i64) (.cons (.int .i64) (.cons (.int .i64) (.cons .str (.cons .str (.cons .str .nil))))))))))))))) (.cn (.pv (.int .i64)) (.cn (.pv (.int .i64)) (.nl))))], []⟩], fun q => F_ref18_Central q.1 q.2.1⟩
def aF_ref18_Central : Ann := .s .z (.s .z (.s .z (.s (.j [(.normal, ⟨mkT 92 0 [(4, .ptr 0 0), (30, .pv .bool)], [.obj 31 (.cn (.pv (.int .i64)) (.cn (.pv (.int .i64)) (.cn (.pv (.int .i64)) (.cn (.pv (.int .i64)) (.cn (.pv (.int .i64)) (.cn (.pv (.int .i64)) (.cn (.pv (.int .i64)) (.cn (.pv (.int .i64)) (.cn (.pv (.int .i64)) (.cn (.pv (.int .i64)) (.cn (.pv (.int .i64)) (.cn (.pv .str) (.cn (.pv .str) (.cn (.pv .str) (.nl)))))))))))))))]⟩)] .z .z) .z)))
theorem tF_ref18_Central : vfn ⟨Try.prog, [], ZV59, PV59, RV6⟩ Try.f22 aF_ref18_Central eF_ref18_Central.ps eF_ref18_Central.rs = eF_ref18_Central.F := by kernel_rfl
def EV60 : List VEnt := eF_ref18_Central :: EV59
def ZV60 : List VEnt := eF_ref18_Central :: ZV59
def KV60 : PureK := addK KV59 22 (kOf eF_ref18_Central)
def NV60 : List FuncId := NV59
def PV60 : List FuncId := 22 :: PV59
theorem CV60 : Ch Try.prog gl0 Wa6 KV60 NV60 ZV60 EV60 := Ch.pure mixedV noGoroutineV CV59 (by kernel_rfl) rV6 (by kernel_rfl) (by kernel_rfl) Try.func22 (by decide) (by kernel_rfl) tF_ref18_Central
def F_ref18_Local (a0 : (List UInt8)) (a1 : Int) : Option ((Int × (Int × (Int × (Int × (Int × (Int × (Int × (Int × (Int × (Int × (Int × ((List UInt8) × ((List UInt8) × ((List UInt8) × Unit)))))))))))))) × (Int × (Int × Unit))) :=
  (F_ref02_Cut a0 a1 (30 : Int)).bind fun v0 => bif v0.2.1 != 0 then (some (((0 : Int), ((0 : Int), ((0 : Int), ((0 : Int), ((0 : Int), ((0 : Int), ((0 : Int), ((0 : Int), ((0 : Int), ((0 : Int), ((0 : Int), ((([] : (List UInt8)) : List UInt8), ((([] : (List UInt8)) : List UInt8), ((([] : (List UInt8)) : List UInt8), ())))))))))))))), ((0 : Int), ((3 : Int), ())))) else ((F_ref02_U32 v0.1 (0 : Int)).bind fun v1 => bif v1.1 != 67324752 then (some (((0 : Int), ((0 : Int), ((0 : Int), ((0 : Int), ((0 : Int), ((0 : Int), ((0 : Int), ((0 : Int), ((0 : Int), ((0 : Int), ((0 : Int), ((([] : (List UInt8)) : List UInt8), ((([] : (List UInt8)) : List UInt8), ((([] : (List UInt8)) : List UInt8), ())))))))))))))), ((0 : Int), ((2 : Int), ())))) else ((F_ref02_U16 v0.1 (26 : Int)).bind fun v2 => (F_ref02_U16 v0.1 (28 : Int)).bind fun v3 => (F_ref18_texts a0 (IntKind.i64.wrap (a1 + 30)) [v2.1, v3.1]).bind fun v4 => bif decide (v4.1 < 0) then (some (((0 : Int), ((0 : Int), ((0 : Int), ((0 : Int), ((0 : Int), ((0 : Int), ((0 : Int), ((0 : Int), ((0 : Int), ((0 : Int), ((0 : Int), ((([] : (List UInt8)) : List UInt8), ((([] : (List UInt8)) : List UInt8), ((([] : (List UInt8)) : List UInt8), ())))))))))))))), ((0 : Int), ((3 : Int), ())))) else ((F_ref02_U16 v0.1 (4 : Int)).bind fun v5 => (F_ref02_U16 v0.1 (6 : Int)).bind fun v6 => (F_ref02_U16 v0.1 (8 : Int)).bind fun v7 => (F_ref02_U32 v0.1 (10 : Int)).bind fun v8 => (F_ref02_U32 v0.1 (14 : Int)).bind fun v9 => (F_ref02_U32 v0.1 (18 : Int)).bind fun v10 => (F_ref02_U32 v0.1 (22 : Int)).bind fun v11 => (idxL v4.2.1 (0 : Int)).bind fun v12 => (idxL v4.2.1 (0 : Int)).bind fun v13 => (idxL v4.2.1 (1 : Int)).bind fun v14 => (idxL v4.2.1 (1 : Int)).bind fun v15 => (F_ref17_Parse v15).bind fun v16 => (bif v16.1 != 0 then (some (true, ((0 : Int), ((0 : Int), ((0 : Int), ((0 : Int), ((0 : Int), ((0 : Int), ((0 : Int), ((0 : Int), ((0 : Int), ((0 : Int), ((0 : Int), ((([] : (List UInt8)) : List UInt8), ((([] : (List UInt8)) : List UInt8), ((([] : (List UInt8)) : List UInt8), ((0 : Int), (v5.1, (v6.1, (v7.1, (v8.1, (v9.1, (v10.1, (v11.1, ((0 : Int), ((0 : Int), ((0 : Int), (v13, (v15, ((([] : (List UInt8)) : List UInt8), ())))))))))))))))))))))))))))))) else (some (!((v10.1 == 4294967295) == (v11.1 == 4294967295)), ((0 : Int), ((0 : Int), ((0 : Int), ((0 : Int), ((0 : Int), ((0 : Int), ((0 : Int), ((0 : Int), ((0 : Int), ((0 : Int), ((0 : Int), ((([] : (List UInt8)) : List UInt8), ((([] : (List UInt8)) : List UInt8), ((([] : (List UInt8)) : List UInt8), ((0 : Int), (v5.1, (v6.1, (v7.1, (v8.1, (v9.1, (v10.1, (v11.1, ((0 : Int), ((0 : Int), ((0 : Int), (v13, (v15, ((([] : (List UInt8)) : List UInt8), ()))))))))))))))))))))))))))))))).bind fun v17 => bif v17.1 then (some (((0 : Int), ((0 : Int), ((0 : Int), ((0 : Int), ((0 : Int), ((0 : Int), ((0 : Int), ((0 : Int), ((0 : Int), ((0 : Int), ((0 : Int), ((([] : (List UInt8)) : List UInt8), ((([] : (List UInt8)) : List UInt8), ((([] : (List UInt8)) : List UInt8), ())))))))))))))), ((0 : Int), ((2 : Int), ())))) else ((F_ref18_finish v17.2.2.2.2.2.2.2.2.2.2.2.2.2.2.2).bind fun v18 => bif v18.2.1 != 0 then (some (((0 : Int), ((0 : Int), ((0 : Int), ((0 : Int), ((0 : Int), ((0 : Int), ((0 : Int), ((0 : Int), ((0 : Int), ((0 : Int), ((0 : Int), ((([] : (List UInt8)) : List UInt8), ((([] : (List UInt8)) : List UInt8), ((([] : (List UInt8)) : List UInt8), ())))))))))))))), ((0 : Int), v18.2))) else (some (v18.1, (v4.1, ((0 : Int), ()))))))))
def eF_ref18_Local : VEnt := ⟨24, ⟨[.pv .str, .pv (.int .i64)], []⟩, [⟨[.tup (.cn (.pv (.cons (.int .i64) (.cons (.int .i64) (.cons (.int .i64) (.cons (.int .i64) (.cons (.int .i64) (.cons (.int .i64) (.cons (.int .i64) (.cons (.int .i64) (.cons (.int .i64) (.cons (.int .i64) (.cons (.int .i64) (.cons .str (.cons .str (.cons .str .nil))))))))))))))) (.cn (.pv (.int .i64)) (.cn (.pv (.int .i64)) (.nl))))], []⟩], fun q => F_ref18_Local q.1 q.2.1⟩
def aF_ref18_Local : Ann := .s .z (.s .z (.s .z (.s .z (.s .z (.s .z (.s .z (.s .z (.s (.j [(.normal, ⟨mkT 94 0 [(4, .ptr 0 0), (11, .ptr 1 0), (81, .pv .bool)], [.obj 31 (.cn (.pv (.int .i64)) (.cn (.pv (.int .i64)) (.cn (.pv (.int .i64)) (.cn (.pv (.int .i64)) (.cn (.pv (.int .i64)) (.cn (.pv (.int .i64)) (.cn (.pv (.int .i64)) (.cn (.pv (.int .i64)) (.cn (.pv (.int .i64)) (.cn (.pv (.int .i64)) (.cn (.pv (.int .i64)) (.cn (.pv .str) (.cn (.pv .str) (.cn (.pv .str) (.nl))))))))))))))), .obj 31 (.cn (.pv (.int .i64)) (.cn (.pv (.int .i64)) (.cn (.pv (.int .i64)) (.cn (.pv (.int .i64)) (.cn (.pv (.int .i64)) (.cn (.pv (.int .i64)) (.cn (.pv (.int .i64)) (.cn (.pv (.int .i64)) (.cn (.pv (.int .i64)) (.cn (.pv (.int .i64)) (.cn (.pv (.int .i64)) (.cn (.pv .str) (.cn (.pv .str) (.cn (.pv .str) (.nl)))))))))))))))]⟩)] .z .z) .z))))))))
theorem tF_ref18_Local : vfn ⟨Try.prog, [], ZV60, PV60, RV6⟩ Try.f24 aF_ref18_Local eF_ref18_Local.ps eF_ref18_Local.rs = eF_ref18_Local.F := by kernel_rfl
def EV61 : List VEnt := eF_ref18_Local :: EV60
def ZV61 : List VEnt := eF_ref18_Local :: ZV60
def KV61 : PureK := addK KV60 24 (kOf eF_ref18_Local)
def NV61 : List FuncId := NV60
def PV61 : List FuncId := 24 :: PV60
theorem CV61 : Ch Try.prog gl0 Wa6 KV61 NV61 ZV61 EV61 := Ch.pure mixedV noGoroutineV CV60 (by kernel_rfl) rV6 (by kernel_rfl) (by kernel_rfl) Try.func24 (by decide) (by kernel_rfl) tF_ref18_Local
def F_law18_HeaderAny (a0 : (List UInt8)) (a1 : Int) : Option (Bool × Unit) :=
  F_law18_awake.bind fun v0 => bif !v0.1 then (some (false, ())) else (bif decide ((a0.length : Int) > 300) then (some (true, ())) else ((F_header_Central a0 a1).bind fun v1 => (F_ref18_Central a0 a1).bind fun v2 => (F_header_Local a0 a1).bind fun v3 => (F_ref18_Local a0 a1).bind fun v4 => (bif (v1.1.1 == v2.1.1) && ((v1.1.2.1 == v2.1.2.1) && ((v1.1.2.2.1 == v2.1.2.2.1) && ((v1.1.2.2.2.1 == v2.1.2.2.2.1) && ((v1.1.2.2.2.2.1 == v2.1.2.2.2.2.1) && ((v1.1.2.2.2.2.2.1 == v2.1.2.2.2.2.2.1) && ((v1.1.2.2.2.2.2.2.1 == v2.1.2.2.2.2.2.2.1) && ((v1.1.2.2.2.2.2.2.2.1 == v2.1.2.2.2.2.2.2.2.1) && ((v1.1.2.2.2.2.2.2.2.2.1 == v2.1.2.2.2.2.2.2.2.2.1) && ((v1.1.2.2.2.2.2.2.2.2.2.1 == v2.1.2.2.2.2.2.2.2.2.2.1) && ((v1.1.2.2.2.2.2.2.2.2.2.2.1 == v2.1.2.2.2.2.2.2.2.2.2.2.1) && ((v1.1.2.2.2.2.2.2.2.2.2.2.2.1 == v2.1.2.2.2.2.2.2.2.2.2.2.2.1) && ((v1.1.2.2.2.2.2.2.2.2.2.2.2.2.1 == v2.1.2.2.2.2.2.2.2.2.2.2.2.2.1) && (v1.1.2.2.2.2.2.2.2.2.2.2.2.2.2.1 == v2.1.2.2.2.2.2.2.2.2.2.2.2.2.2.1))))))))))))) then (bif v1.2.1 == v2.2.1 then (bif v1.2.2.1 == v2.2.2.1 then (bif (v3.1.1 == v4.1.1) && ((v3.1.2.1 == v4.1.2.1) && ((v3.1.2.2.1 == v4.1.2.2.1) && ((v3.1.2.2.2.1 == v4.1.2.2.2.1) && ((v3.1.2.2.2.2.1 == v4.1.2.2.2.2.1) && ((v3.1.2.2.2.2.2.1 == v4.1.2.2.2.2.2.1) && ((v3.1.2.2.2.2.2.2.1 == v4.1.2.2.2.2.2.2.1) && ((v3.1.2.2.2.2.2.2.2.1 == v4.1.2.2.2.2.2.2.2.1) && ((v3.1.2.2.2.2.2.2.2.2.1 == v4.1.2.2.2.2.2.2.2.2.1) && ((v3.1.2.2.2.2.2.2.2.2.2.1 == v4.1.2.2.2.2.2.2.2.2.2.1) && ((v3.1.2.2.2.2.2.2.2.2.2.2.1 == v4.1.2.2.2.2.2.2.2.2.2.2.1) && ((v3.1.2.2.2.2.2.2.2.2.2.2.2.1 == v4.1.2.2.2.2.2.2.2.2.2.2.2.1) && ((v3.1.2.2.2.2.2.2.2.2.2.2.2.2.1 == v4.1.2.2.2.2.2.2.2.2.2.2.2.2.1) && (v3.1.2.2.2.2.2.2.2.2.2.2.2.2.2.1 == v4.1.2.2.2.2.2.2.2.2.2.2.2.2.2.1))))))))))))) then (bif v3.2.1 == v4.2.1 then (some (v3.2.2.1 == v4.2.2.1, ())) else (some (false, ()))) else (some (false, ()))) else (some (false, ()))) else (some (false, ()))) else (some (false, ()))).bind fun v5 => some v5))
def eF_law18_HeaderAny : VEnt := ⟨5, ⟨[.pv .str, .pv (.int .i64)], []⟩, [⟨[.pv .bool], []⟩], fun q => F_law18_HeaderAny q.1 q.2.1⟩
def aF_law18_HeaderAny : Ann := .s .z (.s .z (.s .z (.s .z (.s .z (.s .z (.s .z (.j [(.normal, ⟨mkT 78 0 [(4, .pv .bool)], []⟩)] .z .z)))))))
theorem tF_law18_HeaderAny : vfn ⟨Try.prog, [], ZV61, PV61, RV6⟩ Try.f5 aF_law18_HeaderAny eF_law18_HeaderAny.ps eF_law18_HeaderAny.rs = eF_law18_HeaderAny.F := by kernel_rfl
def EV62 : List VEnt := eF_law18_HeaderAny :: EV61
def ZV62 : List VEnt := eF_law18_HeaderAny :: ZV61
def KV62 : PureK := addK KV61 5 (kOf eF_law18_HeaderAny)
def NV62 : List FuncId := NV61
def PV62 : List FuncId := 5 :: PV61
theorem CV62 : Ch Try.prog gl0 Wa6 KV62 NV62 ZV62 EV62 := Ch.pure mixedV noGoroutineV CV61 (by kernel_rfl) rV6 (by kernel_rfl) (by kernel_rfl) Try.func5 (by decide) (by kernel_rfl) tF_law18_HeaderAny
def F_law18_HeaderBack (a0 : (Int × (Int × (Int × (Int × (Int × (Int × (Int × (Int × (Int × (Int × (Int × ((List UInt8) × ((List UInt8) × ((List UInt8) × Unit))))))))))))))) (a1 : Bool) : Option (Bool × Unit) :=
  F_law18_awake.bind fun v0 => bif !v0.1 then (some (false, ())) else (bif decide ((a0.2.2.2.2.2.2.2.2.2.2.2.1.length : Int) > 60) then (some (true, ())) else (bif decide ((a0.2.2.2.2.2.2.2.2.2.2.2.2.1.length : Int) > 60) then (some (true, ())) else (bif decide ((a0.2.2.2.2.2.2.2.2.2.2.2.2.2.1.length : Int) > 60) then (some (true, ())) else ((F_ref17_Parse a0.2.2.2.2.2.2.2.2.2.2.2.2.1).bind fun v1 => bif v1.1 != 0 then (some (true, ())) else ((F_header_PutCentral a0 a1).bind fun v2 => (F_header_PutLocal a0 a1).bind fun v3 => (bif v2.2.1 != 0 then (some (true, a0)) else (some (v3.2.1 != 0, a0))).bind fun v4 => bif v4.1 then ((bif v2.2.1 != 0 then (some (true, ())) else (some (decide (v4.2.2.2.2.2.2.2.2.2.2.2.1 < 0), ()))).bind fun v5 => some v5) else ((cat v2.1 ([109, 111, 114, 101] : List UInt8)).bind fun v6 => (F_header_Central v6 (0 : Int)).bind fun v7 => (cat v3.1 ([109, 111, 114, 101] : List UInt8)).bind fun v8 => (F_header_Local v8 (0 : Int)).bind fun v9 => bif v7.2.2.1 != 0 then (some (false, ())) else (bif v9.2.2.1 != 0 then (some (false, ())) else (bif v7.2.1 != (v2.1.length : Int) then (some (false, ())) else (bif v9.2.1 != (v3.1.length : Int) then (some (false, ())) else ((bif a1 then ((F_ref17_Wide [v4.2.2.2.2.2.2.2.2.1, v4.2.2.2.2.2.2.2.1, v4.2.2.2.2.2.2.2.2.2.2.2.1]).bind fun v10 => (F_ref17_Put [v10.1]).bind fun v11 => (F_ref17_Wide [v4.2.2.2.2.2.2.2.2.1, v4.2.2.2.2.2.2.2.1]).bind fun v12 => (F_ref17_Put [v12.1]).bind fun v13 => (cat v11.1 v4.2.2.2.2.2.2.2.2.2.2.2.2.2.1).bind fun v14 => bif !(v7.1.2.2.2.2.2.2.2.2.2.2.2.2.1 == v14) then (some (.inl ())) else ((cat v13.1 v4.2.2.2.2.2.2.2.2.2.2.2.2.2.1).bind fun v15 => bif !(v9.1.2.2.2.2.2.2.2.2.2.2.2.2.1 == v15) then (some (.inl ())) else (some (.inr (v4.2.1, (v4.2.2.1, (v4.2.2.2.1, (v4.2.2.2.2.1, (v4.2.2.2.2.2.1, (v4.2.2.2.2.2.2.1, (v4.2.2.2.2.2.2.2.1, (v4.2.2.2.2.2.2.2.2.1, (v4.2.2.2.2.2.2.2.2.2.1, (v4.2.2.2.2.2.2.2.2.2.2.1, (v4.2.2.2.2.2.2.2.2.2.2.2.1, (v4.2.2.2.2.2.2.2.2.2.2.2.2.1, (v4.2.2.2.2.2.2.2.2.2.2.2.2.2.1, (v4.2.2.2.2.2.2.2.2.2.2.2.2.2.2.1, (v7.1.1, (v7.1.2.1, (v7.1.2.2.1, (v7.1.2.2.2.1, (v7.1.2.2.2.2.1, (v7.1.2.2.2.2.2.1, (v7.1.2.2.2.2.2.2.1, (v7.1.2.2.2.2.2.2.2.1, (v7.1.2.2.2.2.2.2.2.2.1, (v7.1.2.2.2.2.2.2.2.2.2.1, (v7.1.2.2.2.2.2.2.2.2.2.2.1, (v7.1.2.2.2.2.2.2.2.2.2.2.2.1, (v4.2.2.2.2.2.2.2.2.2.2.2.2.2.1, (v7.1.2.2.2.2.2.2.2.2.2.2.2.2.2.1, (v9.1.1, (v9.1.2.1, (v9.1.2.2.1, (v9.1.2.2.2.1, (v9.1.2.2.2.2.1, (v9.1.2.2.2.2.2.1, (v9.1.2.2.2.2.2.2.1, (v9.1.2.2.2.2.2.2.2.1, (v9.1.2.2.2.2.2.2.2.2.1, (v9.1.2.2.2.2.2.2.2.2.2.1, (v9.1.2.2.2.2.2.2.2.2.2.2.1, (v9.1.2.2.2.2.2.2.2.2.2.2.2.1, (v4.2.2.2.2.2.2.2.2.2.2.2.2.2.1, v9.1.2.2.2.2.2.2.2.2.2.2.2.2.2))))))))))))))))))))))))))))))))))))))))))))) else (some (.inr (v4.2.1, (v4.2.2.1, (v4.2.2.2.1, (v4.2.2.2.2.1, (v4.2.2.2.2.2.1, (v4.2.2.2.2.2.2.1, (v4.2.2.2.2.2.2.2.1, (v4.2.2.2.2.2.2.2.2.1, (v4.2.2.2.2.2.2.2.2.2.1, (v4.2.2.2.2.2.2.2.2.2.2.1, (v4.2.2.2.2.2.2.2.2.2.2.2.1, (v4.2.2.2.2.2.2.2.2.2.2.2.2.1, (v4.2.2.2.2.2.2.2.2.2.2.2.2.2.1, (v4.2.2.2.2.2.2.2.2.2.2.2.2.2.2.1, (v7.1.1, (v7.1.2.1, (v7.1.2.2.1, (v7.1.2.2.2.1, (v7.1.2.2.2.2.1, (v7.1.2.2.2.2.2.1, (v7.1.2.2.2.2.2.2.1, (v7.1.2.2.2.2.2.2.2.1, (v7.1.2.2.2.2.2.2.2.2.1, (v7.1.2.2.2.2.2.2.2.2.2.1, (v7.1.2.2.2.2.2.2.2.2.2.2.1, (v7.1.2.2.2.2.2.2.2.2.2.2.2.1, (v7.1.2.2.2.2.2.2.2.2.2.2.2.2.1, (v7.1.2.2.2.2.2.2.2.2.2.2.2.2.2.1, v9.1))))))))))))))))))))))))))))))).bind fun v16 => sumK v16 (fun v17 => some (false, ())) (fun v18 => (bif (v18.2.2.2.2.2.2.2.2.2.2.2.2.2.2.1 == v18.1) && ((v18.2.2.2.2.2.2.2.2.2.2.2.2.2.2.2.1 == v18.2.1) && ((v18.2.2.2.2.2.2.2.2.2.2.2.2.2.2.2.2.1 == v18.2.2.1) && ((v18.2.2.2.2.2.2.2.2.2.2.2.2.2.2.2.2.2.1 == v18.2.2.2.1) && ((v18.2.2.2.2.2.2.2.2.2.2.2.2.2.2.2.2.2.2.1 == v18.2.2.2.2.1) && ((v18.2.2.2.2.2.2.2.2.2.2.2.2.2.2.2.2.2.2.2.1 == v18.2.2.2.2.2.1) && ((v18.2.2.2.2.2.2.2.2.2.2.2.2.2.2.2.2.2.2.2.2.1 == v18.2.2.2.2.2.2.1) && ((v18.2.2.2.2.2.2.2.2.2.2.2.2.2.2.2.2.2.2.2.2.2.1 == v18.2.2.2.2.2.2.2.1) && ((v18.2.2.2.2.2.2.2.2.2.2.2.2.2.2.2.2.2.2.2.2.2.2.1 == v18.2.2.2.2.2.2.2.2.1) && ((v18.2.2.2.2.2.2.2.2.2.2.2.2.2.2.2.2.2.2.2.2.2.2.2.1 == v18.2.2.2.2.2.2.2.2.2.1) && ((v18.2.2.2.2.2.2.2.2.2.2.2.2.2.2.2.2.2.2.2.2.2.2.2.2.1 == v18.2.2.2.2.2.2.2.2.2.2.1) && ((v18.2.2.2.2.2.2.2.2.2.2.2.2.2.2.2.2.2.2.2.2.2.2.2.2.2.1 == v18.2.2.2.2.2.2.2.2.2.2.2.1) && ((v18.2.2.2.2.2.2.2.2.2.2.2.2.2.2.2.2.2.2.2.2.2.2.2.2.2.2.1 == v18.2.2.2.2.2.2.2.2.2.2.2.2.1) && (v18.2.2.2.2.2.2.2.2.2.2.2.2.2.2.2.2.2.2.2.2.2.2.2.2.2.2.2.1 == v18.2.2.2.2.2.2.2.2.2.2.2.2.2.1))))))))))))) then (some ((v18.2.2.2.2.2.2.2.2.2.2.2.2.2.2.2.2.2.2.2.2.2.2.2.2.2.2.2.2.1 == 0) && ((v18.2.2.2.2.2.2.2.2.2.2.2.2.2.2.2.2.2.2.2.2.2.2.2.2.2.2.2.2.2.1 == v18.2.1) && ((v18.2.2.2.2.2.2.2.2.2.2.2.2.2.2.2.2.2.2.2.2.2.2.2.2.2.2.2.2.2.2.1 == v18.2.2.1) && ((v18.2.2.2.2.2.2.2.2.2.2.2.2.2.2.2.2.2.2.2.2.2.2.2.2.2.2.2.2.2.2.2.1 == v18.2.2.2.1) && ((v18.2.2.2.2.2.2.2.2.2.2.2.2.2.2.2.2.2.2.2.2.2.2.2.2.2.2.2.2.2.2.2.2.1 == v18.2.2.2.2.1) && ((v18.2.2.2.2.2.2.2.2.2.2.2.2.2.2.2.2.2.2.2.2.2.2.2.2.2.2.2.2.2.2.2.2.2.1 == v18.2.2.2.2.2.1) && ((v18.2.2.2.2.2.2.2.2.2.2.2.2.2.2.2.2.2.2.2.2.2.2.2.2.2.2.2.2.2.2.2.2.2.2.1 == v18.2.2.2.2.2.2.1) && ((v18.2.2.2.2.2.2.2.2.2.2.2.2.2.2.2.2.2.2.2.2.2.2.2.2.2.2.2.2.2.2.2.2.2.2.2.1 == v18.2.2.2.2.2.2.2.1) && ((v18.2.2.2.2.2.2.2.2.2.2.2.2.2.2.2.2.2.2.2.2.2.2.2.2.2.2.2.2.2.2.2.2.2.2.2.2.1 == 0) && ((v18.2.2.2.2.2.2.2.2.2.2.2.2.2.2.2.2.2.2.2.2.2.2.2.2.2.2.2.2.2.2.2.2.2.2.2.2.2.1 == 0) && ((v18.2.2.2.2.2.2.2.2.2.2.2.2.2.2.2.2.2.2.2.2.2.2.2.2.2.2.2.2.2.2.2.2.2.2.2.2.2.2.1 == 0) && ((v18.2.2.2.2.2.2.2.2.2.2.2.2.2.2.2.2.2.2.2.2.2.2.2.2.2.2.2.2.2.2.2.2.2.2.2.2.2.2.2.1 == v18.2.2.2.2.2.2.2.2.2.2.2.1) && ((v18.2.2.2.2.2.2.2.2.2.2.2.2.2.2.2.2.2.2.2.2.2.2.2.2.2.2.2.2.2.2.2.2.2.2.2.2.2.2.2.2.1 == v18.2.2.2.2.2.2.2.2.2.2.2.2.1) && (v18.2.2.2.2.2.2.2.2.2.2.2.2.2.2.2.2.2.2.2.2.2.2.2.2.2.2.2.2.2.2.2.2.2.2.2.2.2.2.2.2.2.1 == ([] : (List UInt8))))))))))))))), ())) else (some (false, ()))).bind fun v19 => some v19)))))))))))
def eF_law18_HeaderBack : VEnt := ⟨7, ⟨[.pv (.cons (.int .i64) (.cons (.int .i64) (.cons (.int .i64) (.cons (.int .i64) (.cons (.int .i64) (.cons (.int .i64) (.cons (.int .i64) (.cons (.int .i64) (.cons (.int .i64) (.cons (.int .i64) (.cons (.int .i64) (.cons .str (.cons .str (.cons .str .nil)))))))))))))), .pv .bool], []⟩, [⟨[.pv .bool], []⟩], fun q => F_law18_HeaderBack q.1 q.2.1⟩
def aF_law18_HeaderBack : Ann := .s .z (.s .z (.s .z (.s .z (.s .z (.s .z (.s (.j [(.normal, ⟨mkT 177 0 [(2, .ptr 0 0), (64, .pv .bool)], [.obj 31 (.cn (.pv (.int .i64)) (.cn (.pv (.int .i64)) (.cn (.pv (.int .i64)) (.cn (.pv (.int .i64)) (.cn (.pv (.int .i64)) (.cn (.pv (.int .i64)) (.cn (.pv (.int .i64)) (.cn (.pv (.int .i64)) (.cn (.pv (.int .i64)) (.cn (.pv (.int .i64)) (.cn (.pv (.int .i64)) (.cn (.pv .str) (.cn (.pv .str) (.cn (.pv .str) (.nl)))))))))))))))]⟩)] .z (.s (.j [(.normal, ⟨mkT 177 0 [(4, .pv .bool)], []⟩)] .z .z) .z)) (.s .z (.s .z (.s .z (.j [(.ret, ⟨mkT 177 0 [(4, .kb false)], []⟩), (.normal, ⟨mkT 177 0 [(2, .ptr 0 0), (11, .ptr 1 0), (14, .ptr 2 0)], [.obj 31 (.cn (.pv (.int .i64)) (.cn (.pv (.int .i64)) (.cn (.pv (.int .i64)) (.cn (.pv (.int .i64)) (.cn (.pv (.int .i64)) (.cn (.pv (.int .i64)) (.cn (.pv (.int .i64)) (.cn (.pv (.int .i64)) (.cn (.pv (.int .i64)) (.cn (.pv (.int .i64)) (.cn (.pv (.int .i64)) (.cn (.pv .str) (.cn (.pv .str) (.cn (.pv .str) (.nl))))))))))))))), .obj 31 (.cn (.pv (.int .i64)) (.cn (.pv (.int .i64)) (.cn (.pv (.int .i64)) (.cn (.pv (.int .i64)) (.cn (.pv (.int .i64)) (.cn (.pv (.int .i64)) (.cn (.pv (.int .i64)) (.cn (.pv (.int .i64)) (.cn (.pv (.int .i64)) (.cn (.pv (.int .i64)) (.cn (.pv (.int .i64)) (.cn (.pv .str) (.cn (.pv .str) (.cn (.pv .str) (.nl))))))))))))))), .obj 31 (.cn (.pv (.int .i64)) (.cn (.pv (.int .i64)) (.cn (.pv (.int .i64)) (.cn (.pv (.int .i64)) (.cn (.pv (.int .i64)) (.cn (.pv (.int .i64)) (.cn (.pv (.int .i64)) (.cn (.pv (.int .i64)) (.cn (.pv (.int .i64)) (.cn (.pv (.int .i64)) (.cn (.pv (.int .i64)) (.cn (.pv .str) (.cn (.pv .str) (.cn (.pv .str) (.nl)))))))))))))))]⟩)] .z (.j [(.normal, ⟨mkT 177 0 [(4, .pv .bool)], []⟩)] .z .z)))))))))))
theorem tF_law18_HeaderBack : vfn ⟨Try.prog, [], ZV62, PV62, RV6⟩ Try.f7 aF_law18_HeaderBack eF_law18_HeaderBack.ps eF_law18_HeaderBack.rs = eF_law18_HeaderBack.F := by kernel_rfl
def EV63 : List VEnt := eF_law18_HeaderBack :: EV62
def ZV63 : List VEnt := eF_law18_HeaderBack :: ZV62
def KV63 : PureK := addK KV62 7 (kOf eF_law18_HeaderBack)
def NV63 : List FuncId := NV62
def PV63 : List FuncId := 7 :: PV62
theorem CV63 : Ch Try.prog gl0 Wa6 KV63 NV63 ZV63 EV63 := Ch.pure mixedV noGoroutineV CV62 (by kernel_rfl) rV6 (by kernel_rfl) (by kernel_rfl) Try.func7 (by decide) (by kernel_rfl) tF_law18_HeaderBack
end
end Go.Proofs.YtobhmahlenjheaaM

/- What each function computes, in plain Lean, and that it does: printed by vgen.py. -/
import Derived.Test.YtlpiiifmidehjaaDoorGL
set_option linter.unusedVariables false
set_option linter.unusedSimpArgs false
set_option maxRecDepth 1000000
set_option maxHeartbeats 0
namespace Go.Proofs.YtlpiiifmidehjaaDoorM
open Go Go.RowKit
noncomputable section
def KV0 : PureK := fun _ => none
def ZV0 : List VEnt := []
def PV0 : List FuncId := []
def NV0 : List FuncId := Wa0.fs
def EV0 : List VEnt := []
theorem CV0 : Ch Tryd.prog gl0 Wa0 KV0 NV0 ZV0 EV0 := Ch.start wok0
def einternal_bytealg_CountString : VEnt := eCountByte 113
def EV1 : List VEnt := einternal_bytealg_CountString :: EV0
def ZV1 : List VEnt := einternal_bytealg_CountString :: ZV0
def KV1 : PureK := addK KV0 113 (kOf einternal_bytealg_CountString)
def NV1 : List FuncId := NV0
def PV1 : List FuncId := 113 :: PV0
theorem CV1 : Ch Tryd.prog gl0 Wa0 KV1 NV1 ZV1 EV1 := Ch.hook (e := einternal_bytealg_CountString) CV0 (by kernel_rfl) (by kernel_rfl) (by kernel_rfl) (fun B => hook_countByte hkCB)
def einternal_bytealg_IndexByteString : VEnt := eIndexByte 134
def EV2 : List VEnt := einternal_bytealg_IndexByteString :: EV1
def ZV2 : List VEnt := einternal_bytealg_IndexByteString :: ZV1
def KV2 : PureK := addK KV1 134 (kOf einternal_bytealg_IndexByteString)
def NV2 : List FuncId := NV1
def PV2 : List FuncId := 134 :: PV1
theorem CV2 : Ch Tryd.prog gl0 Wa0 KV2 NV2 ZV2 EV2 := Ch.hook (e := einternal_bytealg_IndexByteString) CV1 (by kernel_rfl) (by kernel_rfl) (by kernel_rfl) (fun B => hook_indexByte hkIB)
def estrings_Join : VEnt := eJoin 64
def EV3 : List VEnt := estrings_Join :: EV2
def ZV3 : List VEnt := estrings_Join :: ZV2
def KV3 : PureK := KV2
def NV3 : List FuncId := NV2
def PV3 : List FuncId := PV2
theorem CV3 : Ch Tryd.prog gl0 Wa0 KV3 NV3 ZV3 EV3 := Ch.addW (e := estrings_Join) CV2 (by kernel_rfl) (fun Γ D n hf => join_sound n hf)
def F_internal_stringslite_HasPrefix (a0 : (List UInt8)) (a1 : (List UInt8)) : Option (Bool × Unit) :=
  (bif decide ((a0.length : Int) ≥ (a1.length : Int)) then ((subS a0 (0 : Int) (a1.length : Int)).bind fun v0 => some (v0 == a1, ())) else (some (false, ()))).bind fun v1 => some v1
def eF_internal_stringslite_HasPrefix : VEnt := ⟨81, ⟨[.pv .str, .pv .str], []⟩, [⟨[.pv .bool], []⟩], fun q => F_internal_stringslite_HasPrefix q.1 q.2.1⟩
def aF_internal_stringslite_HasPrefix : Ann := .s .z (.j [(.normal, ⟨mkT 18 0 [(4, .pv .bool)], []⟩)] .z .z)
theorem tF_internal_stringslite_HasPrefix : vfn ⟨Tryd.prog, [], ZV3, PV3⟩ Tryd.f81 aF_internal_stringslite_HasPrefix eF_internal_stringslite_HasPrefix.ps eF_internal_stringslite_HasPrefix.rs = eF_internal_stringslite_HasPrefix.F := by kernel_rfl
def EV4 : List VEnt := eF_internal_stringslite_HasPrefix :: EV3
def ZV4 : List VEnt := eF_internal_stringslite_HasPrefix :: ZV3
def KV4 : PureK := addK KV3 81 (kOf eF_internal_stringslite_HasPrefix)
def NV4 : List FuncId := NV3
def PV4 : List FuncId := 81 :: PV3
theorem CV4 : Ch Tryd.prog gl0 Wa0 KV4 NV4 ZV4 EV4 := Ch.pure mixedV noGoroutineV CV3 (by kernel_rfl) (by kernel_rfl) (by kernel_rfl) Tryd.func81 (by decide) (by kernel_rfl) tF_internal_stringslite_HasPrefix
def F_strings_HasPrefix (a0 : (List UInt8)) (a1 : (List UInt8)) : Option (Bool × Unit) :=
  (F_internal_stringslite_HasPrefix a0 a1).bind fun v0 => some v0
def eF_strings_HasPrefix : VEnt := ⟨61, ⟨[.pv .str, .pv .str], []⟩, [⟨[.pv .bool], []⟩], fun q => F_strings_HasPrefix q.1 q.2.1⟩
def aF_strings_HasPrefix : Ann := .z
theorem tF_strings_HasPrefix : vfn ⟨Tryd.prog, [], ZV4, PV4⟩ Tryd.f61 aF_strings_HasPrefix eF_strings_HasPrefix.ps eF_strings_HasPrefix.rs = eF_strings_HasPrefix.F := by kernel_rfl
def EV5 : List VEnt := eF_strings_HasPrefix :: EV4
def ZV5 : List VEnt := eF_strings_HasPrefix :: ZV4
def KV5 : PureK := addK KV4 61 (kOf eF_strings_HasPrefix)
def NV5 : List FuncId := NV4
def PV5 : List FuncId := 61 :: PV4
theorem CV5 : Ch Tryd.prog gl0 Wa0 KV5 NV5 ZV5 EV5 := Ch.pure mixedV noGoroutineV CV4 (by kernel_rfl) (by kernel_rfl) (by kernel_rfl) Tryd.func61 (by decide) (by kernel_rfl) tF_strings_HasPrefix
def F_unicode_utf8_RuneCountInString (a0 : (List UInt8)) : Option (Int × Unit) :=
  (iter (fun v0 => bif decide (v0.2.2.1 < (v0.2.1.length : Int)) then (some (.inl (IntKind.i64.wrap (v0.1 + 1), (v0.2.1, (oDecN v0.2.1 v0.2.2.1, ()))))) else (some (.inr (v0.1, ())))) NF ((0 : Int), (a0, ((0 : Int), ())))).bind fun v1 => some v1
def eF_unicode_utf8_RuneCountInString : VEnt := ⟨111, ⟨[.pv .str], []⟩, [⟨[.pv (.int .i64)], []⟩], fun q => F_unicode_utf8_RuneCountInString q.1⟩
def aF_unicode_utf8_RuneCountInString : Ann := .s .z (.s (.s .z (.l ⟨mkT 10 0 [(2, .pv (.int .i64)), (4, .ptr 0 0)], [.sit]⟩ [((.exit 0), ⟨mkT 10 0 [(2, .pv (.int .i64))], []⟩)] .z)) .z)
theorem tF_unicode_utf8_RuneCountInString : vfn ⟨Tryd.prog, [], ZV5, PV5⟩ Tryd.f111 aF_unicode_utf8_RuneCountInString eF_unicode_utf8_RuneCountInString.ps eF_unicode_utf8_RuneCountInString.rs = eF_unicode_utf8_RuneCountInString.F := by kernel_rfl
def EV6 : List VEnt := eF_unicode_utf8_RuneCountInString :: EV5
def ZV6 : List VEnt := eF_unicode_utf8_RuneCountInString :: ZV5
def KV6 : PureK := addK KV5 111 (kOf eF_unicode_utf8_RuneCountInString)
def NV6 : List FuncId := NV5
def PV6 : List FuncId := 111 :: PV5
theorem CV6 : Ch Tryd.prog gl0 Wa0 KV6 NV6 ZV6 EV6 := Ch.pure mixedV noGoroutineV CV5 (by kernel_rfl) (by kernel_rfl) (by kernel_rfl) Tryd.func111 (by decide) (by kernel_rfl) tF_unicode_utf8_RuneCountInString
def F_unicode_utf8_decodeRuneInStringSlow (a0 : (List UInt8)) : Option (Int × (Int × Unit)) :=
  bif decide ((a0.length : Int) < 1) then (some ((65533 : Int), ((0 : Int), ()))) else ((idxS a0 (0 : Int)).bind fun v0 => (idxL gv0 v0).bind fun v1 => bif decide (v1 ≥ 240) then ((shlI .i32 (IntKind.i32.wrap v1) 31).bind fun v2 => (shrI v2 .i32 31).bind fun v3 => (idxS a0 (0 : Int)).bind fun v4 => some (orI .i32 (andNotI .i32 (IntKind.i32.wrap v4) v3) (andI .i32 65533 v3), ((1 : Int), ()))) else ((shrI v1 .u8 4).bind fun v5 => (idxL gv1 v5).bind fun v6 => bif decide ((a0.length : Int) < (IntKind.i64.wrap (andI .u8 v1 7))) then (some ((65533 : Int), ((1 : Int), ()))) else ((idxS a0 (1 : Int)).bind fun v7 => bif decide (v7 < v6.1) then (some ((65533 : Int), ((1 : Int), ()))) else (bif decide (v6.2.1 < v7) then (some ((65533 : Int), ((1 : Int), ()))) else (bif decide ((IntKind.i64.wrap (andI .u8 v1 7)) ≤ 2) then ((shlI .i32 (IntKind.i32.wrap (andI .u8 v0 31)) 6).bind fun v8 => some (orI .i32 v8 (IntKind.i32.wrap (andI .u8 v7 63)), ((2 : Int), ()))) else ((idxS a0 (2 : Int)).bind fun v9 => bif decide (v9 < 128) then (some ((65533 : Int), ((1 : Int), ()))) else (bif decide (191 < v9) then (some ((65533 : Int), ((1 : Int), ()))) else (bif decide ((IntKind.i64.wrap (andI .u8 v1 7)) ≤ 3) then ((shlI .i32 (IntKind.i32.wrap (andI .u8 v0 15)) 12).bind fun v10 => (shlI .i32 (IntKind.i32.wrap (andI .u8 v7 63)) 6).bind fun v11 => some (orI .i32 (orI .i32 v10 v11) (IntKind.i32.wrap (andI .u8 v9 63)), ((3 : Int), ()))) else ((idxS a0 (3 : Int)).bind fun v12 => bif decide (v12 < 128) then (some ((65533 : Int), ((1 : Int), ()))) else (bif decide (191 < v12) then (some ((65533 : Int), ((1 : Int), ()))) else ((shlI .i32 (IntKind.i32.wrap (andI .u8 v0 7)) 18).bind fun v13 => (shlI .i32 (IntKind.i32.wrap (andI .u8 v7 63)) 12).bind fun v14 => (shlI .i32 (IntKind.i32.wrap (andI .u8 v9 63)) 6).bind fun v15 => some (orI .i32 (orI .i32 (orI .i32 v13 v14) v15) (IntKind.i32.wrap (andI .u8 v12 63)), ((4 : Int), ())))))))))))))
def eF_unicode_utf8_decodeRuneInStringSlow : VEnt := ⟨119, ⟨[.pv .str], []⟩, [⟨[.tup (.cn (.pv (.int .i32)) (.cn (.pv (.int .i64)) (.nl)))], []⟩], fun q => F_unicode_utf8_decodeRuneInStringSlow q.1⟩
def aF_unicode_utf8_decodeRuneInStringSlow : Ann := .z
theorem tF_unicode_utf8_decodeRuneInStringSlow : vfn ⟨Tryd.prog, gl0, EV6, PV6⟩ Tryd.f119 aF_unicode_utf8_decodeRuneInStringSlow eF_unicode_utf8_decodeRuneInStringSlow.ps eF_unicode_utf8_decodeRuneInStringSlow.rs = eF_unicode_utf8_decodeRuneInStringSlow.F := by kernel_rfl
def EV7 : List VEnt := eF_unicode_utf8_decodeRuneInStringSlow :: EV6
def ZV7 : List VEnt := ZV6
def KV7 : PureK := KV6
def NV7 : List FuncId := 119 :: NV6
def PV7 : List FuncId := PV6
theorem CV7 : Ch Tryd.prog gl0 Wa0 KV7 NV7 ZV7 EV7 := Ch.addG CV6 (by kernel_rfl) (by kernel_rfl) (by kernel_rfl) Tryd.func119 (by decide) tF_unicode_utf8_decodeRuneInStringSlow
def F_unicode_utf8_DecodeRuneInString (a0 : (List UInt8)) : Option (Int × (Int × Unit)) :=
  (bif !(a0 == ([] : (List UInt8))) then ((idxS a0 (0 : Int)).bind fun v0 => some (decide (v0 < 128), ())) else (some (false, ()))).bind fun v1 => bif v1.1 then ((idxS a0 (0 : Int)).bind fun v2 => some (IntKind.i32.wrap v2, ((1 : Int), ()))) else ((F_unicode_utf8_decodeRuneInStringSlow a0).bind fun v3 => some v3)
def eF_unicode_utf8_DecodeRuneInString : VEnt := ⟨112, ⟨[.pv .str], []⟩, [⟨[.tup (.cn (.pv (.int .i32)) (.cn (.pv (.int .i64)) (.nl)))], []⟩], fun q => F_unicode_utf8_DecodeRuneInString q.1⟩
def aF_unicode_utf8_DecodeRuneInString : Ann := .s .z (.s (.j [(.normal, ⟨mkT 19 0 [(10, .pv .bool)], []⟩)] .z .z) .z)
theorem tF_unicode_utf8_DecodeRuneInString : vfn ⟨Tryd.prog, gl0, EV7, PV7⟩ Tryd.f112 aF_unicode_utf8_DecodeRuneInString eF_unicode_utf8_DecodeRuneInString.ps eF_unicode_utf8_DecodeRuneInString.rs = eF_unicode_utf8_DecodeRuneInString.F := by kernel_rfl
def EV8 : List VEnt := eF_unicode_utf8_DecodeRuneInString :: EV7
def ZV8 : List VEnt := ZV7
def KV8 : PureK := KV7
def NV8 : List FuncId := 112 :: NV7
def PV8 : List FuncId := PV7
theorem CV8 : Ch Tryd.prog gl0 Wa0 KV8 NV8 ZV8 EV8 := Ch.addG CV7 (by kernel_rfl) (by kernel_rfl) (by kernel_rfl) Tryd.func112 (by decide) tF_unicode_utf8_DecodeRuneInString
def F_strings_explode (a0 : (List UInt8)) (a1 : Int) : Option ((List (List UInt8)) × Unit) :=
  (F_unicode_utf8_RuneCountInString a0).bind fun v0 => (bif decide (a1 < 0) then (some v0) else (bif decide (a1 > v0.1) then (some v0) else (some (a1, ())))).bind fun v1 => (chkSub (oMin v1.1 (100000000 : Int)) v1.1 v1.1).bind fun v2 => (iter (fun v3 => bif decide (v3.2.1 < (IntKind.i64.wrap (v1.1 - 1))) then ((F_unicode_utf8_DecodeRuneInString v3.1).bind fun v4 => (subS v3.1 (0 : Int) v4.2.1).bind fun v5 => (idxL v3.2.2.1 v3.2.1).bind fun v6 => (idxL v3.2.2.1 v3.2.1).bind fun v7 => (subS v3.1 v4.2.1 (v3.1.length : Int)).bind fun v8 => some (.inl (v8, (IntKind.i64.wrap (v3.2.1 + 1), (oSet v3.2.2.1 v3.2.1 v5, ()))))) else (some (.inr (v3.1, v3.2.2)))) NF (a0, ((0 : Int), (oRep v1.1 (([] : (List UInt8)) : List UInt8), ())))).bind fun v9 => (bif decide (v1.1 > 0) then ((idxL v9.2.1 (IntKind.i64.wrap (v1.1 - 1))).bind fun v10 => (idxL v9.2.1 (IntKind.i64.wrap (v1.1 - 1))).bind fun v11 => some (oSet v9.2.1 (IntKind.i64.wrap (v1.1 - 1)) v9.1, ())) else (some v9.2)).bind fun v12 => some v12
def eF_strings_explode : VEnt := ⟨99, ⟨[.pv .str, .pv (.int .i64)], []⟩, [⟨[.row 0], [.row 9 .str]⟩], fun q => F_strings_explode q.1 q.2.1⟩
def aF_strings_explode : Ann := .s .z (.s .z (.j [(.normal, ⟨mkT 50 0 [(1, .pv (.int .i64))], []⟩)] .z (.s .z (.s (.s .z (.l ⟨mkT 50 0 [(0, .pv .str), (6, .row 0), (7, .pv (.int .i64))], [.row 9 .str]⟩ [((.exit 0), ⟨mkT 50 0 [(0, .pv .str), (6, .row 0)], [.row 9 .str]⟩)] .z)) (.j [(.normal, ⟨mkT 50 0 [(6, .row 0)], [.row 9 .str]⟩)] .z .z)))))
theorem tF_strings_explode : vfn ⟨Tryd.prog, gl0, EV8, PV8⟩ Tryd.f99 aF_strings_explode eF_strings_explode.ps eF_strings_explode.rs = eF_strings_explode.F := by kernel_rfl
def EV9 : List VEnt := eF_strings_explode :: EV8
def ZV9 : List VEnt := ZV8
def KV9 : PureK := KV8
def NV9 : List FuncId := 99 :: NV8
def PV9 : List FuncId := PV8
theorem CV9 : Ch Tryd.prog gl0 Wa0 KV9 NV9 ZV9 EV9 := Ch.addG CV8 (by kernel_rfl) (by kernel_rfl) (by kernel_rfl) Tryd.func99 (by decide) tF_strings_explode
def F_internal_stringslite_IndexByte (a0 : (List UInt8)) (a1 : Int) : Option (Int × Unit) :=
  (F_indexByte a0 a1).bind fun v0 => some v0
def eF_internal_stringslite_IndexByte : VEnt := ⟨120, ⟨[.pv .str, .pv (.int .u8)], []⟩, [⟨[.pv (.int .i64)], []⟩], fun q => F_internal_stringslite_IndexByte q.1 q.2.1⟩
def aF_internal_stringslite_IndexByte : Ann := .z
theorem tF_internal_stringslite_IndexByte : vfn ⟨Tryd.prog, [], ZV9, PV9⟩ Tryd.f120 aF_internal_stringslite_IndexByte eF_internal_stringslite_IndexByte.ps eF_internal_stringslite_IndexByte.rs = eF_internal_stringslite_IndexByte.F := by kernel_rfl
def EV10 : List VEnt := eF_internal_stringslite_IndexByte :: EV9
def ZV10 : List VEnt := eF_internal_stringslite_IndexByte :: ZV9
def KV10 : PureK := addK KV9 120 (kOf eF_internal_stringslite_IndexByte)
def NV10 : List FuncId := NV9
def PV10 : List FuncId := 120 :: PV9
theorem CV10 : Ch Tryd.prog gl0 Wa0 KV10 NV10 ZV10 EV10 := Ch.pure mixedV noGoroutineV CV9 (by kernel_rfl) (by kernel_rfl) (by kernel_rfl) Tryd.func120 (by decide) (by kernel_rfl) tF_internal_stringslite_IndexByte
def F_internal_stringslite_Index (a0 : (List UInt8)) (a1 : (List UInt8)) : Option (Int × Unit) :=
  bif (a1.length : Int) == 0 then (some ((0 : Int), ())) else (bif a1 == a0 then (some ((0 : Int), ())) else (bif (a1.length : Int) == 1 then ((idxS a1 (0 : Int)).bind fun v0 => (F_internal_stringslite_IndexByte a0 v0).bind fun v1 => some v1) else (bif decide ((a1.length : Int) ≥ (a0.length : Int)) then (some (((-1) : Int), ())) else none)))
def eF_internal_stringslite_Index : VEnt := ⟨114, ⟨[.pv .str, .pv .str], []⟩, [⟨[.pv (.int .i64)], []⟩], fun q => F_internal_stringslite_Index q.1 q.2.1⟩
def aF_internal_stringslite_Index : Ann := .z
theorem tF_internal_stringslite_Index : vfn ⟨Tryd.prog, gl0, EV10, PV10⟩ Tryd.f114 aF_internal_stringslite_Index eF_internal_stringslite_Index.ps eF_internal_stringslite_Index.rs = eF_internal_stringslite_Index.F := by kernel_rfl
def EV11 : List VEnt := eF_internal_stringslite_Index :: EV10
def ZV11 : List VEnt := ZV10
def KV11 : PureK := KV10
def NV11 : List FuncId := 114 :: NV10
def PV11 : List FuncId := PV10
theorem CV11 : Ch Tryd.prog gl0 Wa0 KV11 NV11 ZV11 EV11 := Ch.addG CV10 (by kernel_rfl) (by kernel_rfl) (by kernel_rfl) Tryd.func114 (by decide) tF_internal_stringslite_Index
def F_strings_Index (a0 : (List UInt8)) (a1 : (List UInt8)) : Option (Int × Unit) :=
  (F_internal_stringslite_Index a0 a1).bind fun v0 => some v0
def eF_strings_Index : VEnt := ⟨101, ⟨[.pv .str, .pv .str], []⟩, [⟨[.pv (.int .i64)], []⟩], fun q => F_strings_Index q.1 q.2.1⟩
def aF_strings_Index : Ann := .z
theorem tF_strings_Index : vfn ⟨Tryd.prog, gl0, EV11, PV11⟩ Tryd.f101 aF_strings_Index eF_strings_Index.ps eF_strings_Index.rs = eF_strings_Index.F := by kernel_rfl
def EV12 : List VEnt := eF_strings_Index :: EV11
def ZV12 : List VEnt := ZV11
def KV12 : PureK := KV11
def NV12 : List FuncId := 101 :: NV11
def PV12 : List FuncId := PV11
theorem CV12 : Ch Tryd.prog gl0 Wa0 KV12 NV12 ZV12 EV12 := Ch.addG CV11 (by kernel_rfl) (by kernel_rfl) (by kernel_rfl) Tryd.func101 (by decide) tF_strings_Index
def F_strings_Count (a0 : (List UInt8)) (a1 : (List UInt8)) : Option (Int × Unit) :=
  bif (a1.length : Int) == 0 then ((F_unicode_utf8_RuneCountInString a0).bind fun v0 => some (IntKind.i64.wrap (v0.1 + 1), ())) else (bif (a1.length : Int) == 1 then ((idxS a1 (0 : Int)).bind fun v1 => (F_countByte a0 v1).bind fun v2 => some v2) else ((iter (fun v3 => (F_strings_Index v3.1 a1).bind fun v4 => bif v4.1 == (-1) then (some (.inr v3.2)) else ((subS v3.1 (IntKind.i64.wrap (v4.1 + (a1.length : Int))) (v3.1.length : Int)).bind fun v5 => some (.inl (v5, (IntKind.i64.wrap (v3.2.1 + 1), ()))))) NF (a0, ((0 : Int), ()))).bind fun v6 => some v6))
def eF_strings_Count : VEnt := ⟨100, ⟨[.pv .str, .pv .str], []⟩, [⟨[.pv (.int .i64)], []⟩], fun q => F_strings_Count q.1 q.2.1⟩
def aF_strings_Count : Ann := .s .z (.s .z (.s .z (.s .z (.l ⟨mkT 34 0 [(0, .pv .str), (5, .pv (.int .i64))], []⟩ [(.ret, ⟨mkT 34 0 [(4, .pv (.int .i64))], []⟩)] .z))))
theorem tF_strings_Count : vfn ⟨Tryd.prog, gl0, EV12, PV12⟩ Tryd.f100 aF_strings_Count eF_strings_Count.ps eF_strings_Count.rs = eF_strings_Count.F := by kernel_rfl
def EV13 : List VEnt := eF_strings_Count :: EV12
def ZV13 : List VEnt := ZV12
def KV13 : PureK := KV12
def NV13 : List FuncId := 100 :: NV12
def PV13 : List FuncId := PV12
theorem CV13 : Ch Tryd.prog gl0 Wa0 KV13 NV13 ZV13 EV13 := Ch.addG CV12 (by kernel_rfl) (by kernel_rfl) (by kernel_rfl) Tryd.func100 (by decide) tF_strings_Count
def F_strings_genSplit (a0 : (List UInt8)) (a1 : (List UInt8)) (a2 : Int) (a3 : Int) : Option ((List (List UInt8)) × Unit) :=
  bif a3 == 0 then (some (([] : (List (List UInt8))), ())) else (bif a1 == ([] : (List UInt8)) then ((F_strings_explode a0 a3).bind fun v0 => some v0) else ((bif decide (a3 < 0) then ((F_strings_Count a0 a1).bind fun v1 => some (IntKind.i64.wrap (v1.1 + 1), ())) else (some (a3, ()))).bind fun v2 => (chkSub (oMin (minI v2.1 (IntKind.i64.wrap ((a0.length : Int) + 1))) (100000000 : Int)) (minI v2.1 (IntKind.i64.wrap ((a0.length : Int) + 1))) (minI v2.1 (IntKind.i64.wrap ((a0.length : Int) + 1)))).bind fun v3 => (iter (fun v4 => bif decide (v4.2.1 < (IntKind.i64.wrap ((minI v2.1 (IntKind.i64.wrap ((a0.length : Int) + 1))) - 1))) then ((F_strings_Index v4.1 a1).bind fun v5 => bif decide (v5.1 < 0) then (some (.inr v4)) else ((subS v4.1 (0 : Int) (IntKind.i64.wrap (v5.1 + a2))).bind fun v6 => (idxL v4.2.2.1 v4.2.1).bind fun v7 => (idxL v4.2.2.1 v4.2.1).bind fun v8 => (subS v4.1 (IntKind.i64.wrap (v5.1 + (a1.length : Int))) (v4.1.length : Int)).bind fun v9 => some (.inl (v9, (IntKind.i64.wrap (v4.2.1 + 1), (oSet v4.2.2.1 v4.2.1 v6, ())))))) else (some (.inr v4))) NF (a0, ((0 : Int), (oRep (minI v2.1 (IntKind.i64.wrap ((a0.length : Int) + 1))) (([] : (List UInt8)) : List UInt8), ())))).bind fun v10 => (idxL v10.2.2.1 v10.2.1).bind fun v11 => (idxL v10.2.2.1 v10.2.1).bind fun v12 => (chkSub ((oSet v10.2.2.1 v10.2.1 v10.1).length : Int) (0 : Int) (IntKind.i64.wrap (v10.2.1 + 1))).bind fun v13 => some (oTD (oSet v10.2.2.1 v10.2.1 v10.1) (0 : Int) (IntKind.i64.wrap (v10.2.1 + 1)), ())))
def eF_strings_genSplit : VEnt := ⟨89, ⟨[.pv .str, .pv .str, .pv (.int .i64), .pv (.int .i64)], []⟩, [⟨[.row 0], [.row 9 .str]⟩], fun q => F_strings_genSplit q.1 q.2.1 q.2.2.1 q.2.2.2.1⟩
def aF_strings_genSplit : Ann := .s .z (.s .z (.s .z (.j [(.normal, ⟨mkT 66 0 [(3, .pv (.int .i64))], []⟩)] .z (.s .z (.s .z (.s .z (.s .z (.s (.l ⟨mkT 66 0 [(0, .pv .str), (9, .row 0), (10, .pv (.int .i64))], [.row 9 .str]⟩ [((.exit 0), ⟨mkT 66 0 [(0, .pv .str), (9, .row 0), (10, .pv (.int .i64))], [.row 9 .str]⟩)] .z) .z))))))))
theorem tF_strings_genSplit : vfn ⟨Tryd.prog, gl0, EV13, PV13⟩ Tryd.f89 aF_strings_genSplit eF_strings_genSplit.ps eF_strings_genSplit.rs = eF_strings_genSplit.F := by kernel_rfl
def EV14 : List VEnt := eF_strings_genSplit :: EV13
def ZV14 : List VEnt := ZV13
def KV14 : PureK := KV13
def NV14 : List FuncId := 89 :: NV13
def PV14 : List FuncId := PV13
theorem CV14 : Ch Tryd.prog gl0 Wa0 KV14 NV14 ZV14 EV14 := Ch.addG CV13 (by kernel_rfl) (by kernel_rfl) (by kernel_rfl) Tryd.func89 (by decide) tF_strings_genSplit
def F_strings_Split (a0 : (List UInt8)) (a1 : (List UInt8)) : Option ((List (List UInt8)) × Unit) :=
  (F_strings_genSplit a0 a1 (0 : Int) ((-1) : Int)).bind fun v0 => some v0
def eF_strings_Split : VEnt := ⟨71, ⟨[.pv .str, .pv .str], []⟩, [⟨[.row 0], [.row 9 .str]⟩], fun q => F_strings_Split q.1 q.2.1⟩
def aF_strings_Split : Ann := .z
theorem tF_strings_Split : vfn ⟨Tryd.prog, gl0, EV14, PV14⟩ Tryd.f71 aF_strings_Split eF_strings_Split.ps eF_strings_Split.rs = eF_strings_Split.F := by kernel_rfl
def EV15 : List VEnt := eF_strings_Split :: EV14
def ZV15 : List VEnt := ZV14
def KV15 : PureK := KV14
def NV15 : List FuncId := 71 :: NV14
def PV15 : List FuncId := PV14
theorem CV15 : Ch Tryd.prog gl0 Wa0 KV15 NV15 ZV15 EV15 := Ch.addG CV14 (by kernel_rfl) (by kernel_rfl) (by kernel_rfl) Tryd.func71 (by decide) tF_strings_Split
def F_route_Parts (a0 : (List UInt8)) : Option ((List (List UInt8)) × Unit) :=
  bif a0 == ([] : (List UInt8)) then (some (([] : (List (List UInt8))), ())) else ((F_strings_Split a0 ([47] : List UInt8)).bind fun v0 => some v0)
def eF_route_Parts : VEnt := ⟨30, ⟨[.pv .str], []⟩, [⟨[.row 0], [.row 9 .str]⟩], fun q => F_route_Parts q.1⟩
def aF_route_Parts : Ann := .z
theorem tF_route_Parts : vfn ⟨Tryd.prog, gl0, EV15, PV15⟩ Tryd.f30 aF_route_Parts eF_route_Parts.ps eF_route_Parts.rs = eF_route_Parts.F := by kernel_rfl
def EV16 : List VEnt := eF_route_Parts :: EV15
def ZV16 : List VEnt := ZV15
def KV16 : PureK := KV15
def NV16 : List FuncId := 30 :: NV15
def PV16 : List FuncId := PV15
theorem CV16 : Ch Tryd.prog gl0 Wa0 KV16 NV16 ZV16 EV16 := Ch.addG CV15 (by kernel_rfl) (by kernel_rfl) (by kernel_rfl) Tryd.func30 (by decide) tF_route_Parts
def F_route_Normal_1 (a0 : (List UInt8)) : Option (Bool × Unit) :=
  (bif a0 == ([] : (List UInt8)) then (some (true, ())) else (some (a0 == [46], ()))).bind fun v0 => some v0
def eF_route_Normal_1 : VEnt := ⟨63, ⟨[.pv .str], []⟩, [⟨[.pv .bool], []⟩], fun q => F_route_Normal_1 q.1⟩
def aF_route_Normal_1 : Ann := .s .z (.j [(.normal, ⟨mkT 9 0 [(2, .pv .bool)], []⟩)] .z .z)
theorem tF_route_Normal_1 : vfn ⟨Tryd.prog, [], ZV16, PV16⟩ Tryd.f63 aF_route_Normal_1 eF_route_Normal_1.ps eF_route_Normal_1.rs = eF_route_Normal_1.F := by kernel_rfl
def EV17 : List VEnt := eF_route_Normal_1 :: EV16
def ZV17 : List VEnt := eF_route_Normal_1 :: ZV16
def KV17 : PureK := addK KV16 63 (kOf eF_route_Normal_1)
def NV17 : List FuncId := NV16
def PV17 : List FuncId := 63 :: PV16
theorem CV17 : Ch Tryd.prog gl0 Wa0 KV17 NV17 ZV17 EV17 := Ch.pure mixedV noGoroutineV CV16 (by kernel_rfl) (by kernel_rfl) (by kernel_rfl) Tryd.func63 (by decide) (by kernel_rfl) tF_route_Normal_1
def F_slices_IndexFunc_string_string__route_Normal_1 (a0 : (List (List UInt8))) : Option (Int × ((List (List UInt8)) × Unit)) :=
  (iter (fun v0 => bif decide (v0.1 < (a0.length : Int)) then ((idxL v0.2.1 v0.1).bind fun v1 => (idxL v0.2.1 v0.1).bind fun v2 => (F_route_Normal_1 v2).bind fun v3 => bif v3.1 then (some (.inr (.inl v0))) else (some (.inl (IntKind.i64.wrap (v0.1 + 1), v0.2)))) else (some (.inr (.inr v0.2)))) NF ((0 : Int), (a0, ()))).bind fun v4 => sumK v4 (fun v5 => some v5) (fun v6 => some (((-1) : Int), v6))
def eF_slices_IndexFunc_string_string__route_Normal_1 : VEnt := ⟨80, ⟨[.row 0, .fn 63 (.nl) (.nl)], [.row 9 .str]⟩, [⟨[.pv (.int .i64)], [.row 9 .str]⟩], fun q => F_slices_IndexFunc_string_string__route_Normal_1 q.1⟩
def aF_slices_IndexFunc_string_string__route_Normal_1 : Ann := .s .z (.s (.s .z (.l ⟨mkT 19 0 [(0, .row 0), (1, .fn 63 (.nl) (.nl)), (8, .pv (.int .i64))], [.row 9 .str]⟩ [(.ret, ⟨mkT 19 0 [(4, .pv (.int .i64))], [.row 9 .str]⟩), ((.exit 0), ⟨mkT 19 0 [], [.row 9 .str]⟩)] .z)) .z)
theorem tF_slices_IndexFunc_string_string__route_Normal_1 : vfn ⟨Tryd.prog, [], ZV17, PV17⟩ Tryd.f80 aF_slices_IndexFunc_string_string__route_Normal_1 eF_slices_IndexFunc_string_string__route_Normal_1.ps eF_slices_IndexFunc_string_string__route_Normal_1.rs = eF_slices_IndexFunc_string_string__route_Normal_1.F := by kernel_rfl
def EV18 : List VEnt := eF_slices_IndexFunc_string_string__route_Normal_1 :: EV17
def ZV18 : List VEnt := eF_slices_IndexFunc_string_string__route_Normal_1 :: ZV17
def KV18 : PureK := KV17
def NV18 : List FuncId := 80 :: NV17
def PV18 : List FuncId := PV17
theorem CV18 : Ch Tryd.prog gl0 Wa0 KV18 NV18 ZV18 EV18 := Ch.add0 CV17 (by kernel_rfl) (by kernel_rfl) (by kernel_rfl) Tryd.func80 (by decide) tF_slices_IndexFunc_string_string__route_Normal_1
def F_slices_DeleteFunc_string_string__route_Normal_1 (a0 : (List (List UInt8))) : Option (Int × (Int × ((List (List UInt8)) × Unit))) :=
  (F_slices_IndexFunc_string_string__route_Normal_1 a0).bind fun v0 => bif v0.1 == (-1) then (some ((0 : Int), ((v0.2.1.length : Int), v0.2))) else ((iter (fun v1 => bif decide (v1.2.1 < (v1.2.2.1.length : Int)) then (((idxL v1.2.2.1 v1.2.1).bind fun v2 => (idxL v1.2.2.1 v1.2.1).bind fun v3 => (F_route_Normal_1 v3).bind fun v4 => bif !v4.1 then ((idxL v1.2.2.1 v1.1).bind fun v5 => (idxL v1.2.2.1 v1.1).bind fun v6 => some (IntKind.i64.wrap (v1.1 + 1), (oSet v1.2.2.1 v1.1 v3, ()))) else (some (v1.1, v1.2.2))).bind fun v7 => some (.inl (v7.1, (IntKind.i64.wrap (v1.2.1 + 1), v7.2)))) else (some (.inr (v1.1, v1.2.2)))) NF (v0.1, (IntKind.i64.wrap (v0.1 + 1), v0.2))).bind fun v8 => (chkSub (v8.2.1.length : Int) v8.1 (v8.2.1.length : Int)).bind fun v9 => (chkSub ((oClr v8.2.1 v8.1 (v8.2.1.length : Int) (([] : (List UInt8)) : List UInt8)).length : Int) (0 : Int) v8.1).bind fun v10 => some ((0 : Int), (v8.1, (oClr v8.2.1 v8.1 (v8.2.1.length : Int) (([] : (List UInt8)) : List UInt8), ()))))
def eF_slices_DeleteFunc_string_string__route_Normal_1 : VEnt := ⟨62, ⟨[.row 0, .fn 63 (.nl) (.nl)], [.row 9 .str]⟩, [⟨[.view 0], [.row 9 .str]⟩], fun q => F_slices_DeleteFunc_string_string__route_Normal_1 q.1⟩
def aF_slices_DeleteFunc_string_string__route_Normal_1 : Ann := .s .z (.s .z (.s .z (.s (.s .z (.l ⟨mkT 42 0 [(0, .row 0), (1, .fn 63 (.nl) (.nl)), (5, .pv (.int .i64)), (6, .pv (.int .i64))], [.row 9 .str]⟩ [((.exit 0), ⟨mkT 42 0 [(0, .row 0), (5, .pv (.int .i64))], [.row 9 .str]⟩)] (.s .z (.j [(.normal, ⟨mkT 42 0 [(0, .row 0), (1, .fn 63 (.nl) (.nl)), (5, .pv (.int .i64))], [.row 9 .str]⟩)] .z .z)))) .z)))
theorem tF_slices_DeleteFunc_string_string__route_Normal_1 : vfn ⟨Tryd.prog, [], ZV18, PV18⟩ Tryd.f62 aF_slices_DeleteFunc_string_string__route_Normal_1 eF_slices_DeleteFunc_string_string__route_Normal_1.ps eF_slices_DeleteFunc_string_string__route_Normal_1.rs = eF_slices_DeleteFunc_string_string__route_Normal_1.F := by kernel_rfl
def EV19 : List VEnt := eF_slices_DeleteFunc_string_string__route_Normal_1 :: EV18
def ZV19 : List VEnt := eF_slices_DeleteFunc_string_string__route_Normal_1 :: ZV18
def KV19 : PureK := KV18
def NV19 : List FuncId := 62 :: NV18
def PV19 : List FuncId := PV18
theorem CV19 : Ch Tryd.prog gl0 Wa0 KV19 NV19 ZV19 EV19 := Ch.add0 CV18 (by kernel_rfl) (by kernel_rfl) (by kernel_rfl) Tryd.func62 (by decide) tF_slices_DeleteFunc_string_string__route_Normal_1
def F_unicode_utf8_word_string (a0 : (List UInt8)) : Option (Int × Unit) :=
  (idxS a0 (0 : Int)).bind fun v0 => (idxS a0 (1 : Int)).bind fun v1 => (shlI .u64 (IntKind.u64.wrap v1) 8).bind fun v2 => (idxS a0 (2 : Int)).bind fun v3 => (shlI .u64 (IntKind.u64.wrap v3) 16).bind fun v4 => (idxS a0 (3 : Int)).bind fun v5 => (shlI .u64 (IntKind.u64.wrap v5) 24).bind fun v6 => (idxS a0 (4 : Int)).bind fun v7 => (shlI .u64 (IntKind.u64.wrap v7) 32).bind fun v8 => (idxS a0 (5 : Int)).bind fun v9 => (shlI .u64 (IntKind.u64.wrap v9) 40).bind fun v10 => (idxS a0 (6 : Int)).bind fun v11 => (shlI .u64 (IntKind.u64.wrap v11) 48).bind fun v12 => (idxS a0 (7 : Int)).bind fun v13 => (shlI .u64 (IntKind.u64.wrap v13) 56).bind fun v14 => some (orI .u64 (orI .u64 (orI .u64 (orI .u64 (orI .u64 (orI .u64 (orI .u64 (IntKind.u64.wrap v0) v2) v4) v6) v8) v10) v12) v14, ())
def eF_unicode_utf8_word_string : VEnt := ⟨85, ⟨[.pv .str], []⟩, [⟨[.pv (.int .u64)], []⟩], fun q => F_unicode_utf8_word_string q.1⟩
def aF_unicode_utf8_word_string : Ann := .z
theorem tF_unicode_utf8_word_string : vfn ⟨Tryd.prog, [], ZV19, PV19⟩ Tryd.f85 aF_unicode_utf8_word_string eF_unicode_utf8_word_string.ps eF_unicode_utf8_word_string.rs = eF_unicode_utf8_word_string.F := by kernel_rfl
def EV20 : List VEnt := eF_unicode_utf8_word_string :: EV19
def ZV20 : List VEnt := eF_unicode_utf8_word_string :: ZV19
def KV20 : PureK := addK KV19 85 (kOf eF_unicode_utf8_word_string)
def NV20 : List FuncId := NV19
def PV20 : List FuncId := 85 :: PV19
theorem CV20 : Ch Tryd.prog gl0 Wa0 KV20 NV20 ZV20 EV20 := Ch.pure mixedV noGoroutineV CV19 (by kernel_rfl) (by kernel_rfl) (by kernel_rfl) Tryd.func85 (by decide) (by kernel_rfl) tF_unicode_utf8_word_string
def F_unicode_utf8_ValidString (a0 : (List UInt8)) : Option (Bool × Unit) :=
  (iter (fun v0 => bif decide ((v0.1.length : Int) > 0) then ((idxS v0.1 (0 : Int)).bind fun v1 => bif decide (v1 < 128) then ((subS v0.1 (1 : Int) (v0.1.length : Int)).bind fun v2 => (bif decide ((v2.length : Int) > 8) then ((F_unicode_utf8_word_string v2).bind fun v3 => bif (andI .u64 v3.1 9259542123273814144) == 0 then ((subS v2 (8 : Int) (v2.length : Int)).bind fun v4 => bif decide ((v4.length : Int) > 16) then ((F_unicode_utf8_word_string v4).bind fun v5 => (subS v4 (8 : Int) (v4.length : Int)).bind fun v6 => (F_unicode_utf8_word_string v6).bind fun v7 => bif (andI .u64 (orI .u64 v5.1 v7.1) 9259542123273814144) == 0 then ((subS v4 (16 : Int) (v4.length : Int)).bind fun v8 => (iter (fun v9 => bif decide ((v9.1.length : Int) > 32) then ((F_unicode_utf8_word_string v9.1).bind fun v10 => (subS v9.1 (8 : Int) (v9.1.length : Int)).bind fun v11 => (F_unicode_utf8_word_string v11).bind fun v12 => (subS v9.1 (16 : Int) (v9.1.length : Int)).bind fun v13 => (F_unicode_utf8_word_string v13).bind fun v14 => (subS v9.1 (24 : Int) (v9.1.length : Int)).bind fun v15 => (F_unicode_utf8_word_string v15).bind fun v16 => bif (andI .u64 (orI .u64 (orI .u64 v10.1 v12.1) (orI .u64 v14.1 v16.1)) 9259542123273814144) == 0 then ((subS v9.1 (32 : Int) (v9.1.length : Int)).bind fun v17 => some (.inl (v17, ()))) else (some (.inr v9))) else (some (.inr v9))) NF (v8, ())).bind fun v18 => some v18) else (some (v4, ()))) else (some (v4, ()))) else (some (v2, ()))) else (some (v2, ()))).bind fun v19 => some (.inl v19)) else ((idxL gv0 v1).bind fun v20 => (shrI v20 .u8 4).bind fun v21 => (idxL gv1 v21).bind fun v22 => bif (IntKind.i64.wrap (andI .u8 v20 7)) == 2 then (bif decide ((v0.1.length : Int) < 2) then (some (.inr (.inl ()))) else ((idxS v0.1 (1 : Int)).bind fun v23 => bif decide (v23 < v22.1) then (some (.inr (.inl ()))) else ((idxS v0.1 (1 : Int)).bind fun v24 => bif decide (v22.2.1 < v24) then (some (.inr (.inl ()))) else ((subS v0.1 (2 : Int) (v0.1.length : Int)).bind fun v25 => some (.inl (v25, ())))))) else (bif (IntKind.i64.wrap (andI .u8 v20 7)) == 3 then (bif decide ((v0.1.length : Int) < 3) then (some (.inr (.inl ()))) else ((idxS v0.1 (1 : Int)).bind fun v26 => bif decide (v26 < v22.1) then (some (.inr (.inl ()))) else ((idxS v0.1 (1 : Int)).bind fun v27 => bif decide (v22.2.1 < v27) then (some (.inr (.inl ()))) else ((idxS v0.1 (2 : Int)).bind fun v28 => bif decide (v28 < 128) then (some (.inr (.inl ()))) else ((idxS v0.1 (2 : Int)).bind fun v29 => bif decide (191 < v29) then (some (.inr (.inl ()))) else ((subS v0.1 (3 : Int) (v0.1.length : Int)).bind fun v30 => some (.inl (v30, ())))))))) else (bif (IntKind.i64.wrap (andI .u8 v20 7)) == 4 then (bif decide ((v0.1.length : Int) < 4) then (some (.inr (.inl ()))) else ((idxS v0.1 (1 : Int)).bind fun v31 => bif decide (v31 < v22.1) then (some (.inr (.inl ()))) else ((idxS v0.1 (1 : Int)).bind fun v32 => bif decide (v22.2.1 < v32) then (some (.inr (.inl ()))) else ((idxS v0.1 (2 : Int)).bind fun v33 => bif decide (v33 < 128) then (some (.inr (.inl ()))) else ((idxS v0.1 (2 : Int)).bind fun v34 => bif decide (191 < v34) then (some (.inr (.inl ()))) else ((idxS v0.1 (3 : Int)).bind fun v35 => bif decide (v35 < 128) then (some (.inr (.inl ()))) else ((idxS v0.1 (3 : Int)).bind fun v36 => bif decide (191 < v36) then (some (.inr (.inl ()))) else ((subS v0.1 (4 : Int) (v0.1.length : Int)).bind fun v37 => some (.inl (v37, ())))))))))) else (some (.inr (.inl ()))))))) else (some (.inr (.inr ())))) NF (a0, ())).bind fun v38 => sumK v38 (fun v39 => some (false, ())) (fun v40 => some (true, ()))
def eF_unicode_utf8_ValidString : VEnt := ⟨65, ⟨[.pv .str], []⟩, [⟨[.pv .bool], []⟩], fun q => F_unicode_utf8_ValidString q.1⟩
def aF_unicode_utf8_ValidString : Ann := .s .z (.s (.l ⟨mkT 169 0 [(0, .pv .str)], []⟩ [(.ret, ⟨mkT 169 0 [(2, .kb false)], []⟩), ((.exit 0), ⟨mkT 169 0 [], []⟩)] (.s .z (.s .z (.s (.s .z (.s (.s .z (.j [(.normal, ⟨mkT 169 0 [(0, .pv .str)], []⟩)] (.s .z (.s (.s .z (.s .z (.s (.s .z (.l ⟨mkT 169 0 [(0, .pv .str)], []⟩ [((.exit 2), ⟨mkT 169 0 [(0, .pv .str)], []⟩)] .z)) .z))) .z)) .z)) .z)) .z)))) .z)
theorem tF_unicode_utf8_ValidString : vfn ⟨Tryd.prog, gl0, EV20, PV20⟩ Tryd.f65 aF_unicode_utf8_ValidString eF_unicode_utf8_ValidString.ps eF_unicode_utf8_ValidString.rs = eF_unicode_utf8_ValidString.F := by kernel_rfl
def EV21 : List VEnt := eF_unicode_utf8_ValidString :: EV20
def ZV21 : List VEnt := ZV20
def KV21 : PureK := KV20
def NV21 : List FuncId := 65 :: NV20
def PV21 : List FuncId := PV20
theorem CV21 : Ch Tryd.prog gl0 Wa0 KV21 NV21 ZV21 EV21 := Ch.addG CV20 (by kernel_rfl) (by kernel_rfl) (by kernel_rfl) Tryd.func65 (by decide) tF_unicode_utf8_ValidString
def F_route_never (a0 : Int) : Option (Bool × Unit) :=
  (bif decide (a0 < 32) then (some (true, ())) else (bif a0 == 127 then (some (true, ())) else (some (a0 == 92, ())))).bind fun v0 => some v0
def eF_route_never : VEnt := ⟨66, ⟨[.pv (.int .i32)], []⟩, [⟨[.pv .bool], []⟩], fun q => F_route_never q.1⟩
def aF_route_never : Ann := .s .z (.j [(.normal, ⟨mkT 13 0 [(2, .pv .bool)], []⟩)] .z .z)
theorem tF_route_never : vfn ⟨Tryd.prog, [], ZV21, PV21⟩ Tryd.f66 aF_route_never eF_route_never.ps eF_route_never.rs = eF_route_never.F := by kernel_rfl
def EV22 : List VEnt := eF_route_never :: EV21
def ZV22 : List VEnt := eF_route_never :: ZV21
def KV22 : PureK := addK KV21 66 (kOf eF_route_never)
def NV22 : List FuncId := NV21
def PV22 : List FuncId := 66 :: PV21
theorem CV22 : Ch Tryd.prog gl0 Wa0 KV22 NV22 ZV22 EV22 := Ch.pure mixedV noGoroutineV CV21 (by kernel_rfl) (by kernel_rfl) (by kernel_rfl) Tryd.func66 (by decide) (by kernel_rfl) tF_route_never
def F_strings_indexFunc__route_never (a0 : (List UInt8)) (a1 : Bool) : Option (Int × Unit) :=
  (iter (fun v0 => bif decide (v0.2.1 < (v0.1.length : Int)) then ((F_route_never (oDecR v0.1 v0.2.1)).bind fun v1 => bif v1.1 == a1 then (some (.inr (.inl v0.2))) else (some (.inl (v0.1, (oDecN v0.1 v0.2.1, ()))))) else (some (.inr (.inr ())))) NF (a0, ((0 : Int), ()))).bind fun v2 => sumK v2 (fun v3 => some v3) (fun v4 => some (((-1) : Int), ()))
def eF_strings_indexFunc__route_never : VEnt := ⟨95, ⟨[.pv .str, .fn 66 (.nl) (.nl), .pv .bool], []⟩, [⟨[.pv (.int .i64)], []⟩], fun q => F_strings_indexFunc__route_never q.1 q.2.1⟩
def aF_strings_indexFunc__route_never : Ann := .s .z (.s (.s .z (.l ⟨mkT 21 0 [(1, .fn 66 (.nl) (.nl)), (10, .ptr 0 0)], [.sit]⟩ [(.ret, ⟨mkT 21 0 [(6, .pv (.int .i64))], []⟩), ((.exit 0), ⟨mkT 21 0 [], []⟩)] .z)) .z)
theorem tF_strings_indexFunc__route_never : vfn ⟨Tryd.prog, [], ZV22, PV22⟩ Tryd.f95 aF_strings_indexFunc__route_never eF_strings_indexFunc__route_never.ps eF_strings_indexFunc__route_never.rs = eF_strings_indexFunc__route_never.F := by kernel_rfl
def EV23 : List VEnt := eF_strings_indexFunc__route_never :: EV22
def ZV23 : List VEnt := eF_strings_indexFunc__route_never :: ZV22
def KV23 : PureK := KV22
def NV23 : List FuncId := 95 :: NV22
def PV23 : List FuncId := PV22
theorem CV23 : Ch Tryd.prog gl0 Wa0 KV23 NV23 ZV23 EV23 := Ch.add0 CV22 (by kernel_rfl) (by kernel_rfl) (by kernel_rfl) Tryd.func95 (by decide) tF_strings_indexFunc__route_never
def F_strings_IndexFunc__route_never (a0 : (List UInt8)) : Option (Int × Unit) :=
  (F_strings_indexFunc__route_never a0 true).bind fun v0 => some v0
def eF_strings_IndexFunc__route_never : VEnt := ⟨78, ⟨[.pv .str, .fn 66 (.nl) (.nl)], []⟩, [⟨[.pv (.int .i64)], []⟩], fun q => F_strings_IndexFunc__route_never q.1⟩
def aF_strings_IndexFunc__route_never : Ann := .z
theorem tF_strings_IndexFunc__route_never : vfn ⟨Tryd.prog, [], ZV23, PV23⟩ Tryd.f78 aF_strings_IndexFunc__route_never eF_strings_IndexFunc__route_never.ps eF_strings_IndexFunc__route_never.rs = eF_strings_IndexFunc__route_never.F := by kernel_rfl
def EV24 : List VEnt := eF_strings_IndexFunc__route_never :: EV23
def ZV24 : List VEnt := eF_strings_IndexFunc__route_never :: ZV23
def KV24 : PureK := KV23
def NV24 : List FuncId := 78 :: NV23
def PV24 : List FuncId := PV23
theorem CV24 : Ch Tryd.prog gl0 Wa0 KV24 NV24 ZV24 EV24 := Ch.add0 CV23 (by kernel_rfl) (by kernel_rfl) (by kernel_rfl) Tryd.func78 (by decide) tF_strings_IndexFunc__route_never
def F_strings_ContainsFunc__route_never (a0 : (List UInt8)) : Option (Bool × Unit) :=
  (F_strings_IndexFunc__route_never a0).bind fun v0 => some (decide (v0.1 ≥ 0), ())
def eF_strings_ContainsFunc__route_never : VEnt := ⟨51, ⟨[.pv .str, .fn 66 (.nl) (.nl)], []⟩, [⟨[.pv .bool], []⟩], fun q => F_strings_ContainsFunc__route_never q.1⟩
def aF_strings_ContainsFunc__route_never : Ann := .z
theorem tF_strings_ContainsFunc__route_never : vfn ⟨Tryd.prog, [], ZV24, PV24⟩ Tryd.f51 aF_strings_ContainsFunc__route_never eF_strings_ContainsFunc__route_never.ps eF_strings_ContainsFunc__route_never.rs = eF_strings_ContainsFunc__route_never.F := by kernel_rfl
def EV25 : List VEnt := eF_strings_ContainsFunc__route_never :: EV24
def ZV25 : List VEnt := eF_strings_ContainsFunc__route_never :: ZV24
def KV25 : PureK := KV24
def NV25 : List FuncId := 51 :: NV24
def PV25 : List FuncId := PV24
theorem CV25 : Ch Tryd.prog gl0 Wa0 KV25 NV25 ZV25 EV25 := Ch.add0 CV24 (by kernel_rfl) (by kernel_rfl) (by kernel_rfl) Tryd.func51 (by decide) tF_strings_ContainsFunc__route_never
def F_route_part (a0 : (List UInt8)) : Option (Bool × Unit) :=
  (bif !(a0 == ([] : (List UInt8))) then (bif decide ((a0.length : Int) ≤ 255) then (bif !(a0 == [46]) then (some (!(a0 == [46, 46]), ())) else (some (false, ()))) else (some (false, ()))) else (some (false, ()))).bind fun v0 => some v0
def eF_route_part : VEnt := ⟨68, ⟨[.pv .str], []⟩, [⟨[.pv .bool], []⟩], fun q => F_route_part q.1⟩
def aF_route_part : Ann := .s .z (.j [(.normal, ⟨mkT 18 0 [(2, .pv .bool)], []⟩)] .z .z)
theorem tF_route_part : vfn ⟨Tryd.prog, [], ZV25, PV25⟩ Tryd.f68 aF_route_part eF_route_part.ps eF_route_part.rs = eF_route_part.F := by kernel_rfl
def EV26 : List VEnt := eF_route_part :: EV25
def ZV26 : List VEnt := eF_route_part :: ZV25
def KV26 : PureK := addK KV25 68 (kOf eF_route_part)
def NV26 : List FuncId := NV25
def PV26 : List FuncId := 68 :: PV25
theorem CV26 : Ch Tryd.prog gl0 Wa0 KV26 NV26 ZV26 EV26 := Ch.pure mixedV noGoroutineV CV25 (by kernel_rfl) (by kernel_rfl) (by kernel_rfl) Tryd.func68 (by decide) (by kernel_rfl) tF_route_part
def F_route_Check_1 (a0 : (List UInt8)) : Option (Bool × Unit) :=
  (F_route_part a0).bind fun v0 => some (!v0.1, ())
def eF_route_Check_1 : VEnt := ⟨67, ⟨[.pv .str], []⟩, [⟨[.pv .bool], []⟩], fun q => F_route_Check_1 q.1⟩
def aF_route_Check_1 : Ann := .z
theorem tF_route_Check_1 : vfn ⟨Tryd.prog, [], ZV26, PV26⟩ Tryd.f67 aF_route_Check_1 eF_route_Check_1.ps eF_route_Check_1.rs = eF_route_Check_1.F := by kernel_rfl
def EV27 : List VEnt := eF_route_Check_1 :: EV26
def ZV27 : List VEnt := eF_route_Check_1 :: ZV26
def KV27 : PureK := addK KV26 67 (kOf eF_route_Check_1)
def NV27 : List FuncId := NV26
def PV27 : List FuncId := 67 :: PV26
theorem CV27 : Ch Tryd.prog gl0 Wa0 KV27 NV27 ZV27 EV27 := Ch.pure mixedV noGoroutineV CV26 (by kernel_rfl) (by kernel_rfl) (by kernel_rfl) Tryd.func67 (by decide) (by kernel_rfl) tF_route_Check_1
def F_slices_IndexFunc_string_string__route_Check_1 (a0 : (List (List UInt8))) : Option (Int × Unit) :=
  (iter (fun v0 => bif decide (v0.1 < (a0.length : Int)) then ((idxL a0 v0.1).bind fun v1 => (F_route_Check_1 v1).bind fun v2 => bif v2.1 then (some (.inr (.inl v0))) else (some (.inl (IntKind.i64.wrap (v0.1 + 1), ())))) else (some (.inr (.inr ())))) NF ((0 : Int), ())).bind fun v3 => sumK v3 (fun v4 => some v4) (fun v5 => some (((-1) : Int), ()))
def eF_slices_IndexFunc_string_string__route_Check_1 : VEnt := ⟨80, ⟨[.pv (.lst .str), .fn 67 (.nl) (.nl)], []⟩, [⟨[.pv (.int .i64)], []⟩], fun q => F_slices_IndexFunc_string_string__route_Check_1 q.1⟩
def aF_slices_IndexFunc_string_string__route_Check_1 : Ann := .s .z (.s (.s .z (.l ⟨mkT 19 0 [(1, .fn 67 (.nl) (.nl)), (8, .pv (.int .i64))], []⟩ [(.ret, ⟨mkT 19 0 [(4, .pv (.int .i64))], []⟩), ((.exit 0), ⟨mkT 19 0 [], []⟩)] .z)) .z)
theorem tF_slices_IndexFunc_string_string__route_Check_1 : vfn ⟨Tryd.prog, [], ZV27, PV27⟩ Tryd.f80 aF_slices_IndexFunc_string_string__route_Check_1 eF_slices_IndexFunc_string_string__route_Check_1.ps eF_slices_IndexFunc_string_string__route_Check_1.rs = eF_slices_IndexFunc_string_string__route_Check_1.F := by kernel_rfl
def EV28 : List VEnt := eF_slices_IndexFunc_string_string__route_Check_1 :: EV27
def ZV28 : List VEnt := eF_slices_IndexFunc_string_string__route_Check_1 :: ZV27
def KV28 : PureK := KV27
def NV28 : List FuncId := 80 :: NV27
def PV28 : List FuncId := PV27
theorem CV28 : Ch Tryd.prog gl0 Wa0 KV28 NV28 ZV28 EV28 := Ch.add0 CV27 (by kernel_rfl) (by kernel_rfl) (by kernel_rfl) Tryd.func80 (by decide) tF_slices_IndexFunc_string_string__route_Check_1
def F_slices_ContainsFunc_string_string__route_Check_1 (a0 : (List (List UInt8))) : Option (Bool × Unit) :=
  (F_slices_IndexFunc_string_string__route_Check_1 a0).bind fun v0 => some (decide (v0.1 ≥ 0), ())
def eF_slices_ContainsFunc_string_string__route_Check_1 : VEnt := ⟨55, ⟨[.pv (.lst .str), .fn 67 (.nl) (.nl)], []⟩, [⟨[.pv .bool], []⟩], fun q => F_slices_ContainsFunc_string_string__route_Check_1 q.1⟩
def aF_slices_ContainsFunc_string_string__route_Check_1 : Ann := .z
theorem tF_slices_ContainsFunc_string_string__route_Check_1 : vfn ⟨Tryd.prog, [], ZV28, PV28⟩ Tryd.f55 aF_slices_ContainsFunc_string_string__route_Check_1 eF_slices_ContainsFunc_string_string__route_Check_1.ps eF_slices_ContainsFunc_string_string__route_Check_1.rs = eF_slices_ContainsFunc_string_string__route_Check_1.F := by kernel_rfl
def EV29 : List VEnt := eF_slices_ContainsFunc_string_string__route_Check_1 :: EV28
def ZV29 : List VEnt := eF_slices_ContainsFunc_string_string__route_Check_1 :: ZV28
def KV29 : PureK := KV28
def NV29 : List FuncId := 55 :: NV28
def PV29 : List FuncId := PV28
theorem CV29 : Ch Tryd.prog gl0 Wa0 KV29 NV29 ZV29 EV29 := Ch.add0 CV28 (by kernel_rfl) (by kernel_rfl) (by kernel_rfl) Tryd.func55 (by decide) tF_slices_ContainsFunc_string_string__route_Check_1
def F_route_Check (a0 : (List UInt8)) : Option (Int × Unit) :=
  bif a0 == ([] : (List UInt8)) then (some ((5 : Int), ())) else (bif decide ((a0.length : Int) > 1024) then (some ((5 : Int), ())) else ((F_unicode_utf8_ValidString a0).bind fun v0 => bif !v0.1 then (some ((5 : Int), ())) else ((F_strings_ContainsFunc__route_never a0).bind fun v1 => bif v1.1 then (some ((5 : Int), ())) else ((F_route_Parts a0).bind fun v2 => bif decide ((v2.1.length : Int) > 32) then (some ((5 : Int), ())) else ((F_slices_ContainsFunc_string_string__route_Check_1 v2.1).bind fun v3 => bif v3.1 then (some ((5 : Int), ())) else (some ((0 : Int), ())))))))
def eF_route_Check : VEnt := ⟨25, ⟨[.pv .str], []⟩, [⟨[.pv (.int .i64)], []⟩], fun q => F_route_Check q.1⟩
def aF_route_Check : Ann := .z
theorem tF_route_Check : vfn ⟨Tryd.prog, gl0, EV29, PV29⟩ Tryd.f25 aF_route_Check eF_route_Check.ps eF_route_Check.rs = eF_route_Check.F := by kernel_rfl
def EV30 : List VEnt := eF_route_Check :: EV29
def ZV30 : List VEnt := ZV29
def KV30 : PureK := KV29
def NV30 : List FuncId := 25 :: NV29
def PV30 : List FuncId := PV29
theorem CV30 : Ch Tryd.prog gl0 Wa0 KV30 NV30 ZV30 EV30 := Ch.addG CV29 (by kernel_rfl) (by kernel_rfl) (by kernel_rfl) Tryd.func25 (by decide) tF_route_Check
def F_internal_stringslite_HasSuffix (a0 : (List UInt8)) (a1 : (List UInt8)) : Option (Bool × Unit) :=
  (bif decide ((a0.length : Int) ≥ (a1.length : Int)) then ((subS a0 (IntKind.i64.wrap ((a0.length : Int) - (a1.length : Int))) (a0.length : Int)).bind fun v0 => some (v0 == a1, ())) else (some (false, ()))).bind fun v1 => some v1
def eF_internal_stringslite_HasSuffix : VEnt := ⟨76, ⟨[.pv .str, .pv .str], []⟩, [⟨[.pv .bool], []⟩], fun q => F_internal_stringslite_HasSuffix q.1 q.2.1⟩
def aF_internal_stringslite_HasSuffix : Ann := .s .z (.j [(.normal, ⟨mkT 21 0 [(4, .pv .bool)], []⟩)] .z .z)
theorem tF_internal_stringslite_HasSuffix : vfn ⟨Tryd.prog, [], ZV30, PV30⟩ Tryd.f76 aF_internal_stringslite_HasSuffix eF_internal_stringslite_HasSuffix.ps eF_internal_stringslite_HasSuffix.rs = eF_internal_stringslite_HasSuffix.F := by kernel_rfl
def EV31 : List VEnt := eF_internal_stringslite_HasSuffix :: EV30
def ZV31 : List VEnt := eF_internal_stringslite_HasSuffix :: ZV30
def KV31 : PureK := addK KV30 76 (kOf eF_internal_stringslite_HasSuffix)
def NV31 : List FuncId := NV30
def PV31 : List FuncId := 76 :: PV30
theorem CV31 : Ch Tryd.prog gl0 Wa0 KV31 NV31 ZV31 EV31 := Ch.pure mixedV noGoroutineV CV30 (by kernel_rfl) (by kernel_rfl) (by kernel_rfl) Tryd.func76 (by decide) (by kernel_rfl) tF_internal_stringslite_HasSuffix
def F_strings_HasSuffix (a0 : (List UInt8)) (a1 : (List UInt8)) : Option (Bool × Unit) :=
  (F_internal_stringslite_HasSuffix a0 a1).bind fun v0 => some v0
def eF_strings_HasSuffix : VEnt := ⟨48, ⟨[.pv .str, .pv .str], []⟩, [⟨[.pv .bool], []⟩], fun q => F_strings_HasSuffix q.1 q.2.1⟩
def aF_strings_HasSuffix : Ann := .z
theorem tF_strings_HasSuffix : vfn ⟨Tryd.prog, [], ZV31, PV31⟩ Tryd.f48 aF_strings_HasSuffix eF_strings_HasSuffix.ps eF_strings_HasSuffix.rs = eF_strings_HasSuffix.F := by kernel_rfl
def EV32 : List VEnt := eF_strings_HasSuffix :: EV31
def ZV32 : List VEnt := eF_strings_HasSuffix :: ZV31
def KV32 : PureK := addK KV31 48 (kOf eF_strings_HasSuffix)
def NV32 : List FuncId := NV31
def PV32 : List FuncId := 48 :: PV31
theorem CV32 : Ch Tryd.prog gl0 Wa0 KV32 NV32 ZV32 EV32 := Ch.pure mixedV noGoroutineV CV31 (by kernel_rfl) (by kernel_rfl) (by kernel_rfl) Tryd.func48 (by decide) (by kernel_rfl) tF_strings_HasSuffix
def F_route_Normal (a0 : (List UInt8)) : Option ((List UInt8) × (Bool × (Int × Unit))) :=
  (F_strings_HasPrefix a0 ([47] : List UInt8)).bind fun v0 => bif v0.1 then (some ((([] : (List UInt8)) : List UInt8), (false, ((5 : Int), ())))) else ((F_route_Parts a0).bind fun v1 => (F_slices_DeleteFunc_string_string__route_Normal_1 v1.1).bind fun v2 => (F_strings_Join (oTD v2.2.2.1 v2.1 v2.2.1) ([47] : List UInt8)).bind fun v3 => (F_route_Check v3.1).bind fun v4 => bif v4.1 != 0 then (some ((([] : (List UInt8)) : List UInt8), (false, v4))) else ((F_strings_HasSuffix a0 ([47] : List UInt8)).bind fun v5 => some (v3.1, (v5.1, ((0 : Int), ())))))
def eF_route_Normal : VEnt := ⟨23, ⟨[.pv .str], []⟩, [⟨[.tup (.cn (.pv .str) (.cn (.pv .bool) (.cn (.pv (.int .i64)) (.nl))))], []⟩], fun q => F_route_Normal q.1⟩
def aF_route_Normal : Ann := .z
theorem tF_route_Normal : vfn ⟨Tryd.prog, gl0, EV32, PV32⟩ Tryd.f23 aF_route_Normal eF_route_Normal.ps eF_route_Normal.rs = eF_route_Normal.F := by kernel_rfl
def EV33 : List VEnt := eF_route_Normal :: EV32
def ZV33 : List VEnt := ZV32
def KV33 : PureK := KV32
def NV33 : List FuncId := 23 :: NV32
def PV33 : List FuncId := PV32
theorem CV33 : Ch Tryd.prog gl0 Wa0 KV33 NV33 ZV33 EV33 := Ch.addG CV32 (by kernel_rfl) (by kernel_rfl) (by kernel_rfl) Tryd.func23 (by decide) tF_route_Normal
def F_internal_bytealg_LastIndexByteString (a0 : (List UInt8)) (a1 : Int) : Option (Int × Unit) :=
  (iter (fun v0 => bif decide (v0.1 ≥ 0) then ((idxS a0 v0.1).bind fun v1 => bif v1 == a1 then (some (.inr (.inl v0))) else (some (.inl (IntKind.i64.wrap (v0.1 - 1), ())))) else (some (.inr (.inr ())))) NF (IntKind.i64.wrap ((a0.length : Int) - 1), ())).bind fun v2 => sumK v2 (fun v3 => some v3) (fun v4 => some (((-1) : Int), ()))
def eF_internal_bytealg_LastIndexByteString : VEnt := ⟨87, ⟨[.pv .str, .pv (.int .u8)], []⟩, [⟨[.pv (.int .i64)], []⟩], fun q => F_internal_bytealg_LastIndexByteString q.1 q.2.1⟩
def aF_internal_bytealg_LastIndexByteString : Ann := .s .z (.s (.s .z (.l ⟨mkT 19 0 [(5, .pv (.int .i64))], []⟩ [(.ret, ⟨mkT 19 0 [(4, .pv (.int .i64))], []⟩), ((.exit 0), ⟨mkT 19 0 [], []⟩)] .z)) .z)
theorem tF_internal_bytealg_LastIndexByteString : vfn ⟨Tryd.prog, [], ZV33, PV33⟩ Tryd.f87 aF_internal_bytealg_LastIndexByteString eF_internal_bytealg_LastIndexByteString.ps eF_internal_bytealg_LastIndexByteString.rs = eF_internal_bytealg_LastIndexByteString.F := by kernel_rfl
def EV34 : List VEnt := eF_internal_bytealg_LastIndexByteString :: EV33
def ZV34 : List VEnt := eF_internal_bytealg_LastIndexByteString :: ZV33
def KV34 : PureK := addK KV33 87 (kOf eF_internal_bytealg_LastIndexByteString)
def NV34 : List FuncId := NV33
def PV34 : List FuncId := 87 :: PV33
theorem CV34 : Ch Tryd.prog gl0 Wa0 KV34 NV34 ZV34 EV34 := Ch.pure mixedV noGoroutineV CV33 (by kernel_rfl) (by kernel_rfl) (by kernel_rfl) Tryd.func87 (by decide) (by kernel_rfl) tF_internal_bytealg_LastIndexByteString
def F_internal_bytealg_hashStrRev_string (a0 : (List UInt8)) : Option (Int × (Int × Unit)) :=
  (iter (fun v0 => bif decide (v0.2.1 ≥ 0) then ((idxS a0 v0.2.1).bind fun v1 => some (.inl (IntKind.u32.wrap ((IntKind.u32.wrap (v0.1 * 16777619)) + (IntKind.u32.wrap v1)), (IntKind.i64.wrap (v0.2.1 - 1), ())))) else (some (.inr (v0.1, ())))) NF ((0 : Int), (IntKind.i64.wrap ((a0.length : Int) - 1), ()))).bind fun v2 => (iter (fun v3 => bif decide (v3.2.2.1 > 0) then ((bif (andI .i64 v3.2.2.1 1) != 0 then (some (IntKind.u32.wrap (v3.1 * v3.2.1), ())) else (some (v3.1, ()))).bind fun v4 => (shrI v3.2.2.1 .i64 1).bind fun v5 => some (.inl (v4.1, (IntKind.u32.wrap (v3.2.1 * v3.2.1), (v5, ()))))) else (some (.inr (v3.1, ())))) NF ((1 : Int), ((16777619 : Int), ((a0.length : Int), ())))).bind fun v6 => some (v2.1, v6)
def eF_internal_bytealg_hashStrRev_string : VEnt := ⟨98, ⟨[.pv .str], []⟩, [⟨[.tup (.cn (.pv (.int .u32)) (.cn (.pv (.int .u32)) (.nl)))], []⟩], fun q => F_internal_bytealg_hashStrRev_string q.1⟩
def aF_internal_bytealg_hashStrRev_string : Ann := .s .z (.s .z (.s (.s .z (.l ⟨mkT 40 0 [(4, .pv (.int .u32)), (5, .pv (.int .i64))], []⟩ [((.exit 0), ⟨mkT 40 0 [(4, .pv (.int .u32))], []⟩)] .z)) (.s .z (.s (.s .z (.l ⟨mkT 40 0 [(6, .pv (.int .u32)), (7, .pv (.int .u32)), (8, .pv (.int .i64))], []⟩ [((.exit 2), ⟨mkT 40 0 [(6, .pv (.int .u32))], []⟩)] (.s .z (.s (.j [(.normal, ⟨mkT 40 0 [(6, .pv (.int .u32))], []⟩)] .z .z) .z)))) .z))))
theorem tF_internal_bytealg_hashStrRev_string : vfn ⟨Tryd.prog, [], ZV34, PV34⟩ Tryd.f98 aF_internal_bytealg_hashStrRev_string eF_internal_bytealg_hashStrRev_string.ps eF_internal_bytealg_hashStrRev_string.rs = eF_internal_bytealg_hashStrRev_string.F := by kernel_rfl
def EV35 : List VEnt := eF_internal_bytealg_hashStrRev_string :: EV34
def ZV35 : List VEnt := eF_internal_bytealg_hashStrRev_string :: ZV34
def KV35 : PureK := addK KV34 98 (kOf eF_internal_bytealg_hashStrRev_string)
def NV35 : List FuncId := NV34
def PV35 : List FuncId := 98 :: PV34
theorem CV35 : Ch Tryd.prog gl0 Wa0 KV35 NV35 ZV35 EV35 := Ch.pure mixedV noGoroutineV CV34 (by kernel_rfl) (by kernel_rfl) (by kernel_rfl) Tryd.func98 (by decide) (by kernel_rfl) tF_internal_bytealg_hashStrRev_string
def F_internal_bytealg_LastIndexRabinKarp_string (a0 : (List UInt8)) (a1 : (List UInt8)) : Option (Int × Unit) :=
  (F_internal_bytealg_hashStrRev_string a1).bind fun v0 => (iter (fun v1 => bif decide (v1.2.1 ≥ (IntKind.i64.wrap ((a0.length : Int) - (a1.length : Int)))) then ((idxS a0 v1.2.1).bind fun v2 => some (.inl (IntKind.u32.wrap ((IntKind.u32.wrap (v1.1 * 16777619)) + (IntKind.u32.wrap v2)), (IntKind.i64.wrap (v1.2.1 - 1), ())))) else (some (.inr (v1.1, ())))) NF ((0 : Int), (IntKind.i64.wrap ((a0.length : Int) - 1), ()))).bind fun v3 => (bif v3.1 == v0.1 then ((subS a0 (IntKind.i64.wrap ((a0.length : Int) - (a1.length : Int))) (a0.length : Int)).bind fun v4 => bif v4 == a1 then (some (.inl (IntKind.i64.wrap ((a0.length : Int) - (a1.length : Int)), ()))) else (some (.inr ()))) else (some (.inr ()))).bind fun v5 => sumK v5 (fun v6 => some v6) (fun v7 => (iter (fun v8 => bif decide (v8.2.1 ≥ 0) then (((idxS a0 v8.2.1).bind fun v9 => (idxS a0 (IntKind.i64.wrap (v8.2.1 + (a1.length : Int)))).bind fun v10 => bif (IntKind.u32.wrap ((IntKind.u32.wrap ((IntKind.u32.wrap (v8.1 * 16777619)) + (IntKind.u32.wrap v9))) - (IntKind.u32.wrap (v0.2.1 * (IntKind.u32.wrap v10))))) == v0.1 then ((subS a0 v8.2.1 (IntKind.i64.wrap (v8.2.1 + (a1.length : Int)))).bind fun v11 => bif v11 == a1 then (some (.inl v8.2)) else (some (.inr (IntKind.u32.wrap ((IntKind.u32.wrap ((IntKind.u32.wrap (v8.1 * 16777619)) + (IntKind.u32.wrap v9))) - (IntKind.u32.wrap (v0.2.1 * (IntKind.u32.wrap v10)))), ())))) else (some (.inr (IntKind.u32.wrap ((IntKind.u32.wrap ((IntKind.u32.wrap (v8.1 * 16777619)) + (IntKind.u32.wrap v9))) - (IntKind.u32.wrap (v0.2.1 * (IntKind.u32.wrap v10)))), ())))).bind fun v12 => sumK v12 (fun v13 => some (.inr (.inl v13))) (fun v14 => some (.inl (v14.1, (IntKind.i64.wrap (v8.2.1 - 1), ()))))) else (some (.inr (.inr ())))) NF (v3.1, (IntKind.i64.wrap ((IntKind.i64.wrap ((a0.length : Int) - (a1.length : Int))) - 1), ()))).bind fun v15 => sumK v15 (fun v16 => some v16) (fun v17 => some (((-1) : Int), ())))
def eF_internal_bytealg_LastIndexRabinKarp_string : VEnt := ⟨88, ⟨[.pv .str, .pv .str], []⟩, [⟨[.pv (.int .i64)], []⟩], fun q => F_internal_bytealg_LastIndexRabinKarp_string q.1 q.2.1⟩
def aF_internal_bytealg_LastIndexRabinKarp_string : Ann := .s .z (.s .z (.s .z (.s .z (.s .z (.s (.s .z (.l ⟨mkT 87 0 [(9, .pv (.int .u32)), (10, .pv (.int .i64))], []⟩ [((.exit 0), ⟨mkT 87 0 [(9, .pv (.int .u32))], []⟩)] .z)) (.j [(.ret, ⟨mkT 87 0 [(4, .pv (.int .i64))], []⟩), (.normal, ⟨mkT 87 0 [], []⟩)] .z (.s (.s .z (.l ⟨mkT 87 0 [(9, .pv (.int .u32)), (11, .pv (.int .i64))], []⟩ [(.ret, ⟨mkT 87 0 [(4, .pv (.int .i64))], []⟩), ((.exit 2), ⟨mkT 87 0 [], []⟩)] (.s .z (.j [(.ret, ⟨mkT 87 0 [(4, .pv (.int .i64))], []⟩), (.normal, ⟨mkT 87 0 [(9, .pv (.int .u32))], []⟩)] .z .z)))) .z)))))))
theorem tF_internal_bytealg_LastIndexRabinKarp_string : vfn ⟨Tryd.prog, [], ZV35, PV35⟩ Tryd.f88 aF_internal_bytealg_LastIndexRabinKarp_string eF_internal_bytealg_LastIndexRabinKarp_string.ps eF_internal_bytealg_LastIndexRabinKarp_string.rs = eF_internal_bytealg_LastIndexRabinKarp_string.F := by kernel_rfl
def EV36 : List VEnt := eF_internal_bytealg_LastIndexRabinKarp_string :: EV35
def ZV36 : List VEnt := eF_internal_bytealg_LastIndexRabinKarp_string :: ZV35
def KV36 : PureK := addK KV35 88 (kOf eF_internal_bytealg_LastIndexRabinKarp_string)
def NV36 : List FuncId := NV35
def PV36 : List FuncId := 88 :: PV35
theorem CV36 : Ch Tryd.prog gl0 Wa0 KV36 NV36 ZV36 EV36 := Ch.pure mixedV noGoroutineV CV35 (by kernel_rfl) (by kernel_rfl) (by kernel_rfl) Tryd.func88 (by decide) (by kernel_rfl) tF_internal_bytealg_LastIndexRabinKarp_string
def F_strings_LastIndex (a0 : (List UInt8)) (a1 : (List UInt8)) : Option (Int × Unit) :=
  bif (a1.length : Int) == 0 then (some ((a0.length : Int), ())) else (bif (a1.length : Int) == 1 then ((idxS a1 (0 : Int)).bind fun v0 => (F_internal_bytealg_LastIndexByteString a0 v0).bind fun v1 => some v1) else (bif (a1.length : Int) == (a0.length : Int) then (bif a1 == a0 then (some ((0 : Int), ())) else (some (((-1) : Int), ()))) else (bif decide ((a1.length : Int) > (a0.length : Int)) then (some (((-1) : Int), ())) else ((F_internal_bytealg_LastIndexRabinKarp_string a0 a1).bind fun v2 => some v2))))
def eF_strings_LastIndex : VEnt := ⟨70, ⟨[.pv .str, .pv .str], []⟩, [⟨[.pv (.int .i64)], []⟩], fun q => F_strings_LastIndex q.1 q.2.1⟩
def aF_strings_LastIndex : Ann := .z
theorem tF_strings_LastIndex : vfn ⟨Tryd.prog, [], ZV36, PV36⟩ Tryd.f70 aF_strings_LastIndex eF_strings_LastIndex.ps eF_strings_LastIndex.rs = eF_strings_LastIndex.F := by kernel_rfl
def EV37 : List VEnt := eF_strings_LastIndex :: EV36
def ZV37 : List VEnt := eF_strings_LastIndex :: ZV36
def KV37 : PureK := addK KV36 70 (kOf eF_strings_LastIndex)
def NV37 : List FuncId := NV36
def PV37 : List FuncId := 70 :: PV36
theorem CV37 : Ch Tryd.prog gl0 Wa0 KV37 NV37 ZV37 EV37 := Ch.pure mixedV noGoroutineV CV36 (by kernel_rfl) (by kernel_rfl) (by kernel_rfl) Tryd.func70 (by decide) (by kernel_rfl) tF_strings_LastIndex
def F_route_Parent (a0 : (List UInt8)) : Option ((List UInt8) × (Bool × Unit)) :=
  (F_strings_LastIndex a0 ([47] : List UInt8)).bind fun v0 => bif decide (v0.1 < 0) then (some ((([] : (List UInt8)) : List UInt8), (false, ()))) else ((subS a0 (0 : Int) v0.1).bind fun v1 => some (v1, (true, ())))
def eF_route_Parent : VEnt := ⟨27, ⟨[.pv .str], []⟩, [⟨[.tup (.cn (.pv .str) (.cn (.pv .bool) (.nl)))], []⟩], fun q => F_route_Parent q.1⟩
def aF_route_Parent : Ann := .z
theorem tF_route_Parent : vfn ⟨Tryd.prog, [], ZV37, PV37⟩ Tryd.f27 aF_route_Parent eF_route_Parent.ps eF_route_Parent.rs = eF_route_Parent.F := by kernel_rfl
def EV38 : List VEnt := eF_route_Parent :: EV37
def ZV38 : List VEnt := eF_route_Parent :: ZV37
def KV38 : PureK := addK KV37 27 (kOf eF_route_Parent)
def NV38 : List FuncId := NV37
def PV38 : List FuncId := 27 :: PV37
theorem CV38 : Ch Tryd.prog gl0 Wa0 KV38 NV38 ZV38 EV38 := Ch.pure mixedV noGoroutineV CV37 (by kernel_rfl) (by kernel_rfl) (by kernel_rfl) Tryd.func27 (by decide) (by kernel_rfl) tF_route_Parent
def F_route_Base (a0 : (List UInt8)) : Option ((List UInt8) × Unit) :=
  (F_strings_LastIndex a0 ([47] : List UInt8)).bind fun v0 => (subS a0 (IntKind.i64.wrap (v0.1 + 1)) (a0.length : Int)).bind fun v1 => some (v1, ())
def eF_route_Base : VEnt := ⟨32, ⟨[.pv .str], []⟩, [⟨[.pv .str], []⟩], fun q => F_route_Base q.1⟩
def aF_route_Base : Ann := .z
theorem tF_route_Base : vfn ⟨Tryd.prog, [], ZV38, PV38⟩ Tryd.f32 aF_route_Base eF_route_Base.ps eF_route_Base.rs = eF_route_Base.F := by kernel_rfl
def EV39 : List VEnt := eF_route_Base :: EV38
def ZV39 : List VEnt := eF_route_Base :: ZV38
def KV39 : PureK := addK KV38 32 (kOf eF_route_Base)
def NV39 : List FuncId := NV38
def PV39 : List FuncId := 32 :: PV38
theorem CV39 : Ch Tryd.prog gl0 Wa0 KV39 NV39 ZV39 EV39 := Ch.pure mixedV noGoroutineV CV38 (by kernel_rfl) (by kernel_rfl) (by kernel_rfl) Tryd.func32 (by decide) (by kernel_rfl) tF_route_Base
def F_route_Under (a0 : (List UInt8)) (a1 : (List UInt8)) : Option (Bool × Unit) :=
  bif a1 == ([] : (List UInt8)) then (some (!(a0 == ([] : (List UInt8))), ())) else ((cat a1 ([47] : List UInt8)).bind fun v0 => (F_strings_HasPrefix a0 v0).bind fun v1 => some v1)
def eF_route_Under : VEnt := ⟨36, ⟨[.pv .str, .pv .str], []⟩, [⟨[.pv .bool], []⟩], fun q => F_route_Under q.1 q.2.1⟩
def aF_route_Under : Ann := .z
theorem tF_route_Under : vfn ⟨Tryd.prog, [], ZV39, PV39⟩ Tryd.f36 aF_route_Under eF_route_Under.ps eF_route_Under.rs = eF_route_Under.F := by kernel_rfl
def EV40 : List VEnt := eF_route_Under :: EV39
def ZV40 : List VEnt := eF_route_Under :: ZV39
def KV40 : PureK := addK KV39 36 (kOf eF_route_Under)
def NV40 : List FuncId := NV39
def PV40 : List FuncId := 36 :: PV39
theorem CV40 : Ch Tryd.prog gl0 Wa0 KV40 NV40 ZV40 EV40 := Ch.pure mixedV noGoroutineV CV39 (by kernel_rfl) (by kernel_rfl) (by kernel_rfl) Tryd.func36 (by decide) (by kernel_rfl) tF_route_Under
def F_cmp_isNaN_string (a0 : (List UInt8)) : Option (Bool × Unit) :=
  some (!(a0 == a0), ())
def eF_cmp_isNaN_string : VEnt := ⟨102, ⟨[.pv .str], []⟩, [⟨[.pv .bool], []⟩], fun q => F_cmp_isNaN_string q.1⟩
def aF_cmp_isNaN_string : Ann := .z
theorem tF_cmp_isNaN_string : vfn ⟨Tryd.prog, [], ZV40, PV40⟩ Tryd.f102 aF_cmp_isNaN_string eF_cmp_isNaN_string.ps eF_cmp_isNaN_string.rs = eF_cmp_isNaN_string.F := by kernel_rfl
def EV41 : List VEnt := eF_cmp_isNaN_string :: EV40
def ZV41 : List VEnt := eF_cmp_isNaN_string :: ZV40
def KV41 : PureK := addK KV40 102 (kOf eF_cmp_isNaN_string)
def NV41 : List FuncId := NV40
def PV41 : List FuncId := 102 :: PV40
theorem CV41 : Ch Tryd.prog gl0 Wa0 KV41 NV41 ZV41 EV41 := Ch.pure mixedV noGoroutineV CV40 (by kernel_rfl) (by kernel_rfl) (by kernel_rfl) Tryd.func102 (by decide) (by kernel_rfl) tF_cmp_isNaN_string
def F_cmp_Compare_string (a0 : (List UInt8)) (a1 : (List UInt8)) : Option (Int × Unit) :=
  (F_cmp_isNaN_string a0).bind fun v0 => (F_cmp_isNaN_string a1).bind fun v1 => bif v0.1 then (bif v1.1 then (some ((0 : Int), ())) else (some (((-1) : Int), ()))) else (bif v1.1 then (some ((1 : Int), ())) else (bif Op.bytesLess a0 a1 then (some (((-1) : Int), ())) else (bif !((Op.bytesLess a0 a1) || (a0 == a1)) then (some ((1 : Int), ())) else (some ((0 : Int), ())))))
def eF_cmp_Compare_string : VEnt := ⟨90, ⟨[.pv .str, .pv .str], []⟩, [⟨[.pv (.int .i64)], []⟩], fun q => F_cmp_Compare_string q.1 q.2.1⟩
def aF_cmp_Compare_string : Ann := .z
theorem tF_cmp_Compare_string : vfn ⟨Tryd.prog, [], ZV41, PV41⟩ Tryd.f90 aF_cmp_Compare_string eF_cmp_Compare_string.ps eF_cmp_Compare_string.rs = eF_cmp_Compare_string.F := by kernel_rfl
def EV42 : List VEnt := eF_cmp_Compare_string :: EV41
def ZV42 : List VEnt := eF_cmp_Compare_string :: ZV41
def KV42 : PureK := addK KV41 90 (kOf eF_cmp_Compare_string)
def NV42 : List FuncId := NV41
def PV42 : List FuncId := 90 :: PV41
theorem CV42 : Ch Tryd.prog gl0 Wa0 KV42 NV42 ZV42 EV42 := Ch.pure mixedV noGoroutineV CV41 (by kernel_rfl) (by kernel_rfl) (by kernel_rfl) Tryd.func90 (by decide) (by kernel_rfl) tF_cmp_Compare_string
def F_slices_Compare_string_string (a0 : (List (List UInt8))) (a1 : (List (List UInt8))) : Option (Int × Unit) :=
  (iter (fun v0 => bif decide (v0.1 < (a0.length : Int)) then ((idxL a0 v0.1).bind fun v1 => bif decide (v0.1 ≥ (a1.length : Int)) then (some (.inr (.inl ((1 : Int), ())))) else ((idxL a1 v0.1).bind fun v2 => (F_cmp_Compare_string v1 v2).bind fun v3 => bif v3.1 != 0 then (some (.inr (.inl v3))) else (some (.inl (IntKind.i64.wrap (v0.1 + 1), ()))))) else (some (.inr (.inr ())))) NF ((0 : Int), ())).bind fun v4 => sumK v4 (fun v5 => some v5) (fun v6 => bif decide ((a0.length : Int) < (a1.length : Int)) then (some (((-1) : Int), ())) else (some ((0 : Int), ())))
def eF_slices_Compare_string_string : VEnt := ⟨72, ⟨[.pv (.lst .str), .pv (.lst .str)], []⟩, [⟨[.pv (.int .i64)], []⟩], fun q => F_slices_Compare_string_string q.1 q.2.1⟩
def aF_slices_Compare_string_string : Ann := .s .z (.s (.s .z (.l ⟨mkT 36 0 [(11, .pv (.int .i64))], []⟩ [(.ret, ⟨mkT 36 0 [(4, .pv (.int .i64))], []⟩), ((.exit 0), ⟨mkT 36 0 [], []⟩)] .z)) .z)
theorem tF_slices_Compare_string_string : vfn ⟨Tryd.prog, [], ZV42, PV42⟩ Tryd.f72 aF_slices_Compare_string_string eF_slices_Compare_string_string.ps eF_slices_Compare_string_string.rs = eF_slices_Compare_string_string.F := by kernel_rfl
def EV43 : List VEnt := eF_slices_Compare_string_string :: EV42
def ZV43 : List VEnt := eF_slices_Compare_string_string :: ZV42
def KV43 : PureK := KV42
def NV43 : List FuncId := 72 :: NV42
def PV43 : List FuncId := PV42
theorem CV43 : Ch Tryd.prog gl0 Wa0 KV43 NV43 ZV43 EV43 := Ch.add0 CV42 (by kernel_rfl) (by kernel_rfl) (by kernel_rfl) Tryd.func72 (by decide) tF_slices_Compare_string_string
def F_route_Compare (a0 : (List UInt8)) (a1 : (List UInt8)) : Option (Int × Unit) :=
  (F_route_Parts a0).bind fun v0 => (F_route_Parts a1).bind fun v1 => (F_slices_Compare_string_string v0.1 v1.1).bind fun v2 => some v2
def eF_route_Compare : VEnt := ⟨38, ⟨[.pv .str, .pv .str], []⟩, [⟨[.pv (.int .i64)], []⟩], fun q => F_route_Compare q.1 q.2.1⟩
def aF_route_Compare : Ann := .z
theorem tF_route_Compare : vfn ⟨Tryd.prog, gl0, EV43, PV43⟩ Tryd.f38 aF_route_Compare eF_route_Compare.ps eF_route_Compare.rs = eF_route_Compare.F := by kernel_rfl
def EV44 : List VEnt := eF_route_Compare :: EV43
def ZV44 : List VEnt := ZV43
def KV44 : PureK := KV43
def NV44 : List FuncId := 38 :: NV43
def PV44 : List FuncId := PV43
theorem CV44 : Ch Tryd.prog gl0 Wa0 KV44 NV44 ZV44 EV44 := Ch.addG CV43 (by kernel_rfl) (by kernel_rfl) (by kernel_rfl) Tryd.func38 (by decide) tF_route_Compare
def F_route_Join (a0 : (List UInt8)) (a1 : (List UInt8)) : Option ((List UInt8) × Unit) :=
  bif a0 == ([] : (List UInt8)) then (some (a1, ())) else ((cat a0 ([47] : List UInt8)).bind fun v0 => (cat v0 a1).bind fun v1 => some (v1, ()))
def eF_route_Join : VEnt := ⟨34, ⟨[.pv .str, .pv .str], []⟩, [⟨[.pv .str], []⟩], fun q => F_route_Join q.1 q.2.1⟩
def aF_route_Join : Ann := .z
theorem tF_route_Join : vfn ⟨Tryd.prog, [], ZV44, PV44⟩ Tryd.f34 aF_route_Join eF_route_Join.ps eF_route_Join.rs = eF_route_Join.F := by kernel_rfl
def EV45 : List VEnt := eF_route_Join :: EV44
def ZV45 : List VEnt := eF_route_Join :: ZV44
def KV45 : PureK := addK KV44 34 (kOf eF_route_Join)
def NV45 : List FuncId := NV44
def PV45 : List FuncId := 34 :: PV44
theorem CV45 : Ch Tryd.prog gl0 Wa0 KV45 NV45 ZV45 EV45 := Ch.pure mixedV noGoroutineV CV44 (by kernel_rfl) (by kernel_rfl) (by kernel_rfl) Tryd.func34 (by decide) (by kernel_rfl) tF_route_Join
def F_law13_awake : Option (Bool × Unit) :=
  (F_route_Normal ([97, 47, 46, 47, 98, 47, 47] : List UInt8)).bind fun v0 => (F_route_Parent ([97, 47, 98] : List UInt8)).bind fun v1 => (bif v0.1 == [97, 47, 98] then (bif v0.2.1 then (bif v0.2.2.1 == 0 then ((F_route_Check ([46, 46, 47, 97] : List UInt8)).bind fun v2 => bif v2.1 == 5 then ((F_route_Check ([97] : List UInt8)).bind fun v3 => bif v3.1 == 0 then (bif v1.1 == [97] then (bif v1.2.1 then ((F_route_Base ([97, 47, 98] : List UInt8)).bind fun v4 => bif v4.1 == [98] then ((F_route_Under ([97, 47, 98] : List UInt8) ([97] : List UInt8)).bind fun v5 => bif v5.1 then ((F_route_Compare ([97, 47, 98] : List UInt8) ([97] : List UInt8)).bind fun v6 => bif v6.1 == 1 then ((F_route_Join ([97] : List UInt8) ([98] : List UInt8)).bind fun v7 => some (v7.1 == [97, 47, 98], ())) else (some (false, ()))) else (some (false, ()))) else (some (false, ()))) else (some (false, ()))) else (some (false, ()))) else (some (false, ()))) else (some (false, ()))) else (some (false, ()))) else (some (false, ()))) else (some (false, ()))).bind fun v8 => some v8
def eF_law13_awake : VEnt := ⟨22, ⟨[], []⟩, [⟨[.pv .bool], []⟩], fun q => F_law13_awake⟩
def aF_law13_awake : Ann := .s .z (.s .z (.s .z (.j [(.normal, ⟨mkT 54 0 [(0, .pv .bool)], []⟩)] .z .z)))
theorem tF_law13_awake : vfn ⟨Tryd.prog, gl0, EV45, PV45⟩ Tryd.f22 aF_law13_awake eF_law13_awake.ps eF_law13_awake.rs = eF_law13_awake.F := by kernel_rfl
def EV46 : List VEnt := eF_law13_awake :: EV45
def ZV46 : List VEnt := ZV45
def KV46 : PureK := KV45
def NV46 : List FuncId := 22 :: NV45
def PV46 : List FuncId := PV45
theorem CV46 : Ch Tryd.prog gl0 Wa0 KV46 NV46 ZV46 EV46 := Ch.addG CV45 (by kernel_rfl) (by kernel_rfl) (by kernel_rfl) Tryd.func22 (by decide) tF_law13_awake
def F_ref13_Parts (a0 : (List UInt8)) : Option ((List (List UInt8)) × Unit) :=
  bif a0 == ([] : (List UInt8)) then (some (([] : (List (List UInt8))), ())) else ((iter (fun v0 => bif decide (v0.2.1 ≤ (a0.length : Int)) then (((bif v0.2.1 == (a0.length : Int) then (some (true, v0.2.2)) else ((idxS a0 v0.2.1).bind fun v1 => some (v1 == 47, v0.2.2))).bind fun v2 => bif v2.1 then ((subS a0 v0.1 v0.2.1).bind fun v3 => (app v2.2.1 [v3]).bind fun v4 => some (IntKind.i64.wrap (v0.2.1 + 1), (v4, ()))) else (some (v0.1, v2.2))).bind fun v5 => some (.inl (v5.1, (IntKind.i64.wrap (v0.2.1 + 1), v5.2)))) else (some (.inr v0.2.2))) NF ((0 : Int), ((0 : Int), (([] : (List (List UInt8))), ())))).bind fun v6 => some v6)
def eF_ref13_Parts : VEnt := ⟨31, ⟨[.pv .str], []⟩, [⟨[.row 0], [.row 9 .str]⟩], fun q => F_ref13_Parts q.1⟩
def aF_ref13_Parts : Ann := .s .z (.s .z (.s .z (.s .z (.s (.s .z (.l ⟨mkT 34 0 [(3, .row 0), (4, .pv (.int .i64)), (5, .pv (.int .i64))], [.row 9 .str]⟩ [((.exit 0), ⟨mkT 34 0 [(3, .row 0)], [.row 9 .str]⟩)] (.s .z (.j [(.normal, ⟨mkT 34 0 [(3, .row 0), (4, .pv (.int .i64))], [.row 9 .str]⟩)] (.j [(.normal, ⟨mkT 34 0 [(3, .row 0), (23, .pv .bool)], [.row 9 .str]⟩)] .z .z) .z)))) .z))))
theorem tF_ref13_Parts : vfn ⟨Tryd.prog, [], ZV46, PV46⟩ Tryd.f31 aF_ref13_Parts eF_ref13_Parts.ps eF_ref13_Parts.rs = eF_ref13_Parts.F := by kernel_rfl
def EV47 : List VEnt := eF_ref13_Parts :: EV46
def ZV47 : List VEnt := eF_ref13_Parts :: ZV46
def KV47 : PureK := KV46
def NV47 : List FuncId := 31 :: NV46
def PV47 : List FuncId := PV46
theorem CV47 : Ch Tryd.prog gl0 Wa0 KV47 NV47 ZV47 EV47 := Ch.add0 CV46 (by kernel_rfl) (by kernel_rfl) (by kernel_rfl) Tryd.func31 (by decide) tF_ref13_Parts
def F_ref13_Joined (a0 : (List (List UInt8))) : Option ((List UInt8) × Unit) :=
  (iter (fun v0 => bif decide (v0.2.1 < (a0.length : Int)) then ((bif decide (v0.2.1 > 0) then ((cat v0.1 ([47] : List UInt8)).bind fun v1 => some (v1, ())) else (some (v0.1, ()))).bind fun v2 => (idxL a0 v0.2.1).bind fun v3 => (cat v2.1 v3).bind fun v4 => some (.inl (v4, (IntKind.i64.wrap (v0.2.1 + 1), ())))) else (some (.inr (v0.1, ())))) NF ((([] : (List UInt8)) : List UInt8), ((0 : Int), ()))).bind fun v5 => some v5
def eF_ref13_Joined : VEnt := ⟨58, ⟨[.pv (.lst .str)], []⟩, [⟨[.pv .str], []⟩], fun q => F_ref13_Joined q.1⟩
def aF_ref13_Joined : Ann := .s .z (.s .z (.s (.s .z (.l ⟨mkT 22 0 [(3, .pv .str), (4, .pv (.int .i64))], []⟩ [((.exit 0), ⟨mkT 22 0 [(3, .pv .str)], []⟩)] (.s .z (.s (.j [(.normal, ⟨mkT 22 0 [(3, .pv .str)], []⟩)] .z .z) .z)))) .z))
theorem tF_ref13_Joined : vfn ⟨Tryd.prog, [], ZV47, PV47⟩ Tryd.f58 aF_ref13_Joined eF_ref13_Joined.ps eF_ref13_Joined.rs = eF_ref13_Joined.F := by kernel_rfl
def EV48 : List VEnt := eF_ref13_Joined :: EV47
def ZV48 : List VEnt := eF_ref13_Joined :: ZV47
def KV48 : PureK := KV47
def NV48 : List FuncId := 58 :: NV47
def PV48 : List FuncId := PV47
theorem CV48 : Ch Tryd.prog gl0 Wa0 KV48 NV48 ZV48 EV48 := Ch.add0 CV47 (by kernel_rfl) (by kernel_rfl) (by kernel_rfl) Tryd.func58 (by decide) tF_ref13_Joined
def F_ref13_long (a0 : Int) : Option (Int × (Int × Unit)) :=
  bif decide (a0 < 128) then (some ((1 : Int), (IntKind.i64.wrap a0, ()))) else ((bif decide (a0 ≥ 192) then (bif decide (a0 < 224) then (some (.inl ((2 : Int), (IntKind.i64.wrap ((IntKind.i64.wrap a0) - 192), ())))) else (some (.inr ()))) else (some (.inr ()))).bind fun v0 => sumK v0 (fun v1 => some v1) (fun v2 => (bif decide (a0 ≥ 224) then (bif decide (a0 < 240) then (some (.inl ((3 : Int), (IntKind.i64.wrap ((IntKind.i64.wrap a0) - 224), ())))) else (some (.inr ()))) else (some (.inr ()))).bind fun v3 => sumK v3 (fun v4 => some v4) (fun v5 => (bif decide (a0 ≥ 240) then (bif decide (a0 < 248) then (some (.inl ((4 : Int), (IntKind.i64.wrap ((IntKind.i64.wrap a0) - 240), ())))) else (some (.inr ()))) else (some (.inr ()))).bind fun v6 => sumK v6 (fun v7 => some v7) (fun v8 => some ((0 : Int), ((0 : Int), ()))))))
def eF_ref13_long : VEnt := ⟨86, ⟨[.pv (.int .u8)], []⟩, [⟨[.tup (.cn (.pv (.int .i64)) (.cn (.pv (.int .i64)) (.nl)))], []⟩], fun q => F_ref13_long q.1⟩
def aF_ref13_long : Ann := .s .z (.s .z (.j [(.ret, ⟨mkT 35 0 [(2, .pv (.int .i64)), (3, .pv (.int .i64))], []⟩), (.normal, ⟨mkT 35 0 [], []⟩)] .z (.j [(.ret, ⟨mkT 35 0 [(2, .pv (.int .i64)), (3, .pv (.int .i64))], []⟩), (.normal, ⟨mkT 35 0 [], []⟩)] .z (.j [(.ret, ⟨mkT 35 0 [(2, .pv (.int .i64)), (3, .pv (.int .i64))], []⟩), (.normal, ⟨mkT 35 0 [], []⟩)] .z .z))))
theorem tF_ref13_long : vfn ⟨Tryd.prog, [], ZV48, PV48⟩ Tryd.f86 aF_ref13_long eF_ref13_long.ps eF_ref13_long.rs = eF_ref13_long.F := by kernel_rfl
def EV49 : List VEnt := eF_ref13_long :: EV48
def ZV49 : List VEnt := eF_ref13_long :: ZV48
def KV49 : PureK := addK KV48 86 (kOf eF_ref13_long)
def NV49 : List FuncId := NV48
def PV49 : List FuncId := 86 :: PV48
theorem CV49 : Ch Tryd.prog gl0 Wa0 KV49 NV49 ZV49 EV49 := Ch.pure mixedV noGoroutineV CV48 (by kernel_rfl) (by kernel_rfl) (by kernel_rfl) Tryd.func86 (by decide) (by kernel_rfl) tF_ref13_long
def F_ref13_Next (a0 : (List UInt8)) (a1 : Int) : Option (Int × (Int × Unit)) :=
  (idxS a0 a1).bind fun v0 => (F_ref13_long v0).bind fun v1 => bif v1.1 == 0 then (some ((0 : Int), ((0 : Int), ()))) else (bif decide ((IntKind.i64.wrap (a1 + v1.1)) > (a0.length : Int)) then (some ((0 : Int), ((0 : Int), ()))) else ((iter (fun v2 => bif decide (v2.2.1 < v1.1) then ((idxS a0 (IntKind.i64.wrap (a1 + v2.2.1))).bind fun v3 => bif decide (v3 < 128) then (some (.inr (.inl ((0 : Int), ((0 : Int), ()))))) else ((idxS a0 (IntKind.i64.wrap (a1 + v2.2.1))).bind fun v4 => bif decide (v4 ≥ 192) then (some (.inr (.inl ((0 : Int), ((0 : Int), ()))))) else ((idxS a0 (IntKind.i64.wrap (a1 + v2.2.1))).bind fun v5 => some (.inl (IntKind.i64.wrap ((IntKind.i64.wrap ((IntKind.i64.wrap (64 * v2.1)) + (IntKind.i64.wrap v5))) - 128), (IntKind.i64.wrap (v2.2.1 + 1), ())))))) else (some (.inr (.inr (v2.1, ()))))) NF (v1.2.1, ((1 : Int), ()))).bind fun v6 => sumK v6 (fun v7 => some v7) (fun v8 => (idxL [(0 : Int), (0 : Int), (128 : Int), (2048 : Int), (65536 : Int)] v1.1).bind fun v9 => (idxL [(0 : Int), (0 : Int), (128 : Int), (2048 : Int), (65536 : Int)] v1.1).bind fun v10 => (bif decide (v8.1 < v10) then (some (.inl ((0 : Int), ((0 : Int), ())))) else (bif decide (v8.1 > 1114111) then (some (.inl ((0 : Int), ((0 : Int), ())))) else (bif decide (v8.1 ≥ 55296) then (bif decide (v8.1 < 57344) then (some (.inl ((0 : Int), ((0 : Int), ())))) else (some (.inr ()))) else (some (.inr ()))))).bind fun v11 => sumK v11 (fun v12 => some v12) (fun v13 => some (v8.1, (v1.1, ()))))))
def eF_ref13_Next : VEnt := ⟨69, ⟨[.pv .str, .pv (.int .i64)], []⟩, [⟨[.tup (.cn (.pv (.int .i64)) (.cn (.pv (.int .i64)) (.nl)))], []⟩], fun q => F_ref13_Next q.1 q.2.1⟩
def aF_ref13_Next : Ann := .s .z (.s .z (.s .z (.s (.s .z (.l ⟨mkT 77 0 [(7, .pv (.int .i64)), (8, .pv (.int .i64))], []⟩ [(.ret, ⟨mkT 77 0 [(4, .pv (.int .i64)), (5, .pv (.int .i64))], []⟩), ((.exit 0), ⟨mkT 77 0 [(7, .pv (.int .i64))], []⟩)] .z)) (.s .z (.j [(.ret, ⟨mkT 77 0 [(4, .pv (.int .i64)), (5, .pv (.int .i64))], []⟩), (.normal, ⟨mkT 77 0 [], []⟩)] .z .z)))))
theorem tF_ref13_Next : vfn ⟨Tryd.prog, [], ZV49, PV49⟩ Tryd.f69 aF_ref13_Next eF_ref13_Next.ps eF_ref13_Next.rs = eF_ref13_Next.F := by kernel_rfl
def EV50 : List VEnt := eF_ref13_Next :: EV49
def ZV50 : List VEnt := eF_ref13_Next :: ZV49
def KV50 : PureK := addK KV49 69 (kOf eF_ref13_Next)
def NV50 : List FuncId := NV49
def PV50 : List FuncId := 69 :: PV49
theorem CV50 : Ch Tryd.prog gl0 Wa0 KV50 NV50 ZV50 EV50 := Ch.pure mixedV noGoroutineV CV49 (by kernel_rfl) (by kernel_rfl) (by kernel_rfl) Tryd.func69 (by decide) (by kernel_rfl) tF_ref13_Next
def F_ref13_Right (a0 : (List UInt8)) : Option (Bool × Unit) :=
  bif decide ((a0.length : Int) < 1) then (some (false, ())) else (bif decide ((a0.length : Int) > 1024) then (some (false, ())) else ((iter (fun v0 => bif decide (v0.1 < (a0.length : Int)) then ((F_ref13_Next a0 v0.1).bind fun v1 => bif v1.2.1 == 0 then (some (.inr (.inl ()))) else ((idxS a0 v0.1).bind fun v2 => bif decide (v2 < 32) then (some (.inr (.inl ()))) else ((idxS a0 v0.1).bind fun v3 => bif v3 == 127 then (some (.inr (.inl ()))) else ((idxS a0 v0.1).bind fun v4 => bif v4 == 92 then (some (.inr (.inl ()))) else (some (.inl (IntKind.i64.wrap (v0.1 + v1.2.1), ()))))))) else (some (.inr (.inr ())))) NF ((0 : Int), ())).bind fun v5 => sumK v5 (fun v6 => some (false, ())) (fun v7 => (F_ref13_Parts a0).bind fun v8 => bif decide ((v8.1.length : Int) > 32) then (some (false, ())) else ((iter (fun v9 => bif decide (v9.1 < (v9.2.1.length : Int)) then ((idxL v9.2.1 v9.1).bind fun v10 => (idxL v9.2.1 v9.1).bind fun v11 => bif v11 == ([] : (List UInt8)) then (some (.inr (.inl ()))) else ((idxL v9.2.1 v9.1).bind fun v12 => (idxL v9.2.1 v9.1).bind fun v13 => bif decide ((v13.length : Int) > 255) then (some (.inr (.inl ()))) else ((idxL v9.2.1 v9.1).bind fun v14 => (idxL v9.2.1 v9.1).bind fun v15 => bif v15 == [46] then (some (.inr (.inl ()))) else ((idxL v9.2.1 v9.1).bind fun v16 => (idxL v9.2.1 v9.1).bind fun v17 => bif v17 == [46, 46] then (some (.inr (.inl ()))) else (some (.inl (IntKind.i64.wrap (v9.1 + 1), v9.2))))))) else (some (.inr (.inr ())))) NF ((0 : Int), v8)).bind fun v18 => sumK v18 (fun v19 => some (false, ())) (fun v20 => some (true, ()))))))
def eF_ref13_Right : VEnt := ⟨26, ⟨[.pv .str], []⟩, [⟨[.pv .bool], []⟩], fun q => F_ref13_Right q.1⟩
def aF_ref13_Right : Ann := .s .z (.s .z (.s (.s .z (.l ⟨mkT 87 0 [(3, .pv (.int .i64))], []⟩ [(.ret, ⟨mkT 87 0 [(2, .kb false)], []⟩), ((.exit 0), ⟨mkT 87 0 [], []⟩)] .z)) (.s .z (.s .z (.s (.s .z (.l ⟨mkT 87 0 [(6, .row 0), (7, .pv (.int .i64))], [.row 9 .str]⟩ [(.ret, ⟨mkT 87 0 [(2, .kb false)], []⟩), ((.exit 2), ⟨mkT 87 0 [], []⟩)] .z)) .z)))))
theorem tF_ref13_Right : vfn ⟨Tryd.prog, [], ZV50, PV50⟩ Tryd.f26 aF_ref13_Right eF_ref13_Right.ps eF_ref13_Right.rs = eF_ref13_Right.F := by kernel_rfl
def EV51 : List VEnt := eF_ref13_Right :: EV50
def ZV51 : List VEnt := eF_ref13_Right :: ZV50
def KV51 : PureK := addK KV50 26 (kOf eF_ref13_Right)
def NV51 : List FuncId := NV50
def PV51 : List FuncId := 26 :: PV50
theorem CV51 : Ch Tryd.prog gl0 Wa0 KV51 NV51 ZV51 EV51 := Ch.pure mixedV noGoroutineV CV50 (by kernel_rfl) (by kernel_rfl) (by kernel_rfl) Tryd.func26 (by decide) (by kernel_rfl) tF_ref13_Right
def F_ref13_Normal (a0 : (List UInt8)) : Option ((List UInt8) × (Bool × (Int × Unit))) :=
  bif a0 == ([] : (List UInt8)) then (some ((([] : (List UInt8)) : List UInt8), (false, ((5 : Int), ())))) else ((idxS a0 (0 : Int)).bind fun v0 => bif v0 == 47 then (some ((([] : (List UInt8)) : List UInt8), (false, ((5 : Int), ())))) else ((F_ref13_Parts a0).bind fun v1 => (iter (fun v2 => bif decide (v2.1 < (v2.2.1.length : Int)) then (((idxL v2.2.1 v2.1).bind fun v3 => (idxL v2.2.1 v2.1).bind fun v4 => bif !(v4 == ([] : (List UInt8))) then ((idxL v2.2.1 v2.1).bind fun v5 => (idxL v2.2.1 v2.1).bind fun v6 => bif !(v6 == [46]) then ((idxL v2.2.1 v2.1).bind fun v7 => (idxL v2.2.1 v2.1).bind fun v8 => (app v2.2.2.1 [v8]).bind fun v9 => some (v2.2.1, (v9, ()))) else (some v2.2)) else (some v2.2)).bind fun v10 => some (.inl (IntKind.i64.wrap (v2.1 + 1), v10))) else (some (.inr v2.2.2))) NF ((0 : Int), (v1.1, (([] : (List (List UInt8))), ())))).bind fun v11 => (F_ref13_Joined v11.1).bind fun v12 => (F_ref13_Right v12.1).bind fun v13 => bif !v13.1 then (some ((([] : (List UInt8)) : List UInt8), (false, ((5 : Int), ())))) else ((idxS a0 (IntKind.i64.wrap ((a0.length : Int) - 1))).bind fun v14 => some (v12.1, (v14 == 47, ((0 : Int), ()))))))
def eF_ref13_Normal : VEnt := ⟨24, ⟨[.pv .str], []⟩, [⟨[.tup (.cn (.pv .str) (.cn (.pv .bool) (.cn (.pv (.int .i64)) (.nl))))], []⟩], fun q => F_ref13_Normal q.1⟩
def aF_ref13_Normal : Ann := .s .z (.s .z (.s .z (.s .z (.s (.s .z (.l ⟨mkT 55 0 [(5, .row 0), (6, .row 1), (7, .pv (.int .i64))], [.row 9 .str, .row 9 .str]⟩ [((.exit 0), ⟨mkT 55 0 [(6, .row 0)], [.row 9 .str]⟩)] (.s .z (.j [(.normal, ⟨mkT 55 0 [(5, .row 0), (6, .row 1)], [.row 9 .str, .row 9 .str]⟩)] .z .z)))) .z))))
theorem tF_ref13_Normal : vfn ⟨Tryd.prog, [], ZV51, PV51⟩ Tryd.f24 aF_ref13_Normal eF_ref13_Normal.ps eF_ref13_Normal.rs = eF_ref13_Normal.F := by kernel_rfl
def EV52 : List VEnt := eF_ref13_Normal :: EV51
def ZV52 : List VEnt := eF_ref13_Normal :: ZV51
def KV52 : PureK := addK KV51 24 (kOf eF_ref13_Normal)
def NV52 : List FuncId := NV51
def PV52 : List FuncId := 24 :: PV51
theorem CV52 : Ch Tryd.prog gl0 Wa0 KV52 NV52 ZV52 EV52 := Ch.pure mixedV noGoroutineV CV51 (by kernel_rfl) (by kernel_rfl) (by kernel_rfl) Tryd.func24 (by decide) (by kernel_rfl) tF_ref13_Normal
def F_law13_RouteNames (a0 : (List UInt8)) : Option (Bool × Unit) :=
  F_law13_awake.bind fun v0 => bif !v0.1 then (some (false, ())) else (bif decide ((a0.length : Int) > 1100) then (some (true, ())) else ((F_route_Normal a0).bind fun v1 => (F_ref13_Normal a0).bind fun v2 => bif !(v1.1 == v2.1) then (some (false, ())) else (bif !(v1.2.1 == v2.2.1) then (some (false, ())) else (bif v1.2.2.1 != v2.2.2.1 then (some (false, ())) else ((F_route_Check a0).bind fun v3 => (F_ref13_Right a0).bind fun v4 => bif !((v3.1 == 0) == v4.1) then (some (false, ())) else ((F_route_Check a0).bind fun v5 => (F_ref13_Right a0).bind fun v6 => bif (v5.1 == 5) == v6.1 then (some (false, ())) else (bif v2.2.2.1 != 0 then (some (true, ())) else ((F_route_Normal v1.1).bind fun v7 => (cat v1.1 ([47] : List UInt8)).bind fun v8 => (F_route_Normal v8).bind fun v9 => (bif v7.1 == v1.1 then (bif !v7.2.1 then (bif v7.2.2.1 == 0 then (bif v9.1 == v1.1 then (bif v9.2.1 then (bif v9.2.2.1 == 0 then ((F_route_Check v1.1).bind fun v10 => some (v10.1 == 0, ())) else (some (false, ()))) else (some (false, ()))) else (some (false, ()))) else (some (false, ()))) else (some (false, ()))) else (some (false, ()))).bind fun v11 => some v11))))))))
def eF_law13_RouteNames : VEnt := ⟨7, ⟨[.pv .str], []⟩, [⟨[.pv .bool], []⟩], fun q => F_law13_RouteNames q.1⟩
def aF_law13_RouteNames : Ann := .s .z (.s .z (.s .z (.s .z (.s .z (.s .z (.s .z (.s .z (.s .z (.j [(.normal, ⟨mkT 104 0 [(2, .pv .bool)], []⟩)] .z .z)))))))))
theorem tF_law13_RouteNames : vfn ⟨Tryd.prog, gl0, EV52, PV52⟩ Tryd.f7 aF_law13_RouteNames eF_law13_RouteNames.ps eF_law13_RouteNames.rs = eF_law13_RouteNames.F := by kernel_rfl
def EV53 : List VEnt := eF_law13_RouteNames :: EV52
def ZV53 : List VEnt := ZV52
def KV53 : PureK := KV52
def NV53 : List FuncId := 7 :: NV52
def PV53 : List FuncId := PV52
theorem CV53 : Ch Tryd.prog gl0 Wa0 KV53 NV53 ZV53 EV53 := Ch.addG CV52 (by kernel_rfl) (by kernel_rfl) (by kernel_rfl) Tryd.func7 (by decide) tF_law13_RouteNames
def F_ref13_Parent (a0 : (List UInt8)) : Option ((List UInt8) × (Bool × Unit)) :=
  (iter (fun v0 => bif decide (v0.1 ≥ 0) then ((idxS a0 v0.1).bind fun v1 => bif v1 == 47 then ((subS a0 (0 : Int) v0.1).bind fun v2 => some (.inr (.inl (v2, ())))) else (some (.inl (IntKind.i64.wrap (v0.1 - 1), ())))) else (some (.inr (.inr ())))) NF (IntKind.i64.wrap ((a0.length : Int) - 1), ())).bind fun v3 => sumK v3 (fun v4 => some (v4.1, (true, ()))) (fun v5 => some ((([] : (List UInt8)) : List UInt8), (false, ())))
def eF_ref13_Parent : VEnt := ⟨28, ⟨[.pv .str], []⟩, [⟨[.tup (.cn (.pv .str) (.cn (.pv .bool) (.nl)))], []⟩], fun q => F_ref13_Parent q.1⟩
def aF_ref13_Parent : Ann := .s .z (.s (.s .z (.l ⟨mkT 19 0 [(4, .pv (.int .i64))], []⟩ [(.ret, ⟨mkT 19 0 [(2, .pv .str), (3, .kb true)], []⟩), ((.exit 0), ⟨mkT 19 0 [], []⟩)] .z)) .z)
theorem tF_ref13_Parent : vfn ⟨Tryd.prog, [], ZV53, PV53⟩ Tryd.f28 aF_ref13_Parent eF_ref13_Parent.ps eF_ref13_Parent.rs = eF_ref13_Parent.F := by kernel_rfl
def EV54 : List VEnt := eF_ref13_Parent :: EV53
def ZV54 : List VEnt := eF_ref13_Parent :: ZV53
def KV54 : PureK := addK KV53 28 (kOf eF_ref13_Parent)
def NV54 : List FuncId := NV53
def PV54 : List FuncId := 28 :: PV53
theorem CV54 : Ch Tryd.prog gl0 Wa0 KV54 NV54 ZV54 EV54 := Ch.pure mixedV noGoroutineV CV53 (by kernel_rfl) (by kernel_rfl) (by kernel_rfl) Tryd.func28 (by decide) (by kernel_rfl) tF_ref13_Parent
def F_law13_texts (a0 : (List (List UInt8))) (a1 : (List (List UInt8))) : Option (Bool × Unit) :=
  bif (a0.length : Int) != (a1.length : Int) then (some (false, ())) else ((iter (fun v0 => bif decide (v0.1 < (a0.length : Int)) then ((idxL a0 v0.1).bind fun v1 => (idxL a1 v0.1).bind fun v2 => bif !(v1 == v2) then (some (.inr (.inl ()))) else (some (.inl (IntKind.i64.wrap (v0.1 + 1), ())))) else (some (.inr (.inr ())))) NF ((0 : Int), ())).bind fun v3 => sumK v3 (fun v4 => some (false, ())) (fun v5 => some (true, ())))
def eF_law13_texts : VEnt := ⟨29, ⟨[.pv (.lst .str), .pv (.lst .str)], []⟩, [⟨[.pv .bool], []⟩], fun q => F_law13_texts q.1 q.2.1⟩
def aF_law13_texts : Ann := .s .z (.s .z (.s (.s .z (.l ⟨mkT 26 0 [(13, .pv (.int .i64))], []⟩ [(.ret, ⟨mkT 26 0 [(4, .kb false)], []⟩), ((.exit 0), ⟨mkT 26 0 [], []⟩)] .z)) .z))
theorem tF_law13_texts : vfn ⟨Tryd.prog, [], ZV54, PV54⟩ Tryd.f29 aF_law13_texts eF_law13_texts.ps eF_law13_texts.rs = eF_law13_texts.F := by kernel_rfl
def EV55 : List VEnt := eF_law13_texts :: EV54
def ZV55 : List VEnt := eF_law13_texts :: ZV54
def KV55 : PureK := KV54
def NV55 : List FuncId := 29 :: NV54
def PV55 : List FuncId := PV54
theorem CV55 : Ch Tryd.prog gl0 Wa0 KV55 NV55 ZV55 EV55 := Ch.add0 CV54 (by kernel_rfl) (by kernel_rfl) (by kernel_rfl) Tryd.func29 (by decide) tF_law13_texts
def F_ref13_Base (a0 : (List UInt8)) : Option ((List UInt8) × Unit) :=
  (iter (fun v0 => bif decide (v0.1 ≥ 0) then ((idxS a0 v0.1).bind fun v1 => bif v1 == 47 then ((subS a0 (IntKind.i64.wrap (v0.1 + 1)) (a0.length : Int)).bind fun v2 => some (.inr (.inl (v2, ())))) else (some (.inl (IntKind.i64.wrap (v0.1 - 1), ())))) else (some (.inr (.inr ())))) NF (IntKind.i64.wrap ((a0.length : Int) - 1), ())).bind fun v3 => sumK v3 (fun v4 => some v4) (fun v5 => some (a0, ()))
def eF_ref13_Base : VEnt := ⟨33, ⟨[.pv .str], []⟩, [⟨[.pv .str], []⟩], fun q => F_ref13_Base q.1⟩
def aF_ref13_Base : Ann := .s .z (.s (.s .z (.l ⟨mkT 20 0 [(3, .pv (.int .i64))], []⟩ [(.ret, ⟨mkT 20 0 [(2, .pv .str)], []⟩), ((.exit 0), ⟨mkT 20 0 [], []⟩)] .z)) .z)
theorem tF_ref13_Base : vfn ⟨Tryd.prog, [], ZV55, PV55⟩ Tryd.f33 aF_ref13_Base eF_ref13_Base.ps eF_ref13_Base.rs = eF_ref13_Base.F := by kernel_rfl
def EV56 : List VEnt := eF_ref13_Base :: EV55
def ZV56 : List VEnt := eF_ref13_Base :: ZV55
def KV56 : PureK := addK KV55 33 (kOf eF_ref13_Base)
def NV56 : List FuncId := NV55
def PV56 : List FuncId := 33 :: PV55
theorem CV56 : Ch Tryd.prog gl0 Wa0 KV56 NV56 ZV56 EV56 := Ch.pure mixedV noGoroutineV CV55 (by kernel_rfl) (by kernel_rfl) (by kernel_rfl) Tryd.func33 (by decide) (by kernel_rfl) tF_ref13_Base
def F_ref13_Join (a0 : (List UInt8)) (a1 : (List UInt8)) : Option ((List UInt8) × Unit) :=
  bif a0 == ([] : (List UInt8)) then (some (a1, ())) else ((cat a0 ([47] : List UInt8)).bind fun v0 => (cat v0 a1).bind fun v1 => some (v1, ()))
def eF_ref13_Join : VEnt := ⟨35, ⟨[.pv .str, .pv .str], []⟩, [⟨[.pv .str], []⟩], fun q => F_ref13_Join q.1 q.2.1⟩
def aF_ref13_Join : Ann := .z
theorem tF_ref13_Join : vfn ⟨Tryd.prog, [], ZV56, PV56⟩ Tryd.f35 aF_ref13_Join eF_ref13_Join.ps eF_ref13_Join.rs = eF_ref13_Join.F := by kernel_rfl
def EV57 : List VEnt := eF_ref13_Join :: EV56
def ZV57 : List VEnt := eF_ref13_Join :: ZV56
def KV57 : PureK := addK KV56 35 (kOf eF_ref13_Join)
def NV57 : List FuncId := NV56
def PV57 : List FuncId := 35 :: PV56
theorem CV57 : Ch Tryd.prog gl0 Wa0 KV57 NV57 ZV57 EV57 := Ch.pure mixedV noGoroutineV CV56 (by kernel_rfl) (by kernel_rfl) (by kernel_rfl) Tryd.func35 (by decide) (by kernel_rfl) tF_ref13_Join
def F_ref13_Under (a0 : (List UInt8)) (a1 : (List UInt8)) : Option (Bool × Unit) :=
  (F_ref13_Parts a0).bind fun v0 => (F_ref13_Parts a1).bind fun v1 => bif decide ((v0.1.length : Int) ≤ (v1.1.length : Int)) then (some (false, ())) else ((iter (fun v2 => bif decide (v2.1 < (v2.2.2.1.length : Int)) then ((idxL v2.2.1 v2.1).bind fun v3 => (idxL v2.2.1 v2.1).bind fun v4 => (idxL v2.2.2.1 v2.1).bind fun v5 => (idxL v2.2.2.1 v2.1).bind fun v6 => bif !(v4 == v6) then (some (.inr (.inl ()))) else (some (.inl (IntKind.i64.wrap (v2.1 + 1), v2.2)))) else (some (.inr (.inr ())))) NF ((0 : Int), (v0.1, v1))).bind fun v7 => sumK v7 (fun v8 => some (false, ())) (fun v9 => some (true, ())))
def eF_ref13_Under : VEnt := ⟨37, ⟨[.pv .str, .pv .str], []⟩, [⟨[.pv .bool], []⟩], fun q => F_ref13_Under q.1 q.2.1⟩
def aF_ref13_Under : Ann := .s .z (.s .z (.s .z (.s .z (.s (.s .z (.l ⟨mkT 32 0 [(5, .row 0), (6, .row 1), (7, .pv (.int .i64))], [.row 9 .str, .row 9 .str]⟩ [(.ret, ⟨mkT 32 0 [(4, .kb false)], []⟩), ((.exit 0), ⟨mkT 32 0 [], []⟩)] .z)) .z))))
theorem tF_ref13_Under : vfn ⟨Tryd.prog, [], ZV57, PV57⟩ Tryd.f37 aF_ref13_Under eF_ref13_Under.ps eF_ref13_Under.rs = eF_ref13_Under.F := by kernel_rfl
def EV58 : List VEnt := eF_ref13_Under :: EV57
def ZV58 : List VEnt := eF_ref13_Under :: ZV57
def KV58 : PureK := addK KV57 37 (kOf eF_ref13_Under)
def NV58 : List FuncId := NV57
def PV58 : List FuncId := 37 :: PV57
theorem CV58 : Ch Tryd.prog gl0 Wa0 KV58 NV58 ZV58 EV58 := Ch.pure mixedV noGoroutineV CV57 (by kernel_rfl) (by kernel_rfl) (by kernel_rfl) Tryd.func37 (by decide) (by kernel_rfl) tF_ref13_Under
def F_ref13_Compare (a0 : (List UInt8)) (a1 : (List UInt8)) : Option (Int × Unit) :=
  (F_ref13_Parts a0).bind fun v0 => (F_ref13_Parts a1).bind fun v1 => (iter (fun v2 => bif decide (v2.1 < (v2.2.1.length : Int)) then (bif decide (v2.1 < (v2.2.2.1.length : Int)) then ((idxL v2.2.1 v2.1).bind fun v3 => (idxL v2.2.1 v2.1).bind fun v4 => (idxL v2.2.2.1 v2.1).bind fun v5 => (idxL v2.2.2.1 v2.1).bind fun v6 => bif Op.bytesLess v4 v6 then (some (.inr (.inl (((-1) : Int), ())))) else ((idxL v2.2.1 v2.1).bind fun v7 => (idxL v2.2.1 v2.1).bind fun v8 => (idxL v2.2.2.1 v2.1).bind fun v9 => (idxL v2.2.2.1 v2.1).bind fun v10 => bif !((Op.bytesLess v8 v10) || (v8 == v10)) then (some (.inr (.inl ((1 : Int), ())))) else (some (.inl (IntKind.i64.wrap (v2.1 + 1), v2.2))))) else (some (.inr (.inr v2.2)))) else (some (.inr (.inr v2.2)))) NF ((0 : Int), (v0.1, v1))).bind fun v11 => sumK v11 (fun v12 => some v12) (fun v13 => bif decide ((v13.1.length : Int) < (v13.2.1.length : Int)) then (some (((-1) : Int), ())) else (bif decide ((v13.1.length : Int) > (v13.2.1.length : Int)) then (some ((1 : Int), ())) else (some ((0 : Int), ()))))
def eF_ref13_Compare : VEnt := ⟨39, ⟨[.pv .str, .pv .str], []⟩, [⟨[.pv (.int .i64)], []⟩], fun q => F_ref13_Compare q.1 q.2.1⟩
def aF_ref13_Compare : Ann := .s .z (.s .z (.s .z (.s (.s .z (.l ⟨mkT 52 0 [(5, .row 0), (6, .row 1), (7, .pv (.int .i64))], [.row 9 .str, .row 9 .str]⟩ [(.ret, ⟨mkT 52 0 [(4, .pv (.int .i64))], []⟩), ((.exit 0), ⟨mkT 52 0 [(5, .row 0), (6, .row 1)], [.row 9 .str, .row 9 .str]⟩)] .z)) .z)))
theorem tF_ref13_Compare : vfn ⟨Tryd.prog, [], ZV58, PV58⟩ Tryd.f39 aF_ref13_Compare eF_ref13_Compare.ps eF_ref13_Compare.rs = eF_ref13_Compare.F := by kernel_rfl
def EV59 : List VEnt := eF_ref13_Compare :: EV58
def ZV59 : List VEnt := eF_ref13_Compare :: ZV58
def KV59 : PureK := addK KV58 39 (kOf eF_ref13_Compare)
def NV59 : List FuncId := NV58
def PV59 : List FuncId := 39 :: PV58
theorem CV59 : Ch Tryd.prog gl0 Wa0 KV59 NV59 ZV59 EV59 := Ch.pure mixedV noGoroutineV CV58 (by kernel_rfl) (by kernel_rfl) (by kernel_rfl) Tryd.func39 (by decide) (by kernel_rfl) tF_ref13_Compare
def F_law13_RouteParts (a0 : (List UInt8)) (a1 : (List UInt8)) : Option (Bool × Unit) :=
  F_law13_awake.bind fun v0 => bif !v0.1 then (some (false, ())) else (bif decide ((a0.length : Int) > 200) then (some (true, ())) else (bif decide ((a1.length : Int) > 200) then (some (true, ())) else ((F_route_Parent a0).bind fun v1 => (F_ref13_Parent a0).bind fun v2 => ((F_route_Parts a0).bind fun v3 => (F_ref13_Parts a0).bind fun v4 => (F_law13_texts v3.1 v4.1).bind fun v5 => bif v5.1 then (bif v1.1 == v2.1 then (bif v1.2.1 == v2.2.1 then ((F_route_Base a0).bind fun v6 => (F_ref13_Base a0).bind fun v7 => bif v6.1 == v7.1 then ((F_route_Join a0 a1).bind fun v8 => (F_ref13_Join a0 a1).bind fun v9 => bif v8.1 == v9.1 then ((F_route_Under a0 a1).bind fun v10 => (F_ref13_Under a0 a1).bind fun v11 => bif v10.1 == v11.1 then ((F_route_Compare a0 a1).bind fun v12 => (F_ref13_Compare a0 a1).bind fun v13 => some (v12.1 == v13.1, ())) else (some (false, ()))) else (some (false, ()))) else (some (false, ()))) else (some (false, ()))) else (some (false, ()))) else (some (false, ()))).bind fun v14 => some v14)))
def eF_law13_RouteParts : VEnt := ⟨8, ⟨[.pv .str, .pv .str], []⟩, [⟨[.pv .bool], []⟩], fun q => F_law13_RouteParts q.1 q.2.1⟩
def aF_law13_RouteParts : Ann := .s .z (.s .z (.s .z (.s .z (.s .z (.j [(.normal, ⟨mkT 78 0 [(4, .pv .bool)], []⟩)] .z .z)))))
theorem tF_law13_RouteParts : vfn ⟨Tryd.prog, gl0, EV59, PV59⟩ Tryd.f8 aF_law13_RouteParts eF_law13_RouteParts.ps eF_law13_RouteParts.rs = eF_law13_RouteParts.F := by kernel_rfl
def EV60 : List VEnt := eF_law13_RouteParts :: EV59
def ZV60 : List VEnt := ZV59
def KV60 : PureK := KV59
def NV60 : List FuncId := 8 :: NV59
def PV60 : List FuncId := PV59
theorem CV60 : Ch Tryd.prog gl0 Wa0 KV60 NV60 ZV60 EV60 := Ch.addG CV59 (by kernel_rfl) (by kernel_rfl) (by kernel_rfl) Tryd.func8 (by decide) tF_law13_RouteParts
def F_law13_RouteOrder (a0 : (List UInt8)) (a1 : (List UInt8)) (a2 : (List UInt8)) : Option (Bool × Unit) :=
  F_law13_awake.bind fun v0 => bif !v0.1 then (some (false, ())) else (bif decide ((a0.length : Int) > 100) then (some (true, ())) else (bif decide ((a1.length : Int) > 100) then (some (true, ())) else (bif decide ((a2.length : Int) > 100) then (some (true, ())) else ((F_route_Compare a0 a1).bind fun v1 => (F_route_Compare a1 a2).bind fun v2 => (F_route_Compare a0 a2).bind fun v3 => ((F_route_Compare a1 a0).bind fun v4 => bif v1.1 != (IntKind.i64.wrap (0 - v4.1)) then (some (.inl ())) else (bif decide (v1.1 ≤ 0) then (bif decide (v2.1 ≤ 0) then (bif decide (v3.1 > 0) then (some (.inl ())) else (bif decide (v1.1 < 0) then (bif decide (v2.1 ≤ 0) then (bif decide (v3.1 ≥ 0) then (some (.inl ())) else (some (.inr ()))) else (some (.inr ()))) else (some (.inr ())))) else (bif decide (v1.1 < 0) then (bif decide (v2.1 ≤ 0) then (bif decide (v3.1 ≥ 0) then (some (.inl ())) else (some (.inr ()))) else (some (.inr ()))) else (some (.inr ())))) else (bif decide (v1.1 < 0) then (bif decide (v2.1 ≤ 0) then (bif decide (v3.1 ≥ 0) then (some (.inl ())) else (some (.inr ()))) else (some (.inr ()))) else (some (.inr ()))))).bind fun v5 => sumK v5 (fun v6 => some (false, ())) (fun v7 => ((F_route_Under a2 a0).bind fun v8 => bif v8.1 then (bif decide (v1.1 < 0) then (bif !(decide (v2.1 < 0)) then (some (true, ())) else ((F_route_Under a1 a0).bind fun v9 => some v9)) else (some (true, ()))) else (some (true, ()))).bind fun v10 => some v10)))))
def eF_law13_RouteOrder : VEnt := ⟨9, ⟨[.pv .str, .pv .str, .pv .str], []⟩, [⟨[.pv .bool], []⟩], fun q => F_law13_RouteOrder q.1 q.2.1 q.2.2.1⟩
def aF_law13_RouteOrder : Ann := .s .z (.s .z (.s .z (.s .z (.j [(.ret, ⟨mkT 81 0 [(6, .kb false)], []⟩), (.normal, ⟨mkT 81 0 [], []⟩)] .z (.j [(.normal, ⟨mkT 81 0 [(6, .pv .bool)], []⟩)] .z .z)))))
theorem tF_law13_RouteOrder : vfn ⟨Tryd.prog, gl0, EV60, PV60⟩ Tryd.f9 aF_law13_RouteOrder eF_law13_RouteOrder.ps eF_law13_RouteOrder.rs = eF_law13_RouteOrder.F := by kernel_rfl
def EV61 : List VEnt := eF_law13_RouteOrder :: EV60
def ZV61 : List VEnt := ZV60
def KV61 : PureK := KV60
def NV61 : List FuncId := 9 :: NV60
def PV61 : List FuncId := PV60
theorem CV61 : Ch Tryd.prog gl0 Wa0 KV61 NV61 ZV61 EV61 := Ch.addG CV60 (by kernel_rfl) (by kernel_rfl) (by kernel_rfl) Tryd.func9 (by decide) tF_law13_RouteOrder
def F_internal_stringslite_CutPrefix (a0 : (List UInt8)) (a1 : (List UInt8)) : Option ((List UInt8) × (Bool × Unit)) :=
  (F_internal_stringslite_HasPrefix a0 a1).bind fun v0 => bif !v0.1 then (some (a0, (false, ()))) else ((subS a0 (a1.length : Int) (a0.length : Int)).bind fun v1 => some (v1, (true, ())))
def eF_internal_stringslite_CutPrefix : VEnt := ⟨79, ⟨[.pv .str, .pv .str], []⟩, [⟨[.tup (.cn (.pv .str) (.cn (.pv .bool) (.nl)))], []⟩], fun q => F_internal_stringslite_CutPrefix q.1 q.2.1⟩
def aF_internal_stringslite_CutPrefix : Ann := .z
theorem tF_internal_stringslite_CutPrefix : vfn ⟨Tryd.prog, [], ZV61, PV61⟩ Tryd.f79 aF_internal_stringslite_CutPrefix eF_internal_stringslite_CutPrefix.ps eF_internal_stringslite_CutPrefix.rs = eF_internal_stringslite_CutPrefix.F := by kernel_rfl
def EV62 : List VEnt := eF_internal_stringslite_CutPrefix :: EV61
def ZV62 : List VEnt := eF_internal_stringslite_CutPrefix :: ZV61
def KV62 : PureK := addK KV61 79 (kOf eF_internal_stringslite_CutPrefix)
def NV62 : List FuncId := NV61
def PV62 : List FuncId := 79 :: PV61
theorem CV62 : Ch Tryd.prog gl0 Wa0 KV62 NV62 ZV62 EV62 := Ch.pure mixedV noGoroutineV CV61 (by kernel_rfl) (by kernel_rfl) (by kernel_rfl) Tryd.func79 (by decide) (by kernel_rfl) tF_internal_stringslite_CutPrefix
def F_strings_CutPrefix (a0 : (List UInt8)) (a1 : (List UInt8)) : Option ((List UInt8) × (Bool × Unit)) :=
  (F_internal_stringslite_CutPrefix a0 a1).bind fun v0 => some v0
def eF_strings_CutPrefix : VEnt := ⟨54, ⟨[.pv .str, .pv .str], []⟩, [⟨[.tup (.cn (.pv .str) (.cn (.pv .bool) (.nl)))], []⟩], fun q => F_strings_CutPrefix q.1 q.2.1⟩
def aF_strings_CutPrefix : Ann := .z
theorem tF_strings_CutPrefix : vfn ⟨Tryd.prog, [], ZV62, PV62⟩ Tryd.f54 aF_strings_CutPrefix eF_strings_CutPrefix.ps eF_strings_CutPrefix.rs = eF_strings_CutPrefix.F := by kernel_rfl
def EV63 : List VEnt := eF_strings_CutPrefix :: EV62
def ZV63 : List VEnt := eF_strings_CutPrefix :: ZV62
def KV63 : PureK := addK KV62 54 (kOf eF_strings_CutPrefix)
def NV63 : List FuncId := NV62
def PV63 : List FuncId := 54 :: PV62
theorem CV63 : Ch Tryd.prog gl0 Wa0 KV63 NV63 ZV63 EV63 := Ch.pure mixedV noGoroutineV CV62 (by kernel_rfl) (by kernel_rfl) (by kernel_rfl) Tryd.func54 (by decide) (by kernel_rfl) tF_strings_CutPrefix
def F_mark_marked (a0 : (List UInt8)) : Option (Bool × Unit) :=
  (F_strings_HasPrefix a0 ([46, 119, 104, 46] : List UInt8)).bind fun v0 => some v0
def eF_mark_marked : VEnt := ⟨56, ⟨[.pv .str], []⟩, [⟨[.pv .bool], []⟩], fun q => F_mark_marked q.1⟩
def aF_mark_marked : Ann := .z
theorem tF_mark_marked : vfn ⟨Tryd.prog, [], ZV63, PV63⟩ Tryd.f56 aF_mark_marked eF_mark_marked.ps eF_mark_marked.rs = eF_mark_marked.F := by kernel_rfl
def EV64 : List VEnt := eF_mark_marked :: EV63
def ZV64 : List VEnt := eF_mark_marked :: ZV63
def KV64 : PureK := addK KV63 56 (kOf eF_mark_marked)
def NV64 : List FuncId := NV63
def PV64 : List FuncId := 56 :: PV63
theorem CV64 : Ch Tryd.prog gl0 Wa0 KV64 NV64 ZV64 EV64 := Ch.pure mixedV noGoroutineV CV63 (by kernel_rfl) (by kernel_rfl) (by kernel_rfl) Tryd.func56 (by decide) (by kernel_rfl) tF_mark_marked
def F_slices_IndexFunc_string_string__mark_marked (a0 : (List (List UInt8))) : Option (Int × Unit) :=
  (iter (fun v0 => bif decide (v0.1 < (a0.length : Int)) then ((idxL a0 v0.1).bind fun v1 => (F_mark_marked v1).bind fun v2 => bif v2.1 then (some (.inr (.inl v0))) else (some (.inl (IntKind.i64.wrap (v0.1 + 1), ())))) else (some (.inr (.inr ())))) NF ((0 : Int), ())).bind fun v3 => sumK v3 (fun v4 => some v4) (fun v5 => some (((-1) : Int), ()))
def eF_slices_IndexFunc_string_string__mark_marked : VEnt := ⟨80, ⟨[.pv (.lst .str), .fn 56 (.nl) (.nl)], []⟩, [⟨[.pv (.int .i64)], []⟩], fun q => F_slices_IndexFunc_string_string__mark_marked q.1⟩
def aF_slices_IndexFunc_string_string__mark_marked : Ann := .s .z (.s (.s .z (.l ⟨mkT 19 0 [(1, .fn 56 (.nl) (.nl)), (8, .pv (.int .i64))], []⟩ [(.ret, ⟨mkT 19 0 [(4, .pv (.int .i64))], []⟩), ((.exit 0), ⟨mkT 19 0 [], []⟩)] .z)) .z)
theorem tF_slices_IndexFunc_string_string__mark_marked : vfn ⟨Tryd.prog, [], ZV64, PV64⟩ Tryd.f80 aF_slices_IndexFunc_string_string__mark_marked eF_slices_IndexFunc_string_string__mark_marked.ps eF_slices_IndexFunc_string_string__mark_marked.rs = eF_slices_IndexFunc_string_string__mark_marked.F := by kernel_rfl
def EV65 : List VEnt := eF_slices_IndexFunc_string_string__mark_marked :: EV64
def ZV65 : List VEnt := eF_slices_IndexFunc_string_string__mark_marked :: ZV64
def KV65 : PureK := KV64
def NV65 : List FuncId := 80 :: NV64
def PV65 : List FuncId := PV64
theorem CV65 : Ch Tryd.prog gl0 Wa0 KV65 NV65 ZV65 EV65 := Ch.add0 CV64 (by kernel_rfl) (by kernel_rfl) (by kernel_rfl) Tryd.func80 (by decide) tF_slices_IndexFunc_string_string__mark_marked
def F_slices_ContainsFunc_string_string__mark_marked (a0 : (List (List UInt8))) : Option (Bool × Unit) :=
  (F_slices_IndexFunc_string_string__mark_marked a0).bind fun v0 => some (decide (v0.1 ≥ 0), ())
def eF_slices_ContainsFunc_string_string__mark_marked : VEnt := ⟨55, ⟨[.pv (.lst .str), .fn 56 (.nl) (.nl)], []⟩, [⟨[.pv .bool], []⟩], fun q => F_slices_ContainsFunc_string_string__mark_marked q.1⟩
def aF_slices_ContainsFunc_string_string__mark_marked : Ann := .z
theorem tF_slices_ContainsFunc_string_string__mark_marked : vfn ⟨Tryd.prog, [], ZV65, PV65⟩ Tryd.f55 aF_slices_ContainsFunc_string_string__mark_marked eF_slices_ContainsFunc_string_string__mark_marked.ps eF_slices_ContainsFunc_string_string__mark_marked.rs = eF_slices_ContainsFunc_string_string__mark_marked.F := by kernel_rfl
def EV66 : List VEnt := eF_slices_ContainsFunc_string_string__mark_marked :: EV65
def ZV66 : List VEnt := eF_slices_ContainsFunc_string_string__mark_marked :: ZV65
def KV66 : PureK := KV65
def NV66 : List FuncId := 55 :: NV65
def PV66 : List FuncId := PV65
theorem CV66 : Ch Tryd.prog gl0 Wa0 KV66 NV66 ZV66 EV66 := Ch.add0 CV65 (by kernel_rfl) (by kernel_rfl) (by kernel_rfl) Tryd.func55 (by decide) tF_slices_ContainsFunc_string_string__mark_marked
def F_mark_Kind (a0 : (List UInt8)) : Option (Int × ((List UInt8) × (Int × Unit))) :=
  (F_route_Check a0).bind fun v0 => bif v0.1 != 0 then (some ((0 : Int), ((([] : (List UInt8)) : List UInt8), v0))) else ((F_route_Parent a0).bind fun v1 => (F_route_Base a0).bind fun v2 => (F_strings_CutPrefix v2.1 ([46, 119, 104, 46] : List UInt8)).bind fun v3 => (F_route_Parts v1.1).bind fun v4 => (F_slices_ContainsFunc_string_string__mark_marked v4.1).bind fun v5 => bif v5.1 then (some ((0 : Int), ((([] : (List UInt8)) : List UInt8), ((11 : Int), ())))) else (bif !v3.2.1 then (some ((0 : Int), (a0, ((0 : Int), ())))) else (bif v2.1 == [46, 119, 104, 46, 46, 119, 104, 46, 46, 111, 112, 113] then (some ((2 : Int), (v1.1, ((0 : Int), ())))) else ((F_mark_marked v3.1).bind fun v6 => bif v6.1 then (some ((0 : Int), ((([] : (List UInt8)) : List UInt8), ((11 : Int), ())))) else ((F_route_Check v3.1).bind fun v7 => bif v7.1 != 0 then (some ((0 : Int), ((([] : (List UInt8)) : List UInt8), ((11 : Int), ())))) else ((F_route_Join v1.1 v3.1).bind fun v8 => some ((1 : Int), (v8.1, ((0 : Int), ())))))))))
def eF_mark_Kind : VEnt := ⟨18, ⟨[.pv .str], []⟩, [⟨[.tup (.cn (.pv (.int .i64)) (.cn (.pv .str) (.cn (.pv (.int .i64)) (.nl))))], []⟩], fun q => F_mark_Kind q.1⟩
def aF_mark_Kind : Ann := .z
theorem tF_mark_Kind : vfn ⟨Tryd.prog, gl0, EV66, PV66⟩ Tryd.f18 aF_mark_Kind eF_mark_Kind.ps eF_mark_Kind.rs = eF_mark_Kind.F := by kernel_rfl
def EV67 : List VEnt := eF_mark_Kind :: EV66
def ZV67 : List VEnt := ZV66
def KV67 : PureK := KV66
def NV67 : List FuncId := 18 :: NV66
def PV67 : List FuncId := PV66
theorem CV67 : Ch Tryd.prog gl0 Wa0 KV67 NV67 ZV67 EV67 := Ch.addG CV66 (by kernel_rfl) (by kernel_rfl) (by kernel_rfl) Tryd.func18 (by decide) tF_mark_Kind
def F_mark_path (a0 : Int) (a1 : (List UInt8)) : Option ((List UInt8) × Unit) :=
  (F_route_Parent a1).bind fun v0 => bif a0 == 1 then ((F_route_Base a1).bind fun v1 => (cat ([46, 119, 104, 46] : List UInt8) v1.1).bind fun v2 => (F_route_Join v0.1 v2).bind fun v3 => some v3) else (bif a0 == 2 then ((F_route_Join a1 ([46, 119, 104, 46, 46, 119, 104, 46, 46, 111, 112, 113] : List UInt8)).bind fun v4 => some v4) else (some (a1, ())))
def eF_mark_path : VEnt := ⟨59, ⟨[.pv (.int .i64), .pv .str], []⟩, [⟨[.pv .str], []⟩], fun q => F_mark_path q.1 q.2.1⟩
def aF_mark_path : Ann := .z
theorem tF_mark_path : vfn ⟨Tryd.prog, [], ZV67, PV67⟩ Tryd.f59 aF_mark_path eF_mark_path.ps eF_mark_path.rs = eF_mark_path.F := by kernel_rfl
def EV68 : List VEnt := eF_mark_path :: EV67
def ZV68 : List VEnt := eF_mark_path :: ZV67
def KV68 : PureK := addK KV67 59 (kOf eF_mark_path)
def NV68 : List FuncId := NV67
def PV68 : List FuncId := 59 :: PV67
theorem CV68 : Ch Tryd.prog gl0 Wa0 KV68 NV68 ZV68 EV68 := Ch.pure mixedV noGoroutineV CV67 (by kernel_rfl) (by kernel_rfl) (by kernel_rfl) Tryd.func59 (by decide) (by kernel_rfl) tF_mark_path
def F_mark_Path (a0 : Int) (a1 : (List UInt8)) : Option ((List UInt8) × (Int × Unit)) :=
  (F_mark_path a0 a1).bind fun v0 => ((F_route_Check a1).bind fun v1 => bif v1.1 != 0 then (bif a0 != 2 then (some (true, ())) else (some (!(a1 == ([] : (List UInt8))), ()))) else (some (false, ()))).bind fun v2 => bif v2.1 then (some ((([] : (List UInt8)) : List UInt8), ((5 : Int), ()))) else ((F_route_Check v0.1).bind fun v3 => bif v3.1 != 0 then (some ((([] : (List UInt8)) : List UInt8), ((5 : Int), ()))) else ((F_route_Parts a1).bind fun v4 => (F_slices_ContainsFunc_string_string__mark_marked v4.1).bind fun v5 => bif v5.1 then (some ((([] : (List UInt8)) : List UInt8), ((11 : Int), ()))) else (bif decide (a0 < 0) then (some ((([] : (List UInt8)) : List UInt8), ((1 : Int), ()))) else (bif decide (a0 > 2) then (some ((([] : (List UInt8)) : List UInt8), ((1 : Int), ()))) else (some (v0.1, ((0 : Int), ())))))))
def eF_mark_Path : VEnt := ⟨20, ⟨[.pv (.int .i64), .pv .str], []⟩, [⟨[.tup (.cn (.pv .str) (.cn (.pv (.int .i64)) (.nl)))], []⟩], fun q => F_mark_Path q.1 q.2.1⟩
def aF_mark_Path : Ann := .s .z (.s .z (.s (.s (.j [(.normal, ⟨mkT 37 0 [(10, .pv .bool)], []⟩)] .z .z) .z) .z))
theorem tF_mark_Path : vfn ⟨Tryd.prog, gl0, EV68, PV68⟩ Tryd.f20 aF_mark_Path eF_mark_Path.ps eF_mark_Path.rs = eF_mark_Path.F := by kernel_rfl
def EV69 : List VEnt := eF_mark_Path :: EV68
def ZV69 : List VEnt := ZV68
def KV69 : PureK := KV68
def NV69 : List FuncId := 20 :: NV68
def PV69 : List FuncId := PV68
theorem CV69 : Ch Tryd.prog gl0 Wa0 KV69 NV69 ZV69 EV69 := Ch.addG CV68 (by kernel_rfl) (by kernel_rfl) (by kernel_rfl) Tryd.func20 (by decide) tF_mark_Path
def F_law22_awake : Option (Bool × Unit) :=
  (F_mark_Kind ([97, 47, 46, 119, 104, 46, 98] : List UInt8)).bind fun v0 => (F_mark_Path (2 : Int) ([97] : List UInt8)).bind fun v1 => (F_mark_Kind ([46, 119, 104, 46, 97, 47, 98] : List UInt8)).bind fun v2 => (bif v0.1 == 1 then (bif v0.2.1 == [97, 47, 98] then (bif v0.2.2.1 == 0 then (bif v1.1 == [97, 47, 46, 119, 104, 46, 46, 119, 104, 46, 46, 111, 112, 113] then (bif v1.2.1 == 0 then (some (v2.2.2.1 == 11, ())) else (some (false, ()))) else (some (false, ()))) else (some (false, ()))) else (some (false, ()))) else (some (false, ()))).bind fun v3 => some v3
def eF_law22_awake : VEnt := ⟨17, ⟨[], []⟩, [⟨[.pv .bool], []⟩], fun q => F_law22_awake⟩
def aF_law22_awake : Ann := .s .z (.s .z (.s .z (.s .z (.j [(.normal, ⟨mkT 45 0 [(0, .pv .bool)], []⟩)] .z .z))))
theorem tF_law22_awake : vfn ⟨Tryd.prog, gl0, EV69, PV69⟩ Tryd.f17 aF_law22_awake eF_law22_awake.ps eF_law22_awake.rs = eF_law22_awake.F := by kernel_rfl
def EV70 : List VEnt := eF_law22_awake :: EV69
def ZV70 : List VEnt := ZV69
def KV70 : PureK := KV69
def NV70 : List FuncId := 17 :: NV69
def PV70 : List FuncId := PV69
theorem CV70 : Ch Tryd.prog gl0 Wa0 KV70 NV70 ZV70 EV70 := Ch.addG CV69 (by kernel_rfl) (by kernel_rfl) (by kernel_rfl) Tryd.func17 (by decide) tF_law22_awake
def F_ref22_begins (a0 : (List UInt8)) : Option (Bool × Unit) :=
  (bif decide ((a0.length : Int) ≥ 4) then ((subS a0 (0 : Int) (4 : Int)).bind fun v0 => some (v0 == [46, 119, 104, 46], ())) else (some (false, ()))).bind fun v1 => some v1
def eF_ref22_begins : VEnt := ⟨57, ⟨[.pv .str], []⟩, [⟨[.pv .bool], []⟩], fun q => F_ref22_begins q.1⟩
def aF_ref22_begins : Ann := .s .z (.j [(.normal, ⟨mkT 11 0 [(2, .pv .bool)], []⟩)] .z .z)
theorem tF_ref22_begins : vfn ⟨Tryd.prog, [], ZV70, PV70⟩ Tryd.f57 aF_ref22_begins eF_ref22_begins.ps eF_ref22_begins.rs = eF_ref22_begins.F := by kernel_rfl
def EV71 : List VEnt := eF_ref22_begins :: EV70
def ZV71 : List VEnt := eF_ref22_begins :: ZV70
def KV71 : PureK := addK KV70 57 (kOf eF_ref22_begins)
def NV71 : List FuncId := NV70
def PV71 : List FuncId := 57 :: PV70
theorem CV71 : Ch Tryd.prog gl0 Wa0 KV71 NV71 ZV71 EV71 := Ch.pure mixedV noGoroutineV CV70 (by kernel_rfl) (by kernel_rfl) (by kernel_rfl) Tryd.func57 (by decide) (by kernel_rfl) tF_ref22_begins
def F_ref22_Kind (a0 : (List UInt8)) : Option (Int × ((List UInt8) × (Int × Unit))) :=
  (F_ref13_Right a0).bind fun v0 => bif !v0.1 then (some ((0 : Int), ((([] : (List UInt8)) : List UInt8), ((5 : Int), ())))) else ((F_ref13_Parts a0).bind fun v1 => (iter (fun v2 => bif decide (v2.1 < (IntKind.i64.wrap ((v1.1.length : Int) - 1))) then ((idxL v2.2.1 v2.1).bind fun v3 => (idxL v2.2.1 v2.1).bind fun v4 => (F_ref22_begins v4).bind fun v5 => bif v5.1 then (some (.inr (.inl ((0 : Int), ((([] : (List UInt8)) : List UInt8), ((11 : Int), ())))))) else (some (.inl (IntKind.i64.wrap (v2.1 + 1), v2.2)))) else (some (.inr (.inr v2.2)))) NF ((0 : Int), v1)).bind fun v6 => sumK v6 (fun v7 => some v7) (fun v8 => (idxL v8.1 (IntKind.i64.wrap ((v1.1.length : Int) - 1))).bind fun v9 => (idxL v8.1 (IntKind.i64.wrap ((v1.1.length : Int) - 1))).bind fun v10 => (F_ref22_begins v10).bind fun v11 => bif !v11.1 then (some ((0 : Int), (a0, ((0 : Int), ())))) else ((chkSub (v8.1.length : Int) (0 : Int) (IntKind.i64.wrap ((v1.1.length : Int) - 1))).bind fun v12 => (F_ref13_Joined (oTD v8.1 (0 : Int) (IntKind.i64.wrap ((v1.1.length : Int) - 1)))).bind fun v13 => (idxL v8.1 (IntKind.i64.wrap ((v1.1.length : Int) - 1))).bind fun v14 => (idxL v8.1 (IntKind.i64.wrap ((v1.1.length : Int) - 1))).bind fun v15 => bif v15 == [46, 119, 104, 46, 46, 119, 104, 46, 46, 111, 112, 113] then (some ((2 : Int), (v13.1, ((0 : Int), ())))) else ((idxL v8.1 (IntKind.i64.wrap ((v1.1.length : Int) - 1))).bind fun v16 => (idxL v8.1 (IntKind.i64.wrap ((v1.1.length : Int) - 1))).bind fun v17 => (subS v17 (4 : Int) (v17.length : Int)).bind fun v18 => (F_ref22_begins v18).bind fun v19 => bif v19.1 then (some ((0 : Int), ((([] : (List UInt8)) : List UInt8), ((11 : Int), ())))) else ((F_ref13_Right v18).bind fun v20 => bif !v20.1 then (some ((0 : Int), ((([] : (List UInt8)) : List UInt8), ((11 : Int), ())))) else ((F_ref13_Join v13.1 v18).bind fun v21 => some ((1 : Int), (v21.1, ((0 : Int), ())))))))))
def eF_ref22_Kind : VEnt := ⟨19, ⟨[.pv .str], []⟩, [⟨[.tup (.cn (.pv (.int .i64)) (.cn (.pv .str) (.cn (.pv (.int .i64)) (.nl))))], []⟩], fun q => F_ref22_Kind q.1⟩
def aF_ref22_Kind : Ann := .s .z (.s .z (.s .z (.s .z (.s (.s .z (.l ⟨mkT 60 0 [(5, .row 0), (7, .pv (.int .i64))], [.row 9 .str]⟩ [(.ret, ⟨mkT 60 0 [(2, .pv (.int .i64)), (3, .pv .str), (4, .pv (.int .i64))], []⟩), ((.exit 0), ⟨mkT 60 0 [(5, .row 0)], [.row 9 .str]⟩)] .z)) .z))))
theorem tF_ref22_Kind : vfn ⟨Tryd.prog, [], ZV71, PV71⟩ Tryd.f19 aF_ref22_Kind eF_ref22_Kind.ps eF_ref22_Kind.rs = eF_ref22_Kind.F := by kernel_rfl
def EV72 : List VEnt := eF_ref22_Kind :: EV71
def ZV72 : List VEnt := eF_ref22_Kind :: ZV71
def KV72 : PureK := addK KV71 19 (kOf eF_ref22_Kind)
def NV72 : List FuncId := NV71
def PV72 : List FuncId := 19 :: PV71
theorem CV72 : Ch Tryd.prog gl0 Wa0 KV72 NV72 ZV72 EV72 := Ch.pure mixedV noGoroutineV CV71 (by kernel_rfl) (by kernel_rfl) (by kernel_rfl) Tryd.func19 (by decide) (by kernel_rfl) tF_ref22_Kind
def F_law22_MarkKinds (a0 : (List UInt8)) : Option (Bool × Unit) :=
  F_law22_awake.bind fun v0 => bif !v0.1 then (some (false, ())) else (bif decide ((a0.length : Int) > 300) then (some (true, ())) else ((F_mark_Kind a0).bind fun v1 => (F_ref22_Kind a0).bind fun v2 => bif v1.1 != v2.1 then (some (false, ())) else (bif !(v1.2.1 == v2.2.1) then (some (false, ())) else (bif v1.2.2.1 != v2.2.2.1 then (some (false, ())) else (bif v2.2.2.1 != 0 then (some (true, ())) else ((F_mark_Path v1.1 v1.2.1).bind fun v3 => (bif v3.1 == a0 then (some (v3.2.1 == 0, ())) else (some (false, ()))).bind fun v4 => some v4))))))
def eF_law22_MarkKinds : VEnt := ⟨5, ⟨[.pv .str], []⟩, [⟨[.pv .bool], []⟩], fun q => F_law22_MarkKinds q.1⟩
def aF_law22_MarkKinds : Ann := .s .z (.s .z (.s .z (.s .z (.s .z (.s .z (.s .z (.s .z (.j [(.normal, ⟨mkT 56 0 [(2, .pv .bool)], []⟩)] .z .z))))))))
theorem tF_law22_MarkKinds : vfn ⟨Tryd.prog, gl0, EV72, PV72⟩ Tryd.f5 aF_law22_MarkKinds eF_law22_MarkKinds.ps eF_law22_MarkKinds.rs = eF_law22_MarkKinds.F := by kernel_rfl
def EV73 : List VEnt := eF_law22_MarkKinds :: EV72
def ZV73 : List VEnt := ZV72
def KV73 : PureK := KV72
def NV73 : List FuncId := 5 :: NV72
def PV73 : List FuncId := PV72
theorem CV73 : Ch Tryd.prog gl0 Wa0 KV73 NV73 ZV73 EV73 := Ch.addG CV72 (by kernel_rfl) (by kernel_rfl) (by kernel_rfl) Tryd.func5 (by decide) tF_law22_MarkKinds
def F_ref22_Clear (a0 : (List UInt8)) : Option (Bool × Unit) :=
  (F_ref13_Parts a0).bind fun v0 => (iter (fun v1 => bif decide (v1.1 < (v1.2.1.length : Int)) then ((idxL v1.2.1 v1.1).bind fun v2 => (idxL v1.2.1 v1.1).bind fun v3 => (F_ref22_begins v3).bind fun v4 => bif v4.1 then (some (.inr (.inl ()))) else (some (.inl (IntKind.i64.wrap (v1.1 + 1), v1.2)))) else (some (.inr (.inr ())))) NF ((0 : Int), v0)).bind fun v5 => sumK v5 (fun v6 => some (false, ())) (fun v7 => some (true, ()))
def eF_ref22_Clear : VEnt := ⟨60, ⟨[.pv .str], []⟩, [⟨[.pv .bool], []⟩], fun q => F_ref22_Clear q.1⟩
def aF_ref22_Clear : Ann := .s .z (.s .z (.s (.s .z (.l ⟨mkT 18 0 [(3, .row 0), (4, .pv (.int .i64))], [.row 9 .str]⟩ [(.ret, ⟨mkT 18 0 [(2, .kb false)], []⟩), ((.exit 0), ⟨mkT 18 0 [], []⟩)] .z)) .z))
theorem tF_ref22_Clear : vfn ⟨Tryd.prog, [], ZV73, PV73⟩ Tryd.f60 aF_ref22_Clear eF_ref22_Clear.ps eF_ref22_Clear.rs = eF_ref22_Clear.F := by kernel_rfl
def EV74 : List VEnt := eF_ref22_Clear :: EV73
def ZV74 : List VEnt := eF_ref22_Clear :: ZV73
def KV74 : PureK := addK KV73 60 (kOf eF_ref22_Clear)
def NV74 : List FuncId := NV73
def PV74 : List FuncId := 60 :: PV73
theorem CV74 : Ch Tryd.prog gl0 Wa0 KV74 NV74 ZV74 EV74 := Ch.pure mixedV noGoroutineV CV73 (by kernel_rfl) (by kernel_rfl) (by kernel_rfl) Tryd.func60 (by decide) (by kernel_rfl) tF_ref22_Clear
def F_ref22_Path (a0 : Int) (a1 : (List UInt8)) : Option ((List UInt8) × (Int × Unit)) :=
  ((F_ref13_Right a1).bind fun v0 => bif !v0.1 then (bif a0 != 2 then (some (.inl ((([] : (List UInt8)) : List UInt8), ((5 : Int), ())))) else (bif !(a1 == ([] : (List UInt8))) then (some (.inl ((([] : (List UInt8)) : List UInt8), ((5 : Int), ())))) else (some (.inr ())))) else (some (.inr ()))).bind fun v1 => sumK v1 (fun v2 => some v2) (fun v3 => (bif a0 == 1 then ((F_ref13_Parent a1).bind fun v4 => (F_ref13_Base a1).bind fun v5 => (cat ([46, 119, 104, 46] : List UInt8) v5.1).bind fun v6 => (F_ref13_Join v4.1 v6).bind fun v7 => some v7) else (some (a1, ()))).bind fun v8 => (bif a0 == 2 then ((F_ref13_Join a1 ([46, 119, 104, 46, 46, 119, 104, 46, 46, 111, 112, 113] : List UInt8)).bind fun v9 => some v9) else (some v8)).bind fun v10 => (F_ref13_Right v10.1).bind fun v11 => bif !v11.1 then (some ((([] : (List UInt8)) : List UInt8), ((5 : Int), ()))) else ((F_ref22_Clear a1).bind fun v12 => bif !v12.1 then (some ((([] : (List UInt8)) : List UInt8), ((11 : Int), ()))) else (bif decide (a0 < 0) then (some ((([] : (List UInt8)) : List UInt8), ((1 : Int), ()))) else (bif decide (a0 > 2) then (some ((([] : (List UInt8)) : List UInt8), ((1 : Int), ()))) else (some (v10.1, ((0 : Int), ())))))))
def eF_ref22_Path : VEnt := ⟨21, ⟨[.pv (.int .i64), .pv .str], []⟩, [⟨[.tup (.cn (.pv .str) (.cn (.pv (.int .i64)) (.nl)))], []⟩], fun q => F_ref22_Path q.1 q.2.1⟩
def aF_ref22_Path : Ann := .s .z (.j [(.ret, ⟨mkT 50 0 [(4, .pv .str), (5, .pv (.int .i64))], []⟩), (.normal, ⟨mkT 50 0 [], []⟩)] .z (.s .z (.j [(.normal, ⟨mkT 50 0 [(6, .pv .str)], []⟩)] .z (.j [(.normal, ⟨mkT 50 0 [(6, .pv .str)], []⟩)] .z .z))))
theorem tF_ref22_Path : vfn ⟨Tryd.prog, [], ZV74, PV74⟩ Tryd.f21 aF_ref22_Path eF_ref22_Path.ps eF_ref22_Path.rs = eF_ref22_Path.F := by kernel_rfl
def EV75 : List VEnt := eF_ref22_Path :: EV74
def ZV75 : List VEnt := eF_ref22_Path :: ZV74
def KV75 : PureK := addK KV74 21 (kOf eF_ref22_Path)
def NV75 : List FuncId := NV74
def PV75 : List FuncId := 21 :: PV74
theorem CV75 : Ch Tryd.prog gl0 Wa0 KV75 NV75 ZV75 EV75 := Ch.pure mixedV noGoroutineV CV74 (by kernel_rfl) (by kernel_rfl) (by kernel_rfl) Tryd.func21 (by decide) (by kernel_rfl) tF_ref22_Path
def F_law22_MarkPaths (a0 : Int) (a1 : (List UInt8)) : Option (Bool × Unit) :=
  F_law22_awake.bind fun v0 => bif !v0.1 then (some (false, ())) else (bif decide ((a1.length : Int) > 300) then (some (true, ())) else ((F_mark_Path a0 a1).bind fun v1 => (F_ref22_Path a0 a1).bind fun v2 => bif !(v1.1 == v2.1) then (some (false, ())) else (bif v1.2.1 != v2.2.1 then (some (false, ())) else (bif v2.2.1 != 0 then (some (true, ())) else ((F_mark_Kind v1.1).bind fun v3 => (bif v3.1 == a0 then (bif v3.2.1 == a1 then (some (v3.2.2.1 == 0, ())) else (some (false, ()))) else (some (false, ()))).bind fun v4 => some v4)))))
def eF_law22_MarkPaths : VEnt := ⟨6, ⟨[.pv (.int .i64), .pv .str], []⟩, [⟨[.pv .bool], []⟩], fun q => F_law22_MarkPaths q.1 q.2.1⟩
def aF_law22_MarkPaths : Ann := .s .z (.s .z (.s .z (.s .z (.s .z (.s .z (.s .z (.s .z (.j [(.normal, ⟨mkT 57 0 [(4, .pv .bool)], []⟩)] .z .z))))))))
theorem tF_law22_MarkPaths : vfn ⟨Tryd.prog, gl0, EV75, PV75⟩ Tryd.f6 aF_law22_MarkPaths eF_law22_MarkPaths.ps eF_law22_MarkPaths.rs = eF_law22_MarkPaths.F := by kernel_rfl
def EV76 : List VEnt := eF_law22_MarkPaths :: EV75
def ZV76 : List VEnt := ZV75
def KV76 : PureK := KV75
def NV76 : List FuncId := 6 :: NV75
def PV76 : List FuncId := PV75
theorem CV76 : Ch Tryd.prog gl0 Wa0 KV76 NV76 ZV76 EV76 := Ch.addG CV75 (by kernel_rfl) (by kernel_rfl) (by kernel_rfl) Tryd.func6 (by decide) tF_law22_MarkPaths
def F_attr_bring (a0 : Int) (a1 : Int) : Option (Int × Unit) :=
  some (minI (maxI a0 (0 : Int)) a1, ())
def eF_attr_bring : VEnt := ⟨47, ⟨[.pv (.int .i64), .pv (.int .i64)], []⟩, [⟨[.pv (.int .i64)], []⟩], fun q => F_attr_bring q.1 q.2.1⟩
def aF_attr_bring : Ann := .z
theorem tF_attr_bring : vfn ⟨Tryd.prog, [], ZV76, PV76⟩ Tryd.f47 aF_attr_bring eF_attr_bring.ps eF_attr_bring.rs = eF_attr_bring.F := by kernel_rfl
def EV77 : List VEnt := eF_attr_bring :: EV76
def ZV77 : List VEnt := eF_attr_bring :: ZV76
def KV77 : PureK := addK KV76 47 (kOf eF_attr_bring)
def NV77 : List FuncId := NV76
def PV77 : List FuncId := 47 :: PV76
theorem CV77 : Ch Tryd.prog gl0 Wa0 KV77 NV77 ZV77 EV77 := Ch.pure mixedV noGoroutineV CV76 (by kernel_rfl) (by kernel_rfl) (by kernel_rfl) Tryd.func47 (by decide) (by kernel_rfl) tF_attr_bring
def F_attr_Of (a0 : (Int × (Int × (Int × (Int × (Int × (Int × (Int × (Int × (Int × (Int × (Int × ((List UInt8) × ((List UInt8) × ((List UInt8) × Unit))))))))))))))) : Option (((List UInt8) × (Bool × ((List UInt8) × (Int × (Int × Unit))))) × (Int × Unit)) :=
  (F_attr_bring a0.2.2.2.2.2.2.2.2.2.1 (4294967295 : Int)).bind fun v0 => (F_strings_HasSuffix a0.2.2.2.2.2.2.2.2.2.2.2.1 ([47] : List UInt8)).bind fun v1 => (F_attr_bring a0.2.2.2.2.1 (4294967295 : Int)).bind fun v2 => (bif v1.1 then (some (a0.1, (a0.2.1, (a0.2.2.1, (a0.2.2.2.1, (a0.2.2.2.2.1, (a0.2.2.2.2.2.1, (a0.2.2.2.2.2.2.1, (a0.2.2.2.2.2.2.2.1, (a0.2.2.2.2.2.2.2.2.1, (a0.2.2.2.2.2.2.2.2.2.1, (a0.2.2.2.2.2.2.2.2.2.2.1, (a0.2.2.2.2.2.2.2.2.2.2.2.1, (a0.2.2.2.2.2.2.2.2.2.2.2.2.1, (a0.2.2.2.2.2.2.2.2.2.2.2.2.2.1, ((([] : (List UInt8)) : List UInt8), ((([] : (List UInt8)) : List UInt8), ((0 : Int), ((0 : Int), ((([] : (List UInt8)) : List UInt8), (v1.1, ((([] : (List UInt8)) : List UInt8), ((493 : Int), v2))))))))))))))))))))))) else (some (a0.1, (a0.2.1, (a0.2.2.1, (a0.2.2.2.1, (a0.2.2.2.2.1, (a0.2.2.2.2.2.1, (a0.2.2.2.2.2.2.1, (a0.2.2.2.2.2.2.2.1, (a0.2.2.2.2.2.2.2.2.1, (a0.2.2.2.2.2.2.2.2.2.1, (a0.2.2.2.2.2.2.2.2.2.2.1, (a0.2.2.2.2.2.2.2.2.2.2.2.1, (a0.2.2.2.2.2.2.2.2.2.2.2.2.1, (a0.2.2.2.2.2.2.2.2.2.2.2.2.2.1, ((([] : (List UInt8)) : List UInt8), ((([] : (List UInt8)) : List UInt8), ((0 : Int), ((0 : Int), ((([] : (List UInt8)) : List UInt8), (v1.1, ((([] : (List UInt8)) : List UInt8), ((420 : Int), v2)))))))))))))))))))))))).bind fun v3 => ((F_attr_bring v3.1 (65535 : Int)).bind fun v4 => (shrI v4.1 .i64 8).bind fun v5 => bif v5 == 3 then ((shrI v0.1 .i64 16).bind fun v6 => (shrI v0.1 .i64 28).bind fun v7 => (bif v7 != 8 then (bif v7 != 4 then (some (v7 != 0, (v3.1, (v3.2.1, (v3.2.2.1, (v3.2.2.2.1, (v3.2.2.2.2.1, (v3.2.2.2.2.2.1, (v3.2.2.2.2.2.2.1, (v3.2.2.2.2.2.2.2.1, (v3.2.2.2.2.2.2.2.2.1, (v3.2.2.2.2.2.2.2.2.2.1, (v3.2.2.2.2.2.2.2.2.2.2.1, (v3.2.2.2.2.2.2.2.2.2.2.2.1, (v3.2.2.2.2.2.2.2.2.2.2.2.2.1, (v3.2.2.2.2.2.2.2.2.2.2.2.2.2.1, (v3.2.2.2.2.2.2.2.2.2.2.2.2.2.2.1, (v3.2.2.2.2.2.2.2.2.2.2.2.2.2.2.2.1, (v3.2.2.2.2.2.2.2.2.2.2.2.2.2.2.2.2.1, (v3.2.2.2.2.2.2.2.2.2.2.2.2.2.2.2.2.2.1, (v3.2.2.2.2.2.2.2.2.2.2.2.2.2.2.2.2.2.2.1, (v3.2.2.2.2.2.2.2.2.2.2.2.2.2.2.2.2.2.2.2.1, (v3.2.2.2.2.2.2.2.2.2.2.2.2.2.2.2.2.2.2.2.2.1, (andI .i64 v6 511, v3.2.2.2.2.2.2.2.2.2.2.2.2.2.2.2.2.2.2.2.2.2.2)))))))))))))))))))))))) else (some (false, (v3.1, (v3.2.1, (v3.2.2.1, (v3.2.2.2.1, (v3.2.2.2.2.1, (v3.2.2.2.2.2.1, (v3.2.2.2.2.2.2.1, (v3.2.2.2.2.2.2.2.1, (v3.2.2.2.2.2.2.2.2.1, (v3.2.2.2.2.2.2.2.2.2.1, (v3.2.2.2.2.2.2.2.2.2.2.1, (v3.2.2.2.2.2.2.2.2.2.2.2.1, (v3.2.2.2.2.2.2.2.2.2.2.2.2.1, (v3.2.2.2.2.2.2.2.2.2.2.2.2.2.1, (v3.2.2.2.2.2.2.2.2.2.2.2.2.2.2.1, (v3.2.2.2.2.2.2.2.2.2.2.2.2.2.2.2.1, (v3.2.2.2.2.2.2.2.2.2.2.2.2.2.2.2.2.1, (v3.2.2.2.2.2.2.2.2.2.2.2.2.2.2.2.2.2.1, (v3.2.2.2.2.2.2.2.2.2.2.2.2.2.2.2.2.2.2.1, (v3.2.2.2.2.2.2.2.2.2.2.2.2.2.2.2.2.2.2.2.1, (v3.2.2.2.2.2.2.2.2.2.2.2.2.2.2.2.2.2.2.2.2.1, (andI .i64 v6 511, v3.2.2.2.2.2.2.2.2.2.2.2.2.2.2.2.2.2.2.2.2.2.2))))))))))))))))))))))))) else (some (false, (v3.1, (v3.2.1, (v3.2.2.1, (v3.2.2.2.1, (v3.2.2.2.2.1, (v3.2.2.2.2.2.1, (v3.2.2.2.2.2.2.1, (v3.2.2.2.2.2.2.2.1, (v3.2.2.2.2.2.2.2.2.1, (v3.2.2.2.2.2.2.2.2.2.1, (v3.2.2.2.2.2.2.2.2.2.2.1, (v3.2.2.2.2.2.2.2.2.2.2.2.1, (v3.2.2.2.2.2.2.2.2.2.2.2.2.1, (v3.2.2.2.2.2.2.2.2.2.2.2.2.2.1, (v3.2.2.2.2.2.2.2.2.2.2.2.2.2.2.1, (v3.2.2.2.2.2.2.2.2.2.2.2.2.2.2.2.1, (v3.2.2.2.2.2.2.2.2.2.2.2.2.2.2.2.2.1, (v3.2.2.2.2.2.2.2.2.2.2.2.2.2.2.2.2.2.1, (v3.2.2.2.2.2.2.2.2.2.2.2.2.2.2.2.2.2.2.1, (v3.2.2.2.2.2.2.2.2.2.2.2.2.2.2.2.2.2.2.2.1, (v3.2.2.2.2.2.2.2.2.2.2.2.2.2.2.2.2.2.2.2.2.1, (andI .i64 v6 511, v3.2.2.2.2.2.2.2.2.2.2.2.2.2.2.2.2.2.2.2.2.2.2))))))))))))))))))))))))).bind fun v8 => bif v8.1 then (some (.inl ((12 : Int), ((([] : (List UInt8)) : List UInt8), (false, ((([] : (List UInt8)) : List UInt8), ((0 : Int), ((0 : Int), ())))))))) else (((bif v7 == 8 then (some (v8.2.2.2.2.2.2.2.2.2.2.2.2.2.2.2.2.2.2.2.2.1, v8.2)) else (some (false, v8.2))).bind fun v9 => bif v9.1 then (some (true, v9.2)) else (bif v7 == 4 then (some (!v9.2.2.2.2.2.2.2.2.2.2.2.2.2.2.2.2.2.2.2.2.1, v9.2)) else (some (false, v9.2)))).bind fun v10 => bif v10.1 then (some (.inl ((2 : Int), ((([] : (List UInt8)) : List UInt8), (false, ((([] : (List UInt8)) : List UInt8), ((0 : Int), ((0 : Int), ())))))))) else (some (.inr v10.2)))) else (some (.inr v3))).bind fun v11 => sumK v11 (fun v12 => some (v12.2, (v12.1, ()))) (fun v13 => (bif v13.2.2.2.2.2.2.2.2.2.2.2.2.2.2.2.2.2.2.2.1 then (bif v13.2.2.2.2.2.2.2.1 != 0 then (some (.inl ((2 : Int), ((([] : (List UInt8)) : List UInt8), (false, ((([] : (List UInt8)) : List UInt8), ((0 : Int), ((0 : Int), ())))))))) else (some (.inr v13.2.2.2.2.2.2.2.2.2.2.2.2.2.2))) else (some (.inr v13.2.2.2.2.2.2.2.2.2.2.2.2.2.2))).bind fun v14 => sumK v14 (fun v15 => some (v15.2, (v15.1, ()))) (fun v16 => some (v16.2.2.2.2, ((0 : Int), ()))))
def eF_attr_Of : VEnt := ⟨13, ⟨[.pv (.cons (.int .i64) (.cons (.int .i64) (.cons (.int .i64) (.cons (.int .i64) (.cons (.int .i64) (.cons (.int .i64) (.cons (.int .i64) (.cons (.int .i64) (.cons (.int .i64) (.cons (.int .i64) (.cons (.int .i64) (.cons .str (.cons .str (.cons .str .nil))))))))))))))], []⟩, [⟨[.tup (.cn (.pv (.cons .str (.cons .bool (.cons .str (.cons (.int .i64) (.cons (.int .i64) .nil)))))) (.cn (.pv (.int .i64)) (.nl)))], []⟩], fun q => F_attr_Of q.1⟩
def aF_attr_Of : Ann := .s .z (.s .z (.s .z (.j [(.normal, ⟨mkT 67 0 [(1, .ptr 0 0), (2, .ptr 1 0), (5, .ptr 2 0)], [.obj 23 (.cn (.pv (.int .i64)) (.cn (.pv (.int .i64)) (.cn (.pv (.int .i64)) (.cn (.pv (.int .i64)) (.cn (.pv (.int .i64)) (.cn (.pv (.int .i64)) (.cn (.pv (.int .i64)) (.cn (.pv (.int .i64)) (.cn (.pv (.int .i64)) (.cn (.pv (.int .i64)) (.cn (.pv (.int .i64)) (.cn (.pv .str) (.cn (.pv .str) (.cn (.pv .str) (.nl))))))))))))))), .obj 26 (.cn (.pv .str) (.cn (.kb false) (.cn (.pv .str) (.cn (.pv (.int .i64)) (.cn (.pv (.int .i64)) (.nl)))))), .obj 26 (.cn (.pv .str) (.cn (.pv .bool) (.cn (.pv .str) (.cn (.pv (.int .i64)) (.cn (.pv (.int .i64)) (.nl))))))]⟩)] .z (.j [(.ret, ⟨mkT 67 0 [(2, .ptr 0 0), (3, .pv (.int .i64))], [.obj 26 (.cn (.pv .str) (.cn (.pv .bool) (.cn (.pv .str) (.cn (.pv (.int .i64)) (.cn (.pv (.int .i64)) (.nl))))))]⟩), (.normal, ⟨mkT 67 0 [(1, .ptr 0 0), (2, .ptr 1 0), (5, .ptr 2 0)], [.obj 23 (.cn (.pv (.int .i64)) (.cn (.pv (.int .i64)) (.cn (.pv (.int .i64)) (.cn (.pv (.int .i64)) (.cn (.pv (.int .i64)) (.cn (.pv (.int .i64)) (.cn (.pv (.int .i64)) (.cn (.pv (.int .i64)) (.cn (.pv (.int .i64)) (.cn (.pv (.int .i64)) (.cn (.pv (.int .i64)) (.cn (.pv .str) (.cn (.pv .str) (.cn (.pv .str) (.nl))))))))))))))), .obj 26 (.cn (.pv .str) (.cn (.kb false) (.cn (.pv .str) (.cn (.pv (.int .i64)) (.cn (.pv (.int .i64)) (.nl)))))), .obj 26 (.cn (.pv .str) (.cn (.pv .bool) (.cn (.pv .str) (.cn (.pv (.int .i64)) (.cn (.pv (.int .i64)) (.nl))))))]⟩)] (.s .z (.s (.s .z (.s .z (.j [(.normal, ⟨mkT 67 0 [(1, .ptr 0 0), (2, .ptr 1 0), (5, .ptr 2 0), (31, .pv .bool)], [.obj 23 (.cn (.pv (.int .i64)) (.cn (.pv (.int .i64)) (.cn (.pv (.int .i64)) (.cn (.pv (.int .i64)) (.cn (.pv (.int .i64)) (.cn (.pv (.int .i64)) (.cn (.pv (.int .i64)) (.cn (.pv (.int .i64)) (.cn (.pv (.int .i64)) (.cn (.pv (.int .i64)) (.cn (.pv (.int .i64)) (.cn (.pv .str) (.cn (.pv .str) (.cn (.pv .str) (.nl))))))))))))))), .obj 26 (.cn (.pv .str) (.cn (.kb false) (.cn (.pv .str) (.cn (.pv (.int .i64)) (.cn (.pv (.int .i64)) (.nl)))))), .obj 26 (.cn (.pv .str) (.cn (.pv .bool) (.cn (.pv .str) (.cn (.pv (.int .i64)) (.cn (.pv (.int .i64)) (.nl))))))]⟩)] .z (.s .z (.j [(.normal, ⟨mkT 67 0 [(1, .ptr 0 0), (2, .ptr 1 0), (5, .ptr 2 0), (43, .pv .bool)], [.obj 23 (.cn (.pv (.int .i64)) (.cn (.pv (.int .i64)) (.cn (.pv (.int .i64)) (.cn (.pv (.int .i64)) (.cn (.pv (.int .i64)) (.cn (.pv (.int .i64)) (.cn (.pv (.int .i64)) (.cn (.pv (.int .i64)) (.cn (.pv (.int .i64)) (.cn (.pv (.int .i64)) (.cn (.pv (.int .i64)) (.cn (.pv .str) (.cn (.pv .str) (.cn (.pv .str) (.nl))))))))))))))), .obj 26 (.cn (.pv .str) (.cn (.kb false) (.cn (.pv .str) (.cn (.pv (.int .i64)) (.cn (.pv (.int .i64)) (.nl)))))), .obj 26 (.cn (.pv .str) (.cn (.pv .bool) (.cn (.pv .str) (.cn (.pv (.int .i64)) (.cn (.pv (.int .i64)) (.nl))))))]⟩)] (.j [(.normal, ⟨mkT 67 0 [(1, .ptr 0 0), (2, .ptr 1 0), (5, .ptr 2 0), (43, .pv .bool)], [.obj 23 (.cn (.pv (.int .i64)) (.cn (.pv (.int .i64)) (.cn (.pv (.int .i64)) (.cn (.pv (.int .i64)) (.cn (.pv (.int .i64)) (.cn (.pv (.int .i64)) (.cn (.pv (.int .i64)) (.cn (.pv (.int .i64)) (.cn (.pv (.int .i64)) (.cn (.pv (.int .i64)) (.cn (.pv (.int .i64)) (.cn (.pv .str) (.cn (.pv .str) (.cn (.pv .str) (.nl))))))))))))))), .obj 26 (.cn (.pv .str) (.cn (.kb false) (.cn (.pv .str) (.cn (.pv (.int .i64)) (.cn (.pv (.int .i64)) (.nl)))))), .obj 26 (.cn (.pv .str) (.cn (.pv .bool) (.cn (.pv .str) (.cn (.pv (.int .i64)) (.cn (.pv (.int .i64)) (.nl))))))]⟩)] .z .z) .z))))) .z)) (.j [(.ret, ⟨mkT 67 0 [(2, .ptr 0 0), (3, .pv (.int .i64))], [.obj 26 (.cn (.pv .str) (.cn (.pv .bool) (.cn (.pv .str) (.cn (.pv (.int .i64)) (.cn (.pv (.int .i64)) (.nl))))))]⟩), (.normal, ⟨mkT 67 0 [(2, .ptr 0 0), (5, .ptr 1 0)], [.obj 26 (.cn (.pv .str) (.cn (.kb false) (.cn (.pv .str) (.cn (.pv (.int .i64)) (.cn (.pv (.int .i64)) (.nl)))))), .obj 26 (.cn (.pv .str) (.cn (.pv .bool) (.cn (.pv .str) (.cn (.pv (.int .i64)) (.cn (.pv (.int .i64)) (.nl))))))]⟩)] .z .z)))))
theorem tF_attr_Of : vfn ⟨Tryd.prog, [], ZV77, PV77⟩ Tryd.f13 aF_attr_Of eF_attr_Of.ps eF_attr_Of.rs = eF_attr_Of.F := by kernel_rfl
def EV78 : List VEnt := eF_attr_Of :: EV77
def ZV78 : List VEnt := eF_attr_Of :: ZV77
def KV78 : PureK := addK KV77 13 (kOf eF_attr_Of)
def NV78 : List FuncId := NV77
def PV78 : List FuncId := 13 :: PV77
theorem CV78 : Ch Tryd.prog gl0 Wa0 KV78 NV78 ZV78 EV78 := Ch.pure mixedV noGoroutineV CV77 (by kernel_rfl) (by kernel_rfl) (by kernel_rfl) Tryd.func13 (by decide) (by kernel_rfl) tF_attr_Of
def F_tree_rest (a0 : ((List UInt8) × (Bool × ((List UInt8) × (Int × (Int × Unit)))))) : Option (Bool × Unit) :=
  (bif decide (a0.2.2.2.1 ≥ 0) then (bif decide (a0.2.2.2.1 ≤ 511) then (bif decide (a0.2.2.2.2.1 ≥ 0) then (bif decide (a0.2.2.2.2.1 ≤ 4294967295) then (bif !a0.2.1 then (some (true, ())) else (some (a0.2.2.1 == ([] : (List UInt8)), ()))) else (some (false, ()))) else (some (false, ()))) else (some (false, ()))) else (some (false, ()))).bind fun v0 => some v0
def eF_tree_rest : VEnt := ⟨77, ⟨[.pv (.cons .str (.cons .bool (.cons .str (.cons (.int .i64) (.cons (.int .i64) .nil)))))], []⟩, [⟨[.pv .bool], []⟩], fun q => F_tree_rest q.1⟩
def aF_tree_rest : Ann := .s .z (.j [(.normal, ⟨mkT 31 0 [(2, .pv .bool)], []⟩)] .z .z)
theorem tF_tree_rest : vfn ⟨Tryd.prog, [], ZV78, PV78⟩ Tryd.f77 aF_tree_rest eF_tree_rest.ps eF_tree_rest.rs = eF_tree_rest.F := by kernel_rfl
def EV79 : List VEnt := eF_tree_rest :: EV78
def ZV79 : List VEnt := eF_tree_rest :: ZV78
def KV79 : PureK := addK KV78 77 (kOf eF_tree_rest)
def NV79 : List FuncId := NV78
def PV79 : List FuncId := 77 :: PV78
theorem CV79 : Ch Tryd.prog gl0 Wa0 KV79 NV79 ZV79 EV79 := Ch.pure mixedV noGoroutineV CV78 (by kernel_rfl) (by kernel_rfl) (by kernel_rfl) Tryd.func77 (by decide) (by kernel_rfl) tF_tree_rest
def F_tree_May (a0 : ((List UInt8) × (Bool × ((List UInt8) × (Int × (Int × Unit)))))) : Option (Bool × Unit) :=
  ((F_route_Check a0.1).bind fun v0 => bif v0.1 == 0 then ((F_tree_rest a0).bind fun v1 => some v1) else (some (false, ()))).bind fun v2 => some v2
def eF_tree_May : VEnt := ⟨50, ⟨[.pv (.cons .str (.cons .bool (.cons .str (.cons (.int .i64) (.cons (.int .i64) .nil)))))], []⟩, [⟨[.pv .bool], []⟩], fun q => F_tree_May q.1⟩
def aF_tree_May : Ann := .s .z (.j [(.normal, ⟨mkT 11 0 [(2, .pv .bool)], []⟩)] .z .z)
theorem tF_tree_May : vfn ⟨Tryd.prog, gl0, EV79, PV79⟩ Tryd.f50 aF_tree_May eF_tree_May.ps eF_tree_May.rs = eF_tree_May.F := by kernel_rfl
def EV80 : List VEnt := eF_tree_May :: EV79
def ZV80 : List VEnt := ZV79
def KV80 : PureK := KV79
def NV80 : List FuncId := 50 :: NV79
def PV80 : List FuncId := PV79
theorem CV80 : Ch Tryd.prog gl0 Wa0 KV80 NV80 ZV80 EV80 := Ch.addG CV79 (by kernel_rfl) (by kernel_rfl) (by kernel_rfl) Tryd.func50 (by decide) tF_tree_May
def F_attr_Head_1 (a0 : Int) : Option (Bool × Unit) :=
  some (decide (a0 > 127), ())
def eF_attr_Head_1 : VEnt := ⟨52, ⟨[.pv (.int .i32)], []⟩, [⟨[.pv .bool], []⟩], fun q => F_attr_Head_1 q.1⟩
def aF_attr_Head_1 : Ann := .z
theorem tF_attr_Head_1 : vfn ⟨Tryd.prog, [], ZV80, PV80⟩ Tryd.f52 aF_attr_Head_1 eF_attr_Head_1.ps eF_attr_Head_1.rs = eF_attr_Head_1.F := by kernel_rfl
def EV81 : List VEnt := eF_attr_Head_1 :: EV80
def ZV81 : List VEnt := eF_attr_Head_1 :: ZV80
def KV81 : PureK := addK KV80 52 (kOf eF_attr_Head_1)
def NV81 : List FuncId := NV80
def PV81 : List FuncId := 52 :: PV80
theorem CV81 : Ch Tryd.prog gl0 Wa0 KV81 NV81 ZV81 EV81 := Ch.pure mixedV noGoroutineV CV80 (by kernel_rfl) (by kernel_rfl) (by kernel_rfl) Tryd.func52 (by decide) (by kernel_rfl) tF_attr_Head_1
def F_strings_indexFunc__attr_Head_1 (a0 : (List UInt8)) (a1 : Bool) : Option (Int × Unit) :=
  (iter (fun v0 => bif decide (v0.2.1 < (v0.1.length : Int)) then ((F_attr_Head_1 (oDecR v0.1 v0.2.1)).bind fun v1 => bif v1.1 == a1 then (some (.inr (.inl v0.2))) else (some (.inl (v0.1, (oDecN v0.1 v0.2.1, ()))))) else (some (.inr (.inr ())))) NF (a0, ((0 : Int), ()))).bind fun v2 => sumK v2 (fun v3 => some v3) (fun v4 => some (((-1) : Int), ()))
def eF_strings_indexFunc__attr_Head_1 : VEnt := ⟨95, ⟨[.pv .str, .fn 52 (.nl) (.nl), .pv .bool], []⟩, [⟨[.pv (.int .i64)], []⟩], fun q => F_strings_indexFunc__attr_Head_1 q.1 q.2.1⟩
def aF_strings_indexFunc__attr_Head_1 : Ann := .s .z (.s (.s .z (.l ⟨mkT 21 0 [(1, .fn 52 (.nl) (.nl)), (10, .ptr 0 0)], [.sit]⟩ [(.ret, ⟨mkT 21 0 [(6, .pv (.int .i64))], []⟩), ((.exit 0), ⟨mkT 21 0 [], []⟩)] .z)) .z)
theorem tF_strings_indexFunc__attr_Head_1 : vfn ⟨Tryd.prog, [], ZV81, PV81⟩ Tryd.f95 aF_strings_indexFunc__attr_Head_1 eF_strings_indexFunc__attr_Head_1.ps eF_strings_indexFunc__attr_Head_1.rs = eF_strings_indexFunc__attr_Head_1.F := by kernel_rfl
def EV82 : List VEnt := eF_strings_indexFunc__attr_Head_1 :: EV81
def ZV82 : List VEnt := eF_strings_indexFunc__attr_Head_1 :: ZV81
def KV82 : PureK := KV81
def NV82 : List FuncId := 95 :: NV81
def PV82 : List FuncId := PV81
theorem CV82 : Ch Tryd.prog gl0 Wa0 KV82 NV82 ZV82 EV82 := Ch.add0 CV81 (by kernel_rfl) (by kernel_rfl) (by kernel_rfl) Tryd.func95 (by decide) tF_strings_indexFunc__attr_Head_1
def F_strings_IndexFunc__attr_Head_1 (a0 : (List UInt8)) : Option (Int × Unit) :=
  (F_strings_indexFunc__attr_Head_1 a0 true).bind fun v0 => some v0
def eF_strings_IndexFunc__attr_Head_1 : VEnt := ⟨78, ⟨[.pv .str, .fn 52 (.nl) (.nl)], []⟩, [⟨[.pv (.int .i64)], []⟩], fun q => F_strings_IndexFunc__attr_Head_1 q.1⟩
def aF_strings_IndexFunc__attr_Head_1 : Ann := .z
theorem tF_strings_IndexFunc__attr_Head_1 : vfn ⟨Tryd.prog, [], ZV82, PV82⟩ Tryd.f78 aF_strings_IndexFunc__attr_Head_1 eF_strings_IndexFunc__attr_Head_1.ps eF_strings_IndexFunc__attr_Head_1.rs = eF_strings_IndexFunc__attr_Head_1.F := by kernel_rfl
def EV83 : List VEnt := eF_strings_IndexFunc__attr_Head_1 :: EV82
def ZV83 : List VEnt := eF_strings_IndexFunc__attr_Head_1 :: ZV82
def KV83 : PureK := KV82
def NV83 : List FuncId := 78 :: NV82
def PV83 : List FuncId := PV82
theorem CV83 : Ch Tryd.prog gl0 Wa0 KV83 NV83 ZV83 EV83 := Ch.add0 CV82 (by kernel_rfl) (by kernel_rfl) (by kernel_rfl) Tryd.func78 (by decide) tF_strings_IndexFunc__attr_Head_1
def F_strings_ContainsFunc__attr_Head_1 (a0 : (List UInt8)) : Option (Bool × Unit) :=
  (F_strings_IndexFunc__attr_Head_1 a0).bind fun v0 => some (decide (v0.1 ≥ 0), ())
def eF_strings_ContainsFunc__attr_Head_1 : VEnt := ⟨51, ⟨[.pv .str, .fn 52 (.nl) (.nl)], []⟩, [⟨[.pv .bool], []⟩], fun q => F_strings_ContainsFunc__attr_Head_1 q.1⟩
def aF_strings_ContainsFunc__attr_Head_1 : Ann := .z
theorem tF_strings_ContainsFunc__attr_Head_1 : vfn ⟨Tryd.prog, [], ZV83, PV83⟩ Tryd.f51 aF_strings_ContainsFunc__attr_Head_1 eF_strings_ContainsFunc__attr_Head_1.ps eF_strings_ContainsFunc__attr_Head_1.rs = eF_strings_ContainsFunc__attr_Head_1.F := by kernel_rfl
def EV84 : List VEnt := eF_strings_ContainsFunc__attr_Head_1 :: EV83
def ZV84 : List VEnt := eF_strings_ContainsFunc__attr_Head_1 :: ZV83
def KV84 : PureK := KV83
def NV84 : List FuncId := 51 :: NV83
def PV84 : List FuncId := PV83
theorem CV84 : Ch Tryd.prog gl0 Wa0 KV84 NV84 ZV84 EV84 := Ch.add0 CV83 (by kernel_rfl) (by kernel_rfl) (by kernel_rfl) Tryd.func51 (by decide) tF_strings_ContainsFunc__attr_Head_1
def F_attr_Head (a0 : ((List UInt8) × (Bool × ((List UInt8) × (Int × (Int × Unit)))))) : Option ((Int × (Int × (Int × (Int × (Int × (Int × (Int × (Int × (Int × (Int × (Int × ((List UInt8) × ((List UInt8) × ((List UInt8) × Unit)))))))))))))) × (Int × Unit)) :=
  (F_tree_May a0).bind fun v0 => bif !v0.1 then (some (((0 : Int), ((0 : Int), ((0 : Int), ((0 : Int), ((0 : Int), ((0 : Int), ((0 : Int), ((0 : Int), ((0 : Int), ((0 : Int), ((0 : Int), ((([] : (List UInt8)) : List UInt8), ((([] : (List UInt8)) : List UInt8), ((([] : (List UInt8)) : List UInt8), ())))))))))))))), ((1 : Int), ()))) else ((shlI .i64 a0.2.2.2.1 16).bind fun v1 => ((F_strings_ContainsFunc__attr_Head_1 a0.1).bind fun v2 => bif v2.1 then (some (a0.1, (a0.2.1, (a0.2.2.1, (a0.2.2.2.1, (a0.2.2.2.2.1, ((0 : Int), ((0 : Int), ((0 : Int), ((0 : Int), ((0 : Int), ((0 : Int), ((0 : Int), ((0 : Int), ((0 : Int), ((0 : Int), ((0 : Int), ((([] : (List UInt8)) : List UInt8), ((([] : (List UInt8)) : List UInt8), ((([] : (List UInt8)) : List UInt8), ((798 : Int), ((20 : Int), ((2048 : Int), ((0 : Int), (a0.2.2.2.2.1, ((0 : Int), ((0 : Int), ((0 : Int), ((0 : Int), (orI .i64 2147483648 v1, ((0 : Int), (a0.1, ((([] : (List UInt8)) : List UInt8), ((([] : (List UInt8)) : List UInt8), ())))))))))))))))))))))))))))))))))) else (some (a0.1, (a0.2.1, (a0.2.2.1, (a0.2.2.2.1, (a0.2.2.2.2.1, ((0 : Int), ((0 : Int), ((0 : Int), ((0 : Int), ((0 : Int), ((0 : Int), ((0 : Int), ((0 : Int), ((0 : Int), ((0 : Int), ((0 : Int), ((([] : (List UInt8)) : List UInt8), ((([] : (List UInt8)) : List UInt8), ((([] : (List UInt8)) : List UInt8), ((798 : Int), ((20 : Int), ((0 : Int), ((0 : Int), (a0.2.2.2.2.1, ((0 : Int), ((0 : Int), ((0 : Int), ((0 : Int), (orI .i64 2147483648 v1, ((0 : Int), (a0.1, ((([] : (List UInt8)) : List UInt8), ((([] : (List UInt8)) : List UInt8), ()))))))))))))))))))))))))))))))))))).bind fun v3 => (bif v3.2.1 then ((shlI .i64 v3.2.2.2.1 16).bind fun v4 => (cat v3.2.2.2.2.2.2.2.2.2.2.2.2.2.2.2.2.2.2.2.2.2.2.2.2.2.2.2.2.2.2.1 ([47] : List UInt8)).bind fun v5 => some (v3.2.2.2.2.2.1, (v3.2.2.2.2.2.2.1, (v3.2.2.2.2.2.2.2.1, (v3.2.2.2.2.2.2.2.2.1, (v3.2.2.2.2.2.2.2.2.2.1, (v3.2.2.2.2.2.2.2.2.2.2.1, (v3.2.2.2.2.2.2.2.2.2.2.2.1, (v3.2.2.2.2.2.2.2.2.2.2.2.2.1, (v3.2.2.2.2.2.2.2.2.2.2.2.2.2.1, (v3.2.2.2.2.2.2.2.2.2.2.2.2.2.2.1, (v3.2.2.2.2.2.2.2.2.2.2.2.2.2.2.2.1, (v3.2.2.2.2.2.2.2.2.2.2.2.2.2.2.2.2.1, (v3.2.2.2.2.2.2.2.2.2.2.2.2.2.2.2.2.2.1, (v3.2.2.2.2.2.2.2.2.2.2.2.2.2.2.2.2.2.2.1, (v3.2.2.2.2.2.2.2.2.2.2.2.2.2.2.2.2.2.2.2.1, (v3.2.2.2.2.2.2.2.2.2.2.2.2.2.2.2.2.2.2.2.2.1, (v3.2.2.2.2.2.2.2.2.2.2.2.2.2.2.2.2.2.2.2.2.2.1, (v3.2.2.2.2.2.2.2.2.2.2.2.2.2.2.2.2.2.2.2.2.2.2.1, (v3.2.2.2.2.2.2.2.2.2.2.2.2.2.2.2.2.2.2.2.2.2.2.2.1, (v3.2.2.2.2.2.2.2.2.2.2.2.2.2.2.2.2.2.2.2.2.2.2.2.2.1, (v3.2.2.2.2.2.2.2.2.2.2.2.2.2.2.2.2.2.2.2.2.2.2.2.2.2.1, (v3.2.2.2.2.2.2.2.2.2.2.2.2.2.2.2.2.2.2.2.2.2.2.2.2.2.2.1, (v3.2.2.2.2.2.2.2.2.2.2.2.2.2.2.2.2.2.2.2.2.2.2.2.2.2.2.2.1, (orI .i64 (orI .i64 1073741824 v4) 16, (v3.2.2.2.2.2.2.2.2.2.2.2.2.2.2.2.2.2.2.2.2.2.2.2.2.2.2.2.2.2.1, (v5, v3.2.2.2.2.2.2.2.2.2.2.2.2.2.2.2.2.2.2.2.2.2.2.2.2.2.2.2.2.2.2.2))))))))))))))))))))))))))) else (some v3.2.2.2.2.2)).bind fun v6 => some (v6.2.2.2.2.2.2.2.2.2.2.2.2.2.2, ((0 : Int), ())))
def eF_attr_Head : VEnt := ⟨15, ⟨[.pv (.cons .str (.cons .bool (.cons .str (.cons (.int .i64) (.cons (.int .i64) .nil)))))], []⟩, [⟨[.tup (.cn (.pv (.cons (.int .i64) (.cons (.int .i64) (.cons (.int .i64) (.cons (.int .i64) (.cons (.int .i64) (.cons (.int .i64) (.cons (.int .i64) (.cons (.int .i64) (.cons (.int .i64) (.cons (.int .i64) (.cons (.int .i64) (.cons .str (.cons .str (.cons .str .nil))))))))))))))) (.cn (.pv (.int .i64)) (.nl)))], []⟩], fun q => F_attr_Head q.1⟩
def aF_attr_Head : Ann := .s .z (.s .z (.s .z (.j [(.normal, ⟨mkT 35 0 [(1, .ptr 0 0), (2, .ptr 1 0), (4, .ptr 2 0)], [.obj 26 (.cn (.pv .str) (.cn (.pv .bool) (.cn (.pv .str) (.cn (.pv (.int .i64)) (.cn (.pv (.int .i64)) (.nl)))))), .obj 23 (.cn (.pv (.int .i64)) (.cn (.pv (.int .i64)) (.cn (.pv (.int .i64)) (.cn (.pv (.int .i64)) (.cn (.pv (.int .i64)) (.cn (.pv (.int .i64)) (.cn (.pv (.int .i64)) (.cn (.pv (.int .i64)) (.cn (.pv (.int .i64)) (.cn (.pv (.int .i64)) (.cn (.pv (.int .i64)) (.cn (.pv .str) (.cn (.pv .str) (.cn (.pv .str) (.nl))))))))))))))), .obj 23 (.cn (.pv (.int .i64)) (.cn (.pv (.int .i64)) (.cn (.pv (.int .i64)) (.cn (.pv (.int .i64)) (.cn (.pv (.int .i64)) (.cn (.pv (.int .i64)) (.cn (.pv (.int .i64)) (.cn (.pv (.int .i64)) (.cn (.pv (.int .i64)) (.cn (.pv (.int .i64)) (.cn (.pv (.int .i64)) (.cn (.pv .str) (.cn (.pv .str) (.cn (.pv .str) (.nl)))))))))))))))]⟩)] .z (.j [(.normal, ⟨mkT 35 0 [(2, .ptr 0 0), (4, .ptr 1 0)], [.obj 23 (.cn (.pv (.int .i64)) (.cn (.pv (.int .i64)) (.cn (.pv (.int .i64)) (.cn (.pv (.int .i64)) (.cn (.pv (.int .i64)) (.cn (.pv (.int .i64)) (.cn (.pv (.int .i64)) (.cn (.pv (.int .i64)) (.cn (.pv (.int .i64)) (.cn (.pv (.int .i64)) (.cn (.pv (.int .i64)) (.cn (.pv .str) (.cn (.pv .str) (.cn (.pv .str) (.nl))))))))))))))), .obj 23 (.cn (.pv (.int .i64)) (.cn (.pv (.int .i64)) (.cn (.pv (.int .i64)) (.cn (.pv (.int .i64)) (.cn (.pv (.int .i64)) (.cn (.pv (.int .i64)) (.cn (.pv (.int .i64)) (.cn (.pv (.int .i64)) (.cn (.pv (.int .i64)) (.cn (.pv (.int .i64)) (.cn (.pv (.int .i64)) (.cn (.pv .str) (.cn (.pv .str) (.cn (.pv .str) (.nl)))))))))))))))]⟩)] .z .z))))
theorem tF_attr_Head : vfn ⟨Tryd.prog, gl0, EV84, PV84⟩ Tryd.f15 aF_attr_Head eF_attr_Head.ps eF_attr_Head.rs = eF_attr_Head.F := by kernel_rfl
def EV85 : List VEnt := eF_attr_Head :: EV84
def ZV85 : List VEnt := ZV84
def KV85 : PureK := KV84
def NV85 : List FuncId := 15 :: NV84
def PV85 : List FuncId := PV84
theorem CV85 : Ch Tryd.prog gl0 Wa0 KV85 NV85 ZV85 EV85 := Ch.addG CV84 (by kernel_rfl) (by kernel_rfl) (by kernel_rfl) Tryd.func15 (by decide) tF_attr_Head
def F_law21_awake : Option (Bool × Unit) :=
  (F_attr_Of ((0 : Int), ((0 : Int), ((0 : Int), ((0 : Int), ((0 : Int), ((0 : Int), ((0 : Int), ((0 : Int), ((0 : Int), ((0 : Int), ((0 : Int), (([97, 47] : List UInt8), ((([] : (List UInt8)) : List UInt8), ((([] : (List UInt8)) : List UInt8), ()))))))))))))))).bind fun v0 => (F_attr_Head (([98] : List UInt8), (false, ((([] : (List UInt8)) : List UInt8), ((420 : Int), ((0 : Int), ())))))).bind fun v1 => (F_attr_Of ((798 : Int), ((0 : Int), ((0 : Int), ((0 : Int), ((0 : Int), ((0 : Int), ((0 : Int), ((0 : Int), ((0 : Int), ((2684354560 : Int), ((0 : Int), ((([] : (List UInt8)) : List UInt8), ((([] : (List UInt8)) : List UInt8), ((([] : (List UInt8)) : List UInt8), ()))))))))))))))).bind fun v2 => (bif (v0.1.1 == ([] : (List UInt8))) && ((v0.1.2.1 == true) && ((v0.1.2.2.1 == ([] : (List UInt8))) && ((v0.1.2.2.2.1 == 493) && (v0.1.2.2.2.2.1 == 0)))) then (bif v0.2.1 == 0 then (bif v1.1.2.2.2.2.2.2.2.2.2.1 == 2175008768 then (bif v1.1.2.2.2.2.2.2.2.2.2.2.2.1 == [98] then (bif v1.2.1 == 0 then (some (v2.2.1 == 12, ())) else (some (false, ()))) else (some (false, ()))) else (some (false, ()))) else (some (false, ()))) else (some (false, ()))).bind fun v3 => some v3
def eF_law21_awake : VEnt := ⟨12, ⟨[], []⟩, [⟨[.pv .bool], []⟩], fun q => F_law21_awake⟩
def aF_law21_awake : Ann := .s .z (.s .z (.s .z (.s .z (.j [(.normal, ⟨mkT 47 0 [(0, .pv .bool)], []⟩)] .z .z))))
theorem tF_law21_awake : vfn ⟨Tryd.prog, gl0, EV85, PV85⟩ Tryd.f12 aF_law21_awake eF_law21_awake.ps eF_law21_awake.rs = eF_law21_awake.F := by kernel_rfl
def EV86 : List VEnt := eF_law21_awake :: EV85
def ZV86 : List VEnt := ZV85
def KV86 : PureK := KV85
def NV86 : List FuncId := 12 :: NV85
def PV86 : List FuncId := PV85
theorem CV86 : Ch Tryd.prog gl0 Wa0 KV86 NV86 ZV86 EV86 := Ch.addG CV85 (by kernel_rfl) (by kernel_rfl) (by kernel_rfl) Tryd.func12 (by decide) tF_law21_awake
def F_ref15_May (a0 : ((List UInt8) × (Bool × ((List UInt8) × (Int × (Int × Unit)))))) : Option (Bool × (Bool × Unit)) :=
  ((F_ref13_Right a0.1).bind fun v0 => bif decide (a0.2.2.2.1 ≥ 0) then (bif decide (a0.2.2.2.1 ≤ 511) then (bif decide (a0.2.2.2.2.1 ≥ 0) then (bif decide (a0.2.2.2.2.1 ≤ 4294967295) then (bif !a0.2.1 then (some (v0.1, (true, ()))) else (some (v0.1, (a0.2.2.1 == ([] : (List UInt8)), ())))) else (some (v0.1, (false, ())))) else (some (v0.1, (false, ())))) else (some (v0.1, (false, ())))) else (some (v0.1, (false, ())))).bind fun v1 => some v1
def eF_ref15_May : VEnt := ⟨53, ⟨[.pv (.cons .str (.cons .bool (.cons .str (.cons (.int .i64) (.cons (.int .i64) .nil)))))], []⟩, [⟨[.tup (.cn (.pv .bool) (.cn (.pv .bool) (.nl)))], []⟩], fun q => F_ref15_May q.1⟩
def aF_ref15_May : Ann := .s .z (.j [(.normal, ⟨mkT 35 0 [(2, .pv .bool), (3, .pv .bool)], []⟩)] .z .z)
theorem tF_ref15_May : vfn ⟨Tryd.prog, [], ZV86, PV86⟩ Tryd.f53 aF_ref15_May eF_ref15_May.ps eF_ref15_May.rs = eF_ref15_May.F := by kernel_rfl
def EV87 : List VEnt := eF_ref15_May :: EV86
def ZV87 : List VEnt := eF_ref15_May :: ZV86
def KV87 : PureK := addK KV86 53 (kOf eF_ref15_May)
def NV87 : List FuncId := NV86
def PV87 : List FuncId := 53 :: PV86
theorem CV87 : Ch Tryd.prog gl0 Wa0 KV87 NV87 ZV87 EV87 := Ch.pure mixedV noGoroutineV CV86 (by kernel_rfl) (by kernel_rfl) (by kernel_rfl) Tryd.func53 (by decide) (by kernel_rfl) tF_ref15_May
def F_ref21_Head (a0 : ((List UInt8) × (Bool × ((List UInt8) × (Int × (Int × Unit)))))) : Option ((Int × (Int × (Int × (Int × (Int × (Int × (Int × (Int × (Int × (Int × (Int × ((List UInt8) × ((List UInt8) × ((List UInt8) × Unit)))))))))))))) × (Int × Unit)) :=
  (F_ref15_May a0).bind fun v0 => (bif !v0.1 then (some (true, (a0.1, (a0.2.1, (a0.2.2.1, (a0.2.2.2.1, (a0.2.2.2.2.1, ((0 : Int), ((0 : Int), ((0 : Int), ((0 : Int), ((0 : Int), ((0 : Int), ((0 : Int), ((0 : Int), ((0 : Int), ((0 : Int), ((0 : Int), ((([] : (List UInt8)) : List UInt8), ((([] : (List UInt8)) : List UInt8), ((([] : (List UInt8)) : List UInt8), ()))))))))))))))))))))) else (some (!v0.2.1, (a0.1, (a0.2.1, (a0.2.2.1, (a0.2.2.2.1, (a0.2.2.2.2.1, ((0 : Int), ((0 : Int), ((0 : Int), ((0 : Int), ((0 : Int), ((0 : Int), ((0 : Int), ((0 : Int), ((0 : Int), ((0 : Int), ((0 : Int), ((([] : (List UInt8)) : List UInt8), ((([] : (List UInt8)) : List UInt8), ((([] : (List UInt8)) : List UInt8), ())))))))))))))))))))))).bind fun v1 => bif v1.1 then (some (((0 : Int), ((0 : Int), ((0 : Int), ((0 : Int), ((0 : Int), ((0 : Int), ((0 : Int), ((0 : Int), ((0 : Int), ((0 : Int), ((0 : Int), ((([] : (List UInt8)) : List UInt8), ((([] : (List UInt8)) : List UInt8), ((([] : (List UInt8)) : List UInt8), ())))))))))))))), ((1 : Int), ()))) else ((iter (fun v2 => bif decide (v2.1 < (v2.2.1.length : Int)) then (((idxS v2.2.1 v2.1).bind fun v3 => bif decide (v3 > 127) then (some (v2.2.1, (v2.2.2.1, (v2.2.2.2.1, (v2.2.2.2.2.1, (v2.2.2.2.2.2.1, (v2.2.2.2.2.2.2.1, (v2.2.2.2.2.2.2.2.1, (v2.2.2.2.2.2.2.2.2.1, (v2.2.2.2.2.2.2.2.2.2.1, (v2.2.2.2.2.2.2.2.2.2.2.1, (v2.2.2.2.2.2.2.2.2.2.2.2.1, (v2.2.2.2.2.2.2.2.2.2.2.2.2.1, (v2.2.2.2.2.2.2.2.2.2.2.2.2.2.1, (v2.2.2.2.2.2.2.2.2.2.2.2.2.2.2.1, (v2.2.2.2.2.2.2.2.2.2.2.2.2.2.2.2.1, (v2.2.2.2.2.2.2.2.2.2.2.2.2.2.2.2.2.1, (v2.2.2.2.2.2.2.2.2.2.2.2.2.2.2.2.2.2.1, (v2.2.2.2.2.2.2.2.2.2.2.2.2.2.2.2.2.2.2.1, (v2.2.2.2.2.2.2.2.2.2.2.2.2.2.2.2.2.2.2.2.1, (v2.2.2.2.2.2.2.2.2.2.2.2.2.2.2.2.2.2.2.2.2.1, (v2.2.2.2.2.2.2.2.2.2.2.2.2.2.2.2.2.2.2.2.2.2.1, ((2048 : Int), v2.2.2.2.2.2.2.2.2.2.2.2.2.2.2.2.2.2.2.2.2.2.2.2))))))))))))))))))))))) else (some v2.2)).bind fun v4 => some (.inl (IntKind.i64.wrap (v2.1 + 1), v4))) else (some (.inr v2.2))) NF ((0 : Int), (v1.2.1, (v1.2.2.1, (v1.2.2.2.1, (v1.2.2.2.2.1, (v1.2.2.2.2.2.1, (v1.2.2.2.2.2.2.1, (v1.2.2.2.2.2.2.2.1, (v1.2.2.2.2.2.2.2.2.1, (v1.2.2.2.2.2.2.2.2.2.1, (v1.2.2.2.2.2.2.2.2.2.2.1, (v1.2.2.2.2.2.2.2.2.2.2.2.1, (v1.2.2.2.2.2.2.2.2.2.2.2.2.1, (v1.2.2.2.2.2.2.2.2.2.2.2.2.2.1, (v1.2.2.2.2.2.2.2.2.2.2.2.2.2.2.1, (v1.2.2.2.2.2.2.2.2.2.2.2.2.2.2.2.1, (v1.2.2.2.2.2.2.2.2.2.2.2.2.2.2.2.2.1, (v1.2.2.2.2.2.2.2.2.2.2.2.2.2.2.2.2.2.1, (v1.2.2.2.2.2.2.2.2.2.2.2.2.2.2.2.2.2.2.1, (v1.2.2.2.2.2.2.2.2.2.2.2.2.2.2.2.2.2.2.2.1, ((798 : Int), ((20 : Int), ((0 : Int), ((0 : Int), (v1.2.2.2.2.2.1, ((0 : Int), ((0 : Int), ((0 : Int), ((0 : Int), (IntKind.i64.wrap (2147483648 + (IntKind.i64.wrap (v1.2.2.2.2.1 * 65536))), ((0 : Int), (v1.2.1, ((([] : (List UInt8)) : List UInt8), ((([] : (List UInt8)) : List UInt8), ()))))))))))))))))))))))))))))))))))).bind fun v5 => (bif v5.2.1 then ((cat v5.1 ([47] : List UInt8)).bind fun v6 => some (v5.2.2.2.2.2.1, (v5.2.2.2.2.2.2.1, (v5.2.2.2.2.2.2.2.1, (v5.2.2.2.2.2.2.2.2.1, (v5.2.2.2.2.2.2.2.2.2.1, (v5.2.2.2.2.2.2.2.2.2.2.1, (v5.2.2.2.2.2.2.2.2.2.2.2.1, (v5.2.2.2.2.2.2.2.2.2.2.2.2.1, (v5.2.2.2.2.2.2.2.2.2.2.2.2.2.1, (v5.2.2.2.2.2.2.2.2.2.2.2.2.2.2.1, (v5.2.2.2.2.2.2.2.2.2.2.2.2.2.2.2.1, (v5.2.2.2.2.2.2.2.2.2.2.2.2.2.2.2.2.1, (v5.2.2.2.2.2.2.2.2.2.2.2.2.2.2.2.2.2.1, (v5.2.2.2.2.2.2.2.2.2.2.2.2.2.2.2.2.2.2.1, (v5.2.2.2.2.2.2.2.2.2.2.2.2.2.2.2.2.2.2.2.1, (v5.2.2.2.2.2.2.2.2.2.2.2.2.2.2.2.2.2.2.2.2.1, (v5.2.2.2.2.2.2.2.2.2.2.2.2.2.2.2.2.2.2.2.2.2.1, (v5.2.2.2.2.2.2.2.2.2.2.2.2.2.2.2.2.2.2.2.2.2.2.1, (v5.2.2.2.2.2.2.2.2.2.2.2.2.2.2.2.2.2.2.2.2.2.2.2.1, (v5.2.2.2.2.2.2.2.2.2.2.2.2.2.2.2.2.2.2.2.2.2.2.2.2.1, (v5.2.2.2.2.2.2.2.2.2.2.2.2.2.2.2.2.2.2.2.2.2.2.2.2.2.1, (v5.2.2.2.2.2.2.2.2.2.2.2.2.2.2.2.2.2.2.2.2.2.2.2.2.2.2.1, (v5.2.2.2.2.2.2.2.2.2.2.2.2.2.2.2.2.2.2.2.2.2.2.2.2.2.2.2.1, (IntKind.i64.wrap ((IntKind.i64.wrap (1073741824 + (IntKind.i64.wrap (v5.2.2.2.1 * 65536)))) + 16), (v5.2.2.2.2.2.2.2.2.2.2.2.2.2.2.2.2.2.2.2.2.2.2.2.2.2.2.2.2.2.1, (v6, v5.2.2.2.2.2.2.2.2.2.2.2.2.2.2.2.2.2.2.2.2.2.2.2.2.2.2.2.2.2.2.2))))))))))))))))))))))))))) else (some v5.2.2.2.2.2)).bind fun v7 => some (v7.2.2.2.2.2.2.2.2.2.2.2.2.2.2, ((0 : Int), ())))
def eF_ref21_Head : VEnt := ⟨16, ⟨[.pv (.cons .str (.cons .bool (.cons .str (.cons (.int .i64) (.cons (.int .i64) .nil)))))], []⟩, [⟨[.tup (.cn (.pv (.cons (.int .i64) (.cons (.int .i64) (.cons (.int .i64) (.cons (.int .i64) (.cons (.int .i64) (.cons (.int .i64) (.cons (.int .i64) (.cons (.int .i64) (.cons (.int .i64) (.cons (.int .i64) (.cons (.int .i64) (.cons .str (.cons .str (.cons .str .nil))))))))))))))) (.cn (.pv (.int .i64)) (.nl)))], []⟩], fun q => F_ref21_Head q.1⟩
def aF_ref21_Head : Ann := .s .z (.s .z (.s (.j [(.normal, ⟨mkT 55 0 [(1, .ptr 0 0), (2, .ptr 1 0), (18, .pv .bool)], [.obj 26 (.cn (.pv .str) (.cn (.pv .bool) (.cn (.pv .str) (.cn (.pv (.int .i64)) (.cn (.pv (.int .i64)) (.nl)))))), .obj 23 (.cn (.pv (.int .i64)) (.cn (.pv (.int .i64)) (.cn (.pv (.int .i64)) (.cn (.pv (.int .i64)) (.cn (.pv (.int .i64)) (.cn (.pv (.int .i64)) (.cn (.pv (.int .i64)) (.cn (.pv (.int .i64)) (.cn (.pv (.int .i64)) (.cn (.pv (.int .i64)) (.cn (.pv (.int .i64)) (.cn (.pv .str) (.cn (.pv .str) (.cn (.pv .str) (.nl)))))))))))))))]⟩)] .z .z) (.s .z (.s (.s .z (.l ⟨mkT 55 0 [(1, .ptr 0 0), (2, .ptr 1 0), (6, .ptr 2 0), (7, .pv (.int .i64))], [.obj 26 (.cn (.pv .str) (.cn (.pv .bool) (.cn (.pv .str) (.cn (.pv (.int .i64)) (.cn (.pv (.int .i64)) (.nl)))))), .obj 23 (.cn (.pv (.int .i64)) (.cn (.pv (.int .i64)) (.cn (.pv (.int .i64)) (.cn (.pv (.int .i64)) (.cn (.pv (.int .i64)) (.cn (.pv (.int .i64)) (.cn (.pv (.int .i64)) (.cn (.pv (.int .i64)) (.cn (.pv (.int .i64)) (.cn (.pv (.int .i64)) (.cn (.pv (.int .i64)) (.cn (.pv .str) (.cn (.pv .str) (.cn (.pv .str) (.nl))))))))))))))), .obj 23 (.cn (.pv (.int .i64)) (.cn (.pv (.int .i64)) (.cn (.pv (.int .i64)) (.cn (.pv (.int .i64)) (.cn (.pv (.int .i64)) (.cn (.pv (.int .i64)) (.cn (.pv (.int .i64)) (.cn (.pv (.int .i64)) (.cn (.pv (.int .i64)) (.cn (.pv (.int .i64)) (.cn (.pv (.int .i64)) (.cn (.pv .str) (.cn (.pv .str) (.cn (.pv .str) (.nl)))))))))))))))]⟩ [((.exit 0), ⟨mkT 55 0 [(1, .ptr 0 0), (2, .ptr 1 0), (6, .ptr 2 0)], [.obj 26 (.cn (.pv .str) (.cn (.pv .bool) (.cn (.pv .str) (.cn (.pv (.int .i64)) (.cn (.pv (.int .i64)) (.nl)))))), .obj 23 (.cn (.pv (.int .i64)) (.cn (.pv (.int .i64)) (.cn (.pv (.int .i64)) (.cn (.pv (.int .i64)) (.cn (.pv (.int .i64)) (.cn (.pv (.int .i64)) (.cn (.pv (.int .i64)) (.cn (.pv (.int .i64)) (.cn (.pv (.int .i64)) (.cn (.pv (.int .i64)) (.cn (.pv (.int .i64)) (.cn (.pv .str) (.cn (.pv .str) (.cn (.pv .str) (.nl))))))))))))))), .obj 23 (.cn (.pv (.int .i64)) (.cn (.pv (.int .i64)) (.cn (.pv (.int .i64)) (.cn (.pv (.int .i64)) (.cn (.pv (.int .i64)) (.cn (.pv (.int .i64)) (.cn (.pv (.int .i64)) (.cn (.pv (.int .i64)) (.cn (.pv (.int .i64)) (.cn (.pv (.int .i64)) (.cn (.pv (.int .i64)) (.cn (.pv .str) (.cn (.pv .str) (.cn (.pv .str) (.nl)))))))))))))))]⟩)] (.s .z (.j [(.normal, ⟨mkT 55 0 [(1, .ptr 0 0), (2, .ptr 1 0), (6, .ptr 2 0)], [.obj 26 (.cn (.pv .str) (.cn (.pv .bool) (.cn (.pv .str) (.cn (.pv (.int .i64)) (.cn (.pv (.int .i64)) (.nl)))))), .obj 23 (.cn (.pv (.int .i64)) (.cn (.pv (.int .i64)) (.cn (.pv (.int .i64)) (.cn (.pv (.int .i64)) (.cn (.pv (.int .i64)) (.cn (.pv (.int .i64)) (.cn (.pv (.int .i64)) (.cn (.pv (.int .i64)) (.cn (.pv (.int .i64)) (.cn (.pv (.int .i64)) (.cn (.pv (.int .i64)) (.cn (.pv .str) (.cn (.pv .str) (.cn (.pv .str) (.nl))))))))))))))), .obj 23 (.cn (.pv (.int .i64)) (.cn (.pv (.int .i64)) (.cn (.pv (.int .i64)) (.cn (.pv (.int .i64)) (.cn (.pv (.int .i64)) (.cn (.pv (.int .i64)) (.cn (.pv (.int .i64)) (.cn (.pv (.int .i64)) (.cn (.pv (.int .i64)) (.cn (.pv (.int .i64)) (.cn (.pv (.int .i64)) (.cn (.pv .str) (.cn (.pv .str) (.cn (.pv .str) (.nl)))))))))))))))]⟩)] .z .z)))) (.j [(.normal, ⟨mkT 55 0 [(2, .ptr 0 0), (6, .ptr 1 0)], [.obj 23 (.cn (.pv (.int .i64)) (.cn (.pv (.int .i64)) (.cn (.pv (.int .i64)) (.cn (.pv (.int .i64)) (.cn (.pv (.int .i64)) (.cn (.pv (.int .i64)) (.cn (.pv (.int .i64)) (.cn (.pv (.int .i64)) (.cn (.pv (.int .i64)) (.cn (.pv (.int .i64)) (.cn (.pv (.int .i64)) (.cn (.pv .str) (.cn (.pv .str) (.cn (.pv .str) (.nl))))))))))))))), .obj 23 (.cn (.pv (.int .i64)) (.cn (.pv (.int .i64)) (.cn (.pv (.int .i64)) (.cn (.pv (.int .i64)) (.cn (.pv (.int .i64)) (.cn (.pv (.int .i64)) (.cn (.pv (.int .i64)) (.cn (.pv (.int .i64)) (.cn (.pv (.int .i64)) (.cn (.pv (.int .i64)) (.cn (.pv (.int .i64)) (.cn (.pv .str) (.cn (.pv .str) (.cn (.pv .str) (.nl)))))))))))))))]⟩)] .z .z)))))
theorem tF_ref21_Head : vfn ⟨Tryd.prog, [], ZV87, PV87⟩ Tryd.f16 aF_ref21_Head eF_ref21_Head.ps eF_ref21_Head.rs = eF_ref21_Head.F := by kernel_rfl
def EV88 : List VEnt := eF_ref21_Head :: EV87
def ZV88 : List VEnt := eF_ref21_Head :: ZV87
def KV88 : PureK := addK KV87 16 (kOf eF_ref21_Head)
def NV88 : List FuncId := NV87
def PV88 : List FuncId := 16 :: PV87
theorem CV88 : Ch Tryd.prog gl0 Wa0 KV88 NV88 ZV88 EV88 := Ch.pure mixedV noGoroutineV CV87 (by kernel_rfl) (by kernel_rfl) (by kernel_rfl) Tryd.func16 (by decide) (by kernel_rfl) tF_ref21_Head
def F_law21_AttrBack (a0 : ((List UInt8) × (Bool × ((List UInt8) × (Int × (Int × Unit)))))) : Option (Bool × Unit) :=
  F_law21_awake.bind fun v0 => bif !v0.1 then (some (false, ())) else (bif decide ((a0.1.length : Int) > 100) then (some (true, ())) else (bif decide ((a0.2.2.1.length : Int) > 100) then (some (true, ())) else ((F_attr_Head a0).bind fun v1 => (F_ref21_Head a0).bind fun v2 => bif !((v1.1.1 == v2.1.1) && ((v1.1.2.1 == v2.1.2.1) && ((v1.1.2.2.1 == v2.1.2.2.1) && ((v1.1.2.2.2.1 == v2.1.2.2.2.1) && ((v1.1.2.2.2.2.1 == v2.1.2.2.2.2.1) && ((v1.1.2.2.2.2.2.1 == v2.1.2.2.2.2.2.1) && ((v1.1.2.2.2.2.2.2.1 == v2.1.2.2.2.2.2.2.1) && ((v1.1.2.2.2.2.2.2.2.1 == v2.1.2.2.2.2.2.2.2.1) && ((v1.1.2.2.2.2.2.2.2.2.1 == v2.1.2.2.2.2.2.2.2.2.1) && ((v1.1.2.2.2.2.2.2.2.2.2.1 == v2.1.2.2.2.2.2.2.2.2.2.1) && ((v1.1.2.2.2.2.2.2.2.2.2.2.1 == v2.1.2.2.2.2.2.2.2.2.2.2.1) && ((v1.1.2.2.2.2.2.2.2.2.2.2.2.1 == v2.1.2.2.2.2.2.2.2.2.2.2.2.1) && ((v1.1.2.2.2.2.2.2.2.2.2.2.2.2.1 == v2.1.2.2.2.2.2.2.2.2.2.2.2.2.1) && (v1.1.2.2.2.2.2.2.2.2.2.2.2.2.2.1 == v2.1.2.2.2.2.2.2.2.2.2.2.2.2.2.1)))))))))))))) then (some (false, ())) else (bif v1.2.1 != v2.2.1 then (some (false, ())) else (bif v2.2.1 != 0 then (some (true, ())) else ((F_attr_Of v1.1).bind fun v3 => (bif v3.2.1 == 0 then (some ((v3.1.1 == ([] : (List UInt8))) && ((v3.1.2.1 == a0.2.1) && ((v3.1.2.2.1 == ([] : (List UInt8))) && ((v3.1.2.2.2.1 == a0.2.2.2.1) && (v3.1.2.2.2.2.1 == a0.2.2.2.2.1)))), ())) else (some (false, ()))).bind fun v4 => some v4))))))
def eF_law21_AttrBack : VEnt := ⟨4, ⟨[.pv (.cons .str (.cons .bool (.cons .str (.cons (.int .i64) (.cons (.int .i64) .nil)))))], []⟩, [⟨[.pv .bool], []⟩], fun q => F_law21_AttrBack q.1⟩
def aF_law21_AttrBack : Ann := .s .z (.s .z (.s .z (.s .z (.s .z (.s .z (.s .z (.s .z (.j [(.normal, ⟨mkT 59 0 [(2, .pv .bool)], []⟩)] .z .z))))))))
theorem tF_law21_AttrBack : vfn ⟨Tryd.prog, gl0, EV88, PV88⟩ Tryd.f4 aF_law21_AttrBack eF_law21_AttrBack.ps eF_law21_AttrBack.rs = eF_law21_AttrBack.F := by kernel_rfl
def EV89 : List VEnt := eF_law21_AttrBack :: EV88
def ZV89 : List VEnt := ZV88
def KV89 : PureK := KV88
def NV89 : List FuncId := 4 :: NV88
def PV89 : List FuncId := PV88
theorem CV89 : Ch Tryd.prog gl0 Wa0 KV89 NV89 ZV89 EV89 := Ch.addG CV88 (by kernel_rfl) (by kernel_rfl) (by kernel_rfl) Tryd.func4 (by decide) tF_law21_AttrBack
end
end Go.Proofs.YtlpiiifmidehjaaDoorM

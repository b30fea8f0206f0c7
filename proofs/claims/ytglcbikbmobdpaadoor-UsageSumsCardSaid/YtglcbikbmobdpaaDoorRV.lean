/- What each function computes, in plain Lean, and that it does: printed by vgen.py. -/
import Derived.Test.YtglcbikbmobdpaaDoorGL
set_option linter.unusedVariables false
set_option linter.unusedSimpArgs false
set_option maxRecDepth 1000000
set_option maxHeartbeats 0
namespace Go.Proofs.YtglcbikbmobdpaaDoorM
open Go Go.RowKit
noncomputable section
def KV0 : PureK := fun _ => none
def ZV0 : List VEnt := []
def PV0 : List FuncId := []
def NV0 : List FuncId := Wa0.fs
def EV0 : List VEnt := []
theorem CV0 : Ch Tryd.prog gl0 Wa0 KV0 NV0 ZV0 EV0 := Ch.start wok0
def einternal_bytealg_CountString : VEnt := eCountByte 150
def EV1 : List VEnt := einternal_bytealg_CountString :: EV0
def ZV1 : List VEnt := einternal_bytealg_CountString :: ZV0
def KV1 : PureK := addK KV0 150 (kOf einternal_bytealg_CountString)
def NV1 : List FuncId := NV0
def PV1 : List FuncId := 150 :: PV0
theorem CV1 : Ch Tryd.prog gl0 Wa0 KV1 NV1 ZV1 EV1 := Ch.hook (e := einternal_bytealg_CountString) CV0 (by kernel_rfl) (by kernel_rfl) (by kernel_rfl) (fun B => hook_countByte hkCB)
def einternal_bytealg_IndexByteString : VEnt := eIndexByte 158
def EV2 : List VEnt := einternal_bytealg_IndexByteString :: EV1
def ZV2 : List VEnt := einternal_bytealg_IndexByteString :: ZV1
def KV2 : PureK := addK KV1 158 (kOf einternal_bytealg_IndexByteString)
def NV2 : List FuncId := NV1
def PV2 : List FuncId := 158 :: PV1
theorem CV2 : Ch Tryd.prog gl0 Wa0 KV2 NV2 ZV2 EV2 := Ch.hook (e := einternal_bytealg_IndexByteString) CV1 (by kernel_rfl) (by kernel_rfl) (by kernel_rfl) (fun B => hook_indexByte hkIB)
def F_unicode_utf8_RuneCountInString (a0 : (List UInt8)) : Option (Int × Unit) :=
  (iter (fun v0 => bif decide (v0.2.2.1 < (v0.2.1.length : Int)) then (some (.inl (IntKind.i64.wrap (v0.1 + 1), (v0.2.1, (oDecN v0.2.1 v0.2.2.1, ()))))) else (some (.inr (v0.1, ())))) NF ((0 : Int), (a0, ((0 : Int), ())))).bind fun v1 => some v1
def eF_unicode_utf8_RuneCountInString : VEnt := ⟨149, ⟨[.pv .str], []⟩, [⟨[.pv (.int .i64)], []⟩], fun q => F_unicode_utf8_RuneCountInString q.1⟩
def aF_unicode_utf8_RuneCountInString : Ann := .s .z (.s (.s .z (.l ⟨mkT 10 0 [(2, .pv (.int .i64)), (4, .ptr 0 0)], [.sit]⟩ [((.exit 0), ⟨mkT 10 0 [(2, .pv (.int .i64))], []⟩)] .z)) .z)
theorem tF_unicode_utf8_RuneCountInString : vfn ⟨Tryd.prog, [], ZV2, PV2⟩ Tryd.f149 aF_unicode_utf8_RuneCountInString eF_unicode_utf8_RuneCountInString.ps eF_unicode_utf8_RuneCountInString.rs = eF_unicode_utf8_RuneCountInString.F := by kernel_rfl
def EV3 : List VEnt := eF_unicode_utf8_RuneCountInString :: EV2
def ZV3 : List VEnt := eF_unicode_utf8_RuneCountInString :: ZV2
def KV3 : PureK := addK KV2 149 (kOf eF_unicode_utf8_RuneCountInString)
def NV3 : List FuncId := NV2
def PV3 : List FuncId := 149 :: PV2
theorem CV3 : Ch Tryd.prog gl0 Wa0 KV3 NV3 ZV3 EV3 := Ch.pure mixedV noGoroutineV CV2 (by kernel_rfl) (by kernel_rfl) (by kernel_rfl) Tryd.func149 (by decide) (by kernel_rfl) tF_unicode_utf8_RuneCountInString
def F_unicode_utf8_decodeRuneInStringSlow (a0 : (List UInt8)) : Option (Int × (Int × Unit)) :=
  bif decide ((a0.length : Int) < 1) then (some ((65533 : Int), ((0 : Int), ()))) else ((idxS a0 (0 : Int)).bind fun v0 => (idxL gv0 v0).bind fun v1 => bif decide (v1 ≥ 240) then ((shlI .i32 (IntKind.i32.wrap v1) 31).bind fun v2 => (shrI v2 .i32 31).bind fun v3 => (idxS a0 (0 : Int)).bind fun v4 => some (orI .i32 (andNotI .i32 (IntKind.i32.wrap v4) v3) (andI .i32 65533 v3), ((1 : Int), ()))) else ((shrI v1 .u8 4).bind fun v5 => (idxL gv1 v5).bind fun v6 => bif decide ((a0.length : Int) < (IntKind.i64.wrap (andI .u8 v1 7))) then (some ((65533 : Int), ((1 : Int), ()))) else ((idxS a0 (1 : Int)).bind fun v7 => bif decide (v7 < v6.1) then (some ((65533 : Int), ((1 : Int), ()))) else (bif decide (v6.2.1 < v7) then (some ((65533 : Int), ((1 : Int), ()))) else (bif decide ((IntKind.i64.wrap (andI .u8 v1 7)) ≤ 2) then ((shlI .i32 (IntKind.i32.wrap (andI .u8 v0 31)) 6).bind fun v8 => some (orI .i32 v8 (IntKind.i32.wrap (andI .u8 v7 63)), ((2 : Int), ()))) else ((idxS a0 (2 : Int)).bind fun v9 => bif decide (v9 < 128) then (some ((65533 : Int), ((1 : Int), ()))) else (bif decide (191 < v9) then (some ((65533 : Int), ((1 : Int), ()))) else (bif decide ((IntKind.i64.wrap (andI .u8 v1 7)) ≤ 3) then ((shlI .i32 (IntKind.i32.wrap (andI .u8 v0 15)) 12).bind fun v10 => (shlI .i32 (IntKind.i32.wrap (andI .u8 v7 63)) 6).bind fun v11 => some (orI .i32 (orI .i32 v10 v11) (IntKind.i32.wrap (andI .u8 v9 63)), ((3 : Int), ()))) else ((idxS a0 (3 : Int)).bind fun v12 => bif decide (v12 < 128) then (some ((65533 : Int), ((1 : Int), ()))) else (bif decide (191 < v12) then (some ((65533 : Int), ((1 : Int), ()))) else ((shlI .i32 (IntKind.i32.wrap (andI .u8 v0 7)) 18).bind fun v13 => (shlI .i32 (IntKind.i32.wrap (andI .u8 v7 63)) 12).bind fun v14 => (shlI .i32 (IntKind.i32.wrap (andI .u8 v9 63)) 6).bind fun v15 => some (orI .i32 (orI .i32 (orI .i32 v13 v14) v15) (IntKind.i32.wrap (andI .u8 v12 63)), ((4 : Int), ())))))))))))))
def eF_unicode_utf8_decodeRuneInStringSlow : VEnt := ⟨95, ⟨[.pv .str], []⟩, [⟨[.tup (.cn (.pv (.int .i32)) (.cn (.pv (.int .i64)) (.nl)))], []⟩], fun q => F_unicode_utf8_decodeRuneInStringSlow q.1⟩
def aF_unicode_utf8_decodeRuneInStringSlow : Ann := .z
theorem tF_unicode_utf8_decodeRuneInStringSlow : vfn ⟨Tryd.prog, gl0, EV3, PV3⟩ Tryd.f95 aF_unicode_utf8_decodeRuneInStringSlow eF_unicode_utf8_decodeRuneInStringSlow.ps eF_unicode_utf8_decodeRuneInStringSlow.rs = eF_unicode_utf8_decodeRuneInStringSlow.F := by kernel_rfl
def EV4 : List VEnt := eF_unicode_utf8_decodeRuneInStringSlow :: EV3
def ZV4 : List VEnt := ZV3
def KV4 : PureK := KV3
def NV4 : List FuncId := 95 :: NV3
def PV4 : List FuncId := PV3
theorem CV4 : Ch Tryd.prog gl0 Wa0 KV4 NV4 ZV4 EV4 := Ch.addG CV3 (by kernel_rfl) (by kernel_rfl) (by kernel_rfl) Tryd.func95 (by decide) tF_unicode_utf8_decodeRuneInStringSlow
def F_unicode_utf8_DecodeRuneInString (a0 : (List UInt8)) : Option (Int × (Int × Unit)) :=
  (bif !(a0 == ([] : (List UInt8))) then ((idxS a0 (0 : Int)).bind fun v0 => some (decide (v0 < 128), ())) else (some (false, ()))).bind fun v1 => bif v1.1 then ((idxS a0 (0 : Int)).bind fun v2 => some (IntKind.i32.wrap v2, ((1 : Int), ()))) else ((F_unicode_utf8_decodeRuneInStringSlow a0).bind fun v3 => some v3)
def eF_unicode_utf8_DecodeRuneInString : VEnt := ⟨69, ⟨[.pv .str], []⟩, [⟨[.tup (.cn (.pv (.int .i32)) (.cn (.pv (.int .i64)) (.nl)))], []⟩], fun q => F_unicode_utf8_DecodeRuneInString q.1⟩
def aF_unicode_utf8_DecodeRuneInString : Ann := .s .z (.s (.j [(.normal, ⟨mkT 19 0 [(10, .pv .bool)], []⟩)] .z .z) .z)
theorem tF_unicode_utf8_DecodeRuneInString : vfn ⟨Tryd.prog, gl0, EV4, PV4⟩ Tryd.f69 aF_unicode_utf8_DecodeRuneInString eF_unicode_utf8_DecodeRuneInString.ps eF_unicode_utf8_DecodeRuneInString.rs = eF_unicode_utf8_DecodeRuneInString.F := by kernel_rfl
def EV5 : List VEnt := eF_unicode_utf8_DecodeRuneInString :: EV4
def ZV5 : List VEnt := ZV4
def KV5 : PureK := KV4
def NV5 : List FuncId := 69 :: NV4
def PV5 : List FuncId := PV4
theorem CV5 : Ch Tryd.prog gl0 Wa0 KV5 NV5 ZV5 EV5 := Ch.addG CV4 (by kernel_rfl) (by kernel_rfl) (by kernel_rfl) Tryd.func69 (by decide) tF_unicode_utf8_DecodeRuneInString
def F_strings_explode (a0 : (List UInt8)) (a1 : Int) : Option ((List (List UInt8)) × Unit) :=
  (F_unicode_utf8_RuneCountInString a0).bind fun v0 => (bif decide (a1 < 0) then (some v0) else (bif decide (a1 > v0.1) then (some v0) else (some (a1, ())))).bind fun v1 => (chkSub (oMin v1.1 (100000000 : Int)) v1.1 v1.1).bind fun v2 => (iter (fun v3 => bif decide (v3.2.1 < (IntKind.i64.wrap (v1.1 - 1))) then ((F_unicode_utf8_DecodeRuneInString v3.1).bind fun v4 => (subS v3.1 (0 : Int) v4.2.1).bind fun v5 => (idxL v3.2.2.1 v3.2.1).bind fun v6 => (idxL v3.2.2.1 v3.2.1).bind fun v7 => (subS v3.1 v4.2.1 (v3.1.length : Int)).bind fun v8 => some (.inl (v8, (IntKind.i64.wrap (v3.2.1 + 1), (oSet v3.2.2.1 v3.2.1 v5, ()))))) else (some (.inr (v3.1, v3.2.2)))) NF (a0, ((0 : Int), (oRep v1.1 (([] : (List UInt8)) : List UInt8), ())))).bind fun v9 => (bif decide (v1.1 > 0) then ((idxL v9.2.1 (IntKind.i64.wrap (v1.1 - 1))).bind fun v10 => (idxL v9.2.1 (IntKind.i64.wrap (v1.1 - 1))).bind fun v11 => some (oSet v9.2.1 (IntKind.i64.wrap (v1.1 - 1)) v9.1, ())) else (some v9.2)).bind fun v12 => some v12
def eF_strings_explode : VEnt := ⟨137, ⟨[.pv .str, .pv (.int .i64)], []⟩, [⟨[.row 0], [.row 9 .str]⟩], fun q => F_strings_explode q.1 q.2.1⟩
def aF_strings_explode : Ann := .s .z (.s .z (.j [(.normal, ⟨mkT 50 0 [(1, .pv (.int .i64))], []⟩)] .z (.s .z (.s (.s .z (.l ⟨mkT 50 0 [(0, .pv .str), (6, .row 0), (7, .pv (.int .i64))], [.row 9 .str]⟩ [((.exit 0), ⟨mkT 50 0 [(0, .pv .str), (6, .row 0)], [.row 9 .str]⟩)] .z)) (.j [(.normal, ⟨mkT 50 0 [(6, .row 0)], [.row 9 .str]⟩)] .z .z)))))
theorem tF_strings_explode : vfn ⟨Tryd.prog, gl0, EV5, PV5⟩ Tryd.f137 aF_strings_explode eF_strings_explode.ps eF_strings_explode.rs = eF_strings_explode.F := by kernel_rfl
def EV6 : List VEnt := eF_strings_explode :: EV5
def ZV6 : List VEnt := ZV5
def KV6 : PureK := KV5
def NV6 : List FuncId := 137 :: NV5
def PV6 : List FuncId := PV5
theorem CV6 : Ch Tryd.prog gl0 Wa0 KV6 NV6 ZV6 EV6 := Ch.addG CV5 (by kernel_rfl) (by kernel_rfl) (by kernel_rfl) Tryd.func137 (by decide) tF_strings_explode
def F_internal_stringslite_IndexByte (a0 : (List UInt8)) (a1 : Int) : Option (Int × Unit) :=
  (F_indexByte a0 a1).bind fun v0 => some v0
def eF_internal_stringslite_IndexByte : VEnt := ⟨154, ⟨[.pv .str, .pv (.int .u8)], []⟩, [⟨[.pv (.int .i64)], []⟩], fun q => F_internal_stringslite_IndexByte q.1 q.2.1⟩
def aF_internal_stringslite_IndexByte : Ann := .z
theorem tF_internal_stringslite_IndexByte : vfn ⟨Tryd.prog, [], ZV6, PV6⟩ Tryd.f154 aF_internal_stringslite_IndexByte eF_internal_stringslite_IndexByte.ps eF_internal_stringslite_IndexByte.rs = eF_internal_stringslite_IndexByte.F := by kernel_rfl
def EV7 : List VEnt := eF_internal_stringslite_IndexByte :: EV6
def ZV7 : List VEnt := eF_internal_stringslite_IndexByte :: ZV6
def KV7 : PureK := addK KV6 154 (kOf eF_internal_stringslite_IndexByte)
def NV7 : List FuncId := NV6
def PV7 : List FuncId := 154 :: PV6
theorem CV7 : Ch Tryd.prog gl0 Wa0 KV7 NV7 ZV7 EV7 := Ch.pure mixedV noGoroutineV CV6 (by kernel_rfl) (by kernel_rfl) (by kernel_rfl) Tryd.func154 (by decide) (by kernel_rfl) tF_internal_stringslite_IndexByte
def F_internal_stringslite_Index (a0 : (List UInt8)) (a1 : (List UInt8)) : Option (Int × Unit) :=
  bif (a1.length : Int) == 0 then (some ((0 : Int), ())) else (bif a1 == a0 then (some ((0 : Int), ())) else (bif (a1.length : Int) == 1 then ((idxS a1 (0 : Int)).bind fun v0 => (F_internal_stringslite_IndexByte a0 v0).bind fun v1 => some v1) else (bif decide ((a1.length : Int) ≥ (a0.length : Int)) then (some (((-1) : Int), ())) else none)))
def eF_internal_stringslite_Index : VEnt := ⟨151, ⟨[.pv .str, .pv .str], []⟩, [⟨[.pv (.int .i64)], []⟩], fun q => F_internal_stringslite_Index q.1 q.2.1⟩
def aF_internal_stringslite_Index : Ann := .z
theorem tF_internal_stringslite_Index : vfn ⟨Tryd.prog, gl0, EV7, PV7⟩ Tryd.f151 aF_internal_stringslite_Index eF_internal_stringslite_Index.ps eF_internal_stringslite_Index.rs = eF_internal_stringslite_Index.F := by kernel_rfl
def EV8 : List VEnt := eF_internal_stringslite_Index :: EV7
def ZV8 : List VEnt := ZV7
def KV8 : PureK := KV7
def NV8 : List FuncId := 151 :: NV7
def PV8 : List FuncId := PV7
theorem CV8 : Ch Tryd.prog gl0 Wa0 KV8 NV8 ZV8 EV8 := Ch.addG CV7 (by kernel_rfl) (by kernel_rfl) (by kernel_rfl) Tryd.func151 (by decide) tF_internal_stringslite_Index
def F_strings_Index (a0 : (List UInt8)) (a1 : (List UInt8)) : Option (Int × Unit) :=
  (F_internal_stringslite_Index a0 a1).bind fun v0 => some v0
def eF_strings_Index : VEnt := ⟨139, ⟨[.pv .str, .pv .str], []⟩, [⟨[.pv (.int .i64)], []⟩], fun q => F_strings_Index q.1 q.2.1⟩
def aF_strings_Index : Ann := .z
theorem tF_strings_Index : vfn ⟨Tryd.prog, gl0, EV8, PV8⟩ Tryd.f139 aF_strings_Index eF_strings_Index.ps eF_strings_Index.rs = eF_strings_Index.F := by kernel_rfl
def EV9 : List VEnt := eF_strings_Index :: EV8
def ZV9 : List VEnt := ZV8
def KV9 : PureK := KV8
def NV9 : List FuncId := 139 :: NV8
def PV9 : List FuncId := PV8
theorem CV9 : Ch Tryd.prog gl0 Wa0 KV9 NV9 ZV9 EV9 := Ch.addG CV8 (by kernel_rfl) (by kernel_rfl) (by kernel_rfl) Tryd.func139 (by decide) tF_strings_Index
def F_strings_Count (a0 : (List UInt8)) (a1 : (List UInt8)) : Option (Int × Unit) :=
  bif (a1.length : Int) == 0 then ((F_unicode_utf8_RuneCountInString a0).bind fun v0 => some (IntKind.i64.wrap (v0.1 + 1), ())) else (bif (a1.length : Int) == 1 then ((idxS a1 (0 : Int)).bind fun v1 => (F_countByte a0 v1).bind fun v2 => some v2) else ((iter (fun v3 => (F_strings_Index v3.1 a1).bind fun v4 => bif v4.1 == (-1) then (some (.inr v3.2)) else ((subS v3.1 (IntKind.i64.wrap (v4.1 + (a1.length : Int))) (v3.1.length : Int)).bind fun v5 => some (.inl (v5, (IntKind.i64.wrap (v3.2.1 + 1), ()))))) NF (a0, ((0 : Int), ()))).bind fun v6 => some v6))
def eF_strings_Count : VEnt := ⟨138, ⟨[.pv .str, .pv .str], []⟩, [⟨[.pv (.int .i64)], []⟩], fun q => F_strings_Count q.1 q.2.1⟩
def aF_strings_Count : Ann := .s .z (.s .z (.s .z (.s .z (.l ⟨mkT 34 0 [(0, .pv .str), (5, .pv (.int .i64))], []⟩ [(.ret, ⟨mkT 34 0 [(4, .pv (.int .i64))], []⟩)] .z))))
theorem tF_strings_Count : vfn ⟨Tryd.prog, gl0, EV9, PV9⟩ Tryd.f138 aF_strings_Count eF_strings_Count.ps eF_strings_Count.rs = eF_strings_Count.F := by kernel_rfl
def EV10 : List VEnt := eF_strings_Count :: EV9
def ZV10 : List VEnt := ZV9
def KV10 : PureK := KV9
def NV10 : List FuncId := 138 :: NV9
def PV10 : List FuncId := PV9
theorem CV10 : Ch Tryd.prog gl0 Wa0 KV10 NV10 ZV10 EV10 := Ch.addG CV9 (by kernel_rfl) (by kernel_rfl) (by kernel_rfl) Tryd.func138 (by decide) tF_strings_Count
def F_strings_genSplit (a0 : (List UInt8)) (a1 : (List UInt8)) (a2 : Int) (a3 : Int) : Option ((List (List UInt8)) × Unit) :=
  bif a3 == 0 then (some (([] : (List (List UInt8))), ())) else (bif a1 == ([] : (List UInt8)) then ((F_strings_explode a0 a3).bind fun v0 => some v0) else ((bif decide (a3 < 0) then ((F_strings_Count a0 a1).bind fun v1 => some (IntKind.i64.wrap (v1.1 + 1), ())) else (some (a3, ()))).bind fun v2 => (chkSub (oMin (minI v2.1 (IntKind.i64.wrap ((a0.length : Int) + 1))) (100000000 : Int)) (minI v2.1 (IntKind.i64.wrap ((a0.length : Int) + 1))) (minI v2.1 (IntKind.i64.wrap ((a0.length : Int) + 1)))).bind fun v3 => (iter (fun v4 => bif decide (v4.2.1 < (IntKind.i64.wrap ((minI v2.1 (IntKind.i64.wrap ((a0.length : Int) + 1))) - 1))) then ((F_strings_Index v4.1 a1).bind fun v5 => bif decide (v5.1 < 0) then (some (.inr v4)) else ((subS v4.1 (0 : Int) (IntKind.i64.wrap (v5.1 + a2))).bind fun v6 => (idxL v4.2.2.1 v4.2.1).bind fun v7 => (idxL v4.2.2.1 v4.2.1).bind fun v8 => (subS v4.1 (IntKind.i64.wrap (v5.1 + (a1.length : Int))) (v4.1.length : Int)).bind fun v9 => some (.inl (v9, (IntKind.i64.wrap (v4.2.1 + 1), (oSet v4.2.2.1 v4.2.1 v6, ())))))) else (some (.inr v4))) NF (a0, ((0 : Int), (oRep (minI v2.1 (IntKind.i64.wrap ((a0.length : Int) + 1))) (([] : (List UInt8)) : List UInt8), ())))).bind fun v10 => (idxL v10.2.2.1 v10.2.1).bind fun v11 => (idxL v10.2.2.1 v10.2.1).bind fun v12 => (chkSub ((oSet v10.2.2.1 v10.2.1 v10.1).length : Int) (0 : Int) (IntKind.i64.wrap (v10.2.1 + 1))).bind fun v13 => some (oTD (oSet v10.2.2.1 v10.2.1 v10.1) (0 : Int) (IntKind.i64.wrap (v10.2.1 + 1)), ())))
def eF_strings_genSplit : VEnt := ⟨114, ⟨[.pv .str, .pv .str, .pv (.int .i64), .pv (.int .i64)], []⟩, [⟨[.row 0], [.row 9 .str]⟩], fun q => F_strings_genSplit q.1 q.2.1 q.2.2.1 q.2.2.2.1⟩
def aF_strings_genSplit : Ann := .s .z (.s .z (.s .z (.j [(.normal, ⟨mkT 66 0 [(3, .pv (.int .i64))], []⟩)] .z (.s .z (.s .z (.s .z (.s .z (.s (.l ⟨mkT 66 0 [(0, .pv .str), (9, .row 0), (10, .pv (.int .i64))], [.row 9 .str]⟩ [((.exit 0), ⟨mkT 66 0 [(0, .pv .str), (9, .row 0), (10, .pv (.int .i64))], [.row 9 .str]⟩)] .z) .z))))))))
theorem tF_strings_genSplit : vfn ⟨Tryd.prog, gl0, EV10, PV10⟩ Tryd.f114 aF_strings_genSplit eF_strings_genSplit.ps eF_strings_genSplit.rs = eF_strings_genSplit.F := by kernel_rfl
def EV11 : List VEnt := eF_strings_genSplit :: EV10
def ZV11 : List VEnt := ZV10
def KV11 : PureK := KV10
def NV11 : List FuncId := 114 :: NV10
def PV11 : List FuncId := PV10
theorem CV11 : Ch Tryd.prog gl0 Wa0 KV11 NV11 ZV11 EV11 := Ch.addG CV10 (by kernel_rfl) (by kernel_rfl) (by kernel_rfl) Tryd.func114 (by decide) tF_strings_genSplit
def F_strings_Split (a0 : (List UInt8)) (a1 : (List UInt8)) : Option ((List (List UInt8)) × Unit) :=
  (F_strings_genSplit a0 a1 (0 : Int) ((-1) : Int)).bind fun v0 => some v0
def eF_strings_Split : VEnt := ⟨90, ⟨[.pv .str, .pv .str], []⟩, [⟨[.row 0], [.row 9 .str]⟩], fun q => F_strings_Split q.1 q.2.1⟩
def aF_strings_Split : Ann := .z
theorem tF_strings_Split : vfn ⟨Tryd.prog, gl0, EV11, PV11⟩ Tryd.f90 aF_strings_Split eF_strings_Split.ps eF_strings_Split.rs = eF_strings_Split.F := by kernel_rfl
def EV12 : List VEnt := eF_strings_Split :: EV11
def ZV12 : List VEnt := ZV11
def KV12 : PureK := KV11
def NV12 : List FuncId := 90 :: NV11
def PV12 : List FuncId := PV11
theorem CV12 : Ch Tryd.prog gl0 Wa0 KV12 NV12 ZV12 EV12 := Ch.addG CV11 (by kernel_rfl) (by kernel_rfl) (by kernel_rfl) Tryd.func90 (by decide) tF_strings_Split
def F_route_Parts (a0 : (List UInt8)) : Option ((List (List UInt8)) × Unit) :=
  bif a0 == ([] : (List UInt8)) then (some (([] : (List (List UInt8))), ())) else ((F_strings_Split a0 ([47] : List UInt8)).bind fun v0 => some v0)
def eF_route_Parts : VEnt := ⟨57, ⟨[.pv .str], []⟩, [⟨[.row 0], [.row 9 .str]⟩], fun q => F_route_Parts q.1⟩
def aF_route_Parts : Ann := .z
theorem tF_route_Parts : vfn ⟨Tryd.prog, gl0, EV12, PV12⟩ Tryd.f57 aF_route_Parts eF_route_Parts.ps eF_route_Parts.rs = eF_route_Parts.F := by kernel_rfl
def EV13 : List VEnt := eF_route_Parts :: EV12
def ZV13 : List VEnt := ZV12
def KV13 : PureK := KV12
def NV13 : List FuncId := 57 :: NV12
def PV13 : List FuncId := PV12
theorem CV13 : Ch Tryd.prog gl0 Wa0 KV13 NV13 ZV13 EV13 := Ch.addG CV12 (by kernel_rfl) (by kernel_rfl) (by kernel_rfl) Tryd.func57 (by decide) tF_route_Parts
def F_ref13_Parts (a0 : (List UInt8)) : Option ((List (List UInt8)) × Unit) :=
  bif a0 == ([] : (List UInt8)) then (some (([] : (List (List UInt8))), ())) else ((iter (fun v0 => bif decide (v0.2.1 ≤ (a0.length : Int)) then (((bif v0.2.1 == (a0.length : Int) then (some (true, v0.2.2)) else ((idxS a0 v0.2.1).bind fun v1 => some (v1 == 47, v0.2.2))).bind fun v2 => bif v2.1 then ((subS a0 v0.1 v0.2.1).bind fun v3 => (app v2.2.1 [v3]).bind fun v4 => some (IntKind.i64.wrap (v0.2.1 + 1), (v4, ()))) else (some (v0.1, v2.2))).bind fun v5 => some (.inl (v5.1, (IntKind.i64.wrap (v0.2.1 + 1), v5.2)))) else (some (.inr v0.2.2))) NF ((0 : Int), ((0 : Int), (([] : (List (List UInt8))), ())))).bind fun v6 => some v6)
def eF_ref13_Parts : VEnt := ⟨58, ⟨[.pv .str], []⟩, [⟨[.row 0], [.row 9 .str]⟩], fun q => F_ref13_Parts q.1⟩
def aF_ref13_Parts : Ann := .s .z (.s .z (.s .z (.s .z (.s (.s .z (.l ⟨mkT 34 0 [(3, .row 0), (4, .pv (.int .i64)), (5, .pv (.int .i64))], [.row 9 .str]⟩ [((.exit 0), ⟨mkT 34 0 [(3, .row 0)], [.row 9 .str]⟩)] (.s .z (.j [(.normal, ⟨mkT 34 0 [(3, .row 0), (4, .pv (.int .i64))], [.row 9 .str]⟩)] (.j [(.normal, ⟨mkT 34 0 [(3, .row 0), (23, .pv .bool)], [.row 9 .str]⟩)] .z .z) .z)))) .z))))
theorem tF_ref13_Parts : vfn ⟨Tryd.prog, [], ZV13, PV13⟩ Tryd.f58 aF_ref13_Parts eF_ref13_Parts.ps eF_ref13_Parts.rs = eF_ref13_Parts.F := by kernel_rfl
def EV14 : List VEnt := eF_ref13_Parts :: EV13
def ZV14 : List VEnt := eF_ref13_Parts :: ZV13
def KV14 : PureK := KV13
def NV14 : List FuncId := 58 :: NV13
def PV14 : List FuncId := PV13
theorem CV14 : Ch Tryd.prog gl0 Wa0 KV14 NV14 ZV14 EV14 := Ch.add0 CV13 (by kernel_rfl) (by kernel_rfl) (by kernel_rfl) Tryd.func58 (by decide) tF_ref13_Parts
def F_internal_bytealg_LastIndexByteString (a0 : (List UInt8)) (a1 : Int) : Option (Int × Unit) :=
  (iter (fun v0 => bif decide (v0.1 ≥ 0) then ((idxS a0 v0.1).bind fun v1 => bif v1 == a1 then (some (.inr (.inl v0))) else (some (.inl (IntKind.i64.wrap (v0.1 - 1), ())))) else (some (.inr (.inr ())))) NF (IntKind.i64.wrap ((a0.length : Int) - 1), ())).bind fun v2 => sumK v2 (fun v3 => some v3) (fun v4 => some (((-1) : Int), ()))
def eF_internal_bytealg_LastIndexByteString : VEnt := ⟨106, ⟨[.pv .str, .pv (.int .u8)], []⟩, [⟨[.pv (.int .i64)], []⟩], fun q => F_internal_bytealg_LastIndexByteString q.1 q.2.1⟩
def aF_internal_bytealg_LastIndexByteString : Ann := .s .z (.s (.s .z (.l ⟨mkT 19 0 [(5, .pv (.int .i64))], []⟩ [(.ret, ⟨mkT 19 0 [(4, .pv (.int .i64))], []⟩), ((.exit 0), ⟨mkT 19 0 [], []⟩)] .z)) .z)
theorem tF_internal_bytealg_LastIndexByteString : vfn ⟨Tryd.prog, [], ZV14, PV14⟩ Tryd.f106 aF_internal_bytealg_LastIndexByteString eF_internal_bytealg_LastIndexByteString.ps eF_internal_bytealg_LastIndexByteString.rs = eF_internal_bytealg_LastIndexByteString.F := by kernel_rfl
def EV15 : List VEnt := eF_internal_bytealg_LastIndexByteString :: EV14
def ZV15 : List VEnt := eF_internal_bytealg_LastIndexByteString :: ZV14
def KV15 : PureK := addK KV14 106 (kOf eF_internal_bytealg_LastIndexByteString)
def NV15 : List FuncId := NV14
def PV15 : List FuncId := 106 :: PV14
theorem CV15 : Ch Tryd.prog gl0 Wa0 KV15 NV15 ZV15 EV15 := Ch.pure mixedV noGoroutineV CV14 (by kernel_rfl) (by kernel_rfl) (by kernel_rfl) Tryd.func106 (by decide) (by kernel_rfl) tF_internal_bytealg_LastIndexByteString
def F_internal_bytealg_hashStrRev_string (a0 : (List UInt8)) : Option (Int × (Int × Unit)) :=
  (iter (fun v0 => bif decide (v0.2.1 ≥ 0) then ((idxS a0 v0.2.1).bind fun v1 => some (.inl (IntKind.u32.wrap ((IntKind.u32.wrap (v0.1 * 16777619)) + (IntKind.u32.wrap v1)), (IntKind.i64.wrap (v0.2.1 - 1), ())))) else (some (.inr (v0.1, ())))) NF ((0 : Int), (IntKind.i64.wrap ((a0.length : Int) - 1), ()))).bind fun v2 => (iter (fun v3 => bif decide (v3.2.2.1 > 0) then ((bif (andI .i64 v3.2.2.1 1) != 0 then (some (IntKind.u32.wrap (v3.1 * v3.2.1), ())) else (some (v3.1, ()))).bind fun v4 => (shrI v3.2.2.1 .i64 1).bind fun v5 => some (.inl (v4.1, (IntKind.u32.wrap (v3.2.1 * v3.2.1), (v5, ()))))) else (some (.inr (v3.1, ())))) NF ((1 : Int), ((16777619 : Int), ((a0.length : Int), ())))).bind fun v6 => some (v2.1, v6)
def eF_internal_bytealg_hashStrRev_string : VEnt := ⟨124, ⟨[.pv .str], []⟩, [⟨[.tup (.cn (.pv (.int .u32)) (.cn (.pv (.int .u32)) (.nl)))], []⟩], fun q => F_internal_bytealg_hashStrRev_string q.1⟩
def aF_internal_bytealg_hashStrRev_string : Ann := .s .z (.s .z (.s (.s .z (.l ⟨mkT 40 0 [(4, .pv (.int .u32)), (5, .pv (.int .i64))], []⟩ [((.exit 0), ⟨mkT 40 0 [(4, .pv (.int .u32))], []⟩)] .z)) (.s .z (.s (.s .z (.l ⟨mkT 40 0 [(6, .pv (.int .u32)), (7, .pv (.int .u32)), (8, .pv (.int .i64))], []⟩ [((.exit 2), ⟨mkT 40 0 [(6, .pv (.int .u32))], []⟩)] (.s .z (.s (.j [(.normal, ⟨mkT 40 0 [(6, .pv (.int .u32))], []⟩)] .z .z) .z)))) .z))))
theorem tF_internal_bytealg_hashStrRev_string : vfn ⟨Tryd.prog, [], ZV15, PV15⟩ Tryd.f124 aF_internal_bytealg_hashStrRev_string eF_internal_bytealg_hashStrRev_string.ps eF_internal_bytealg_hashStrRev_string.rs = eF_internal_bytealg_hashStrRev_string.F := by kernel_rfl
def EV16 : List VEnt := eF_internal_bytealg_hashStrRev_string :: EV15
def ZV16 : List VEnt := eF_internal_bytealg_hashStrRev_string :: ZV15
def KV16 : PureK := addK KV15 124 (kOf eF_internal_bytealg_hashStrRev_string)
def NV16 : List FuncId := NV15
def PV16 : List FuncId := 124 :: PV15
theorem CV16 : Ch Tryd.prog gl0 Wa0 KV16 NV16 ZV16 EV16 := Ch.pure mixedV noGoroutineV CV15 (by kernel_rfl) (by kernel_rfl) (by kernel_rfl) Tryd.func124 (by decide) (by kernel_rfl) tF_internal_bytealg_hashStrRev_string
def F_internal_bytealg_LastIndexRabinKarp_string (a0 : (List UInt8)) (a1 : (List UInt8)) : Option (Int × Unit) :=
  (F_internal_bytealg_hashStrRev_string a1).bind fun v0 => (iter (fun v1 => bif decide (v1.2.1 ≥ (IntKind.i64.wrap ((a0.length : Int) - (a1.length : Int)))) then ((idxS a0 v1.2.1).bind fun v2 => some (.inl (IntKind.u32.wrap ((IntKind.u32.wrap (v1.1 * 16777619)) + (IntKind.u32.wrap v2)), (IntKind.i64.wrap (v1.2.1 - 1), ())))) else (some (.inr (v1.1, ())))) NF ((0 : Int), (IntKind.i64.wrap ((a0.length : Int) - 1), ()))).bind fun v3 => (bif v3.1 == v0.1 then ((subS a0 (IntKind.i64.wrap ((a0.length : Int) - (a1.length : Int))) (a0.length : Int)).bind fun v4 => bif v4 == a1 then (some (.inl (IntKind.i64.wrap ((a0.length : Int) - (a1.length : Int)), ()))) else (some (.inr ()))) else (some (.inr ()))).bind fun v5 => sumK v5 (fun v6 => some v6) (fun v7 => (iter (fun v8 => bif decide (v8.2.1 ≥ 0) then (((idxS a0 v8.2.1).bind fun v9 => (idxS a0 (IntKind.i64.wrap (v8.2.1 + (a1.length : Int)))).bind fun v10 => bif (IntKind.u32.wrap ((IntKind.u32.wrap ((IntKind.u32.wrap (v8.1 * 16777619)) + (IntKind.u32.wrap v9))) - (IntKind.u32.wrap (v0.2.1 * (IntKind.u32.wrap v10))))) == v0.1 then ((subS a0 v8.2.1 (IntKind.i64.wrap (v8.2.1 + (a1.length : Int)))).bind fun v11 => bif v11 == a1 then (some (.inl v8.2)) else (some (.inr (IntKind.u32.wrap ((IntKind.u32.wrap ((IntKind.u32.wrap (v8.1 * 16777619)) + (IntKind.u32.wrap v9))) - (IntKind.u32.wrap (v0.2.1 * (IntKind.u32.wrap v10)))), ())))) else (some (.inr (IntKind.u32.wrap ((IntKind.u32.wrap ((IntKind.u32.wrap (v8.1 * 16777619)) + (IntKind.u32.wrap v9))) - (IntKind.u32.wrap (v0.2.1 * (IntKind.u32.wrap v10)))), ())))).bind fun v12 => sumK v12 (fun v13 => some (.inr (.inl v13))) (fun v14 => some (.inl (v14.1, (IntKind.i64.wrap (v8.2.1 - 1), ()))))) else (some (.inr (.inr ())))) NF (v3.1, (IntKind.i64.wrap ((IntKind.i64.wrap ((a0.length : Int) - (a1.length : Int))) - 1), ()))).bind fun v15 => sumK v15 (fun v16 => some v16) (fun v17 => some (((-1) : Int), ())))
def eF_internal_bytealg_LastIndexRabinKarp_string : VEnt := ⟨107, ⟨[.pv .str, .pv .str], []⟩, [⟨[.pv (.int .i64)], []⟩], fun q => F_internal_bytealg_LastIndexRabinKarp_string q.1 q.2.1⟩
def aF_internal_bytealg_LastIndexRabinKarp_string : Ann := .s .z (.s .z (.s .z (.s .z (.s .z (.s (.s .z (.l ⟨mkT 87 0 [(9, .pv (.int .u32)), (10, .pv (.int .i64))], []⟩ [((.exit 0), ⟨mkT 87 0 [(9, .pv (.int .u32))], []⟩)] .z)) (.j [(.ret, ⟨mkT 87 0 [(4, .pv (.int .i64))], []⟩), (.normal, ⟨mkT 87 0 [], []⟩)] .z (.s (.s .z (.l ⟨mkT 87 0 [(9, .pv (.int .u32)), (11, .pv (.int .i64))], []⟩ [(.ret, ⟨mkT 87 0 [(4, .pv (.int .i64))], []⟩), ((.exit 2), ⟨mkT 87 0 [], []⟩)] (.s .z (.j [(.ret, ⟨mkT 87 0 [(4, .pv (.int .i64))], []⟩), (.normal, ⟨mkT 87 0 [(9, .pv (.int .u32))], []⟩)] .z .z)))) .z)))))))
theorem tF_internal_bytealg_LastIndexRabinKarp_string : vfn ⟨Tryd.prog, [], ZV16, PV16⟩ Tryd.f107 aF_internal_bytealg_LastIndexRabinKarp_string eF_internal_bytealg_LastIndexRabinKarp_string.ps eF_internal_bytealg_LastIndexRabinKarp_string.rs = eF_internal_bytealg_LastIndexRabinKarp_string.F := by kernel_rfl
def EV17 : List VEnt := eF_internal_bytealg_LastIndexRabinKarp_string :: EV16
def ZV17 : List VEnt := eF_internal_bytealg_LastIndexRabinKarp_string :: ZV16
def KV17 : PureK := addK KV16 107 (kOf eF_internal_bytealg_LastIndexRabinKarp_string)
def NV17 : List FuncId := NV16
def PV17 : List FuncId := 107 :: PV16
theorem CV17 : Ch Tryd.prog gl0 Wa0 KV17 NV17 ZV17 EV17 := Ch.pure mixedV noGoroutineV CV16 (by kernel_rfl) (by kernel_rfl) (by kernel_rfl) Tryd.func107 (by decide) (by kernel_rfl) tF_internal_bytealg_LastIndexRabinKarp_string
def F_strings_LastIndex (a0 : (List UInt8)) (a1 : (List UInt8)) : Option (Int × Unit) :=
  bif (a1.length : Int) == 0 then (some ((a0.length : Int), ())) else (bif (a1.length : Int) == 1 then ((idxS a1 (0 : Int)).bind fun v0 => (F_internal_bytealg_LastIndexByteString a0 v0).bind fun v1 => some v1) else (bif (a1.length : Int) == (a0.length : Int) then (bif a1 == a0 then (some ((0 : Int), ())) else (some (((-1) : Int), ()))) else (bif decide ((a1.length : Int) > (a0.length : Int)) then (some (((-1) : Int), ())) else ((F_internal_bytealg_LastIndexRabinKarp_string a0 a1).bind fun v2 => some v2))))
def eF_strings_LastIndex : VEnt := ⟨83, ⟨[.pv .str, .pv .str], []⟩, [⟨[.pv (.int .i64)], []⟩], fun q => F_strings_LastIndex q.1 q.2.1⟩
def aF_strings_LastIndex : Ann := .z
theorem tF_strings_LastIndex : vfn ⟨Tryd.prog, [], ZV17, PV17⟩ Tryd.f83 aF_strings_LastIndex eF_strings_LastIndex.ps eF_strings_LastIndex.rs = eF_strings_LastIndex.F := by kernel_rfl
def EV18 : List VEnt := eF_strings_LastIndex :: EV17
def ZV18 : List VEnt := eF_strings_LastIndex :: ZV17
def KV18 : PureK := addK KV17 83 (kOf eF_strings_LastIndex)
def NV18 : List FuncId := NV17
def PV18 : List FuncId := 83 :: PV17
theorem CV18 : Ch Tryd.prog gl0 Wa0 KV18 NV18 ZV18 EV18 := Ch.pure mixedV noGoroutineV CV17 (by kernel_rfl) (by kernel_rfl) (by kernel_rfl) Tryd.func83 (by decide) (by kernel_rfl) tF_strings_LastIndex
def F_route_Parent (a0 : (List UInt8)) : Option ((List UInt8) × (Bool × Unit)) :=
  (F_strings_LastIndex a0 ([47] : List UInt8)).bind fun v0 => bif decide (v0.1 < 0) then (some ((([] : (List UInt8)) : List UInt8), (false, ()))) else ((subS a0 (0 : Int) v0.1).bind fun v1 => some (v1, (true, ())))
def eF_route_Parent : VEnt := ⟨47, ⟨[.pv .str], []⟩, [⟨[.tup (.cn (.pv .str) (.cn (.pv .bool) (.nl)))], []⟩], fun q => F_route_Parent q.1⟩
def aF_route_Parent : Ann := .z
theorem tF_route_Parent : vfn ⟨Tryd.prog, [], ZV18, PV18⟩ Tryd.f47 aF_route_Parent eF_route_Parent.ps eF_route_Parent.rs = eF_route_Parent.F := by kernel_rfl
def EV19 : List VEnt := eF_route_Parent :: EV18
def ZV19 : List VEnt := eF_route_Parent :: ZV18
def KV19 : PureK := addK KV18 47 (kOf eF_route_Parent)
def NV19 : List FuncId := NV18
def PV19 : List FuncId := 47 :: PV18
theorem CV19 : Ch Tryd.prog gl0 Wa0 KV19 NV19 ZV19 EV19 := Ch.pure mixedV noGoroutineV CV18 (by kernel_rfl) (by kernel_rfl) (by kernel_rfl) Tryd.func47 (by decide) (by kernel_rfl) tF_route_Parent
def F_ref13_Parent (a0 : (List UInt8)) : Option ((List UInt8) × (Bool × Unit)) :=
  (iter (fun v0 => bif decide (v0.1 ≥ 0) then ((idxS a0 v0.1).bind fun v1 => bif v1 == 47 then ((subS a0 (0 : Int) v0.1).bind fun v2 => some (.inr (.inl (v2, ())))) else (some (.inl (IntKind.i64.wrap (v0.1 - 1), ())))) else (some (.inr (.inr ())))) NF (IntKind.i64.wrap ((a0.length : Int) - 1), ())).bind fun v3 => sumK v3 (fun v4 => some (v4.1, (true, ()))) (fun v5 => some ((([] : (List UInt8)) : List UInt8), (false, ())))
def eF_ref13_Parent : VEnt := ⟨62, ⟨[.pv .str], []⟩, [⟨[.tup (.cn (.pv .str) (.cn (.pv .bool) (.nl)))], []⟩], fun q => F_ref13_Parent q.1⟩
def aF_ref13_Parent : Ann := .s .z (.s (.s .z (.l ⟨mkT 19 0 [(4, .pv (.int .i64))], []⟩ [(.ret, ⟨mkT 19 0 [(2, .pv .str), (3, .kb true)], []⟩), ((.exit 0), ⟨mkT 19 0 [], []⟩)] .z)) .z)
theorem tF_ref13_Parent : vfn ⟨Tryd.prog, [], ZV19, PV19⟩ Tryd.f62 aF_ref13_Parent eF_ref13_Parent.ps eF_ref13_Parent.rs = eF_ref13_Parent.F := by kernel_rfl
def EV20 : List VEnt := eF_ref13_Parent :: EV19
def ZV20 : List VEnt := eF_ref13_Parent :: ZV19
def KV20 : PureK := addK KV19 62 (kOf eF_ref13_Parent)
def NV20 : List FuncId := NV19
def PV20 : List FuncId := 62 :: PV19
theorem CV20 : Ch Tryd.prog gl0 Wa0 KV20 NV20 ZV20 EV20 := Ch.pure mixedV noGoroutineV CV19 (by kernel_rfl) (by kernel_rfl) (by kernel_rfl) Tryd.func62 (by decide) (by kernel_rfl) tF_ref13_Parent
def F_internal_stringslite_HasPrefix (a0 : (List UInt8)) (a1 : (List UInt8)) : Option (Bool × Unit) :=
  (bif decide ((a0.length : Int) ≥ (a1.length : Int)) then ((subS a0 (0 : Int) (a1.length : Int)).bind fun v0 => some (v0 == a1, ())) else (some (false, ()))).bind fun v1 => some v1
def eF_internal_stringslite_HasPrefix : VEnt := ⟨123, ⟨[.pv .str, .pv .str], []⟩, [⟨[.pv .bool], []⟩], fun q => F_internal_stringslite_HasPrefix q.1 q.2.1⟩
def aF_internal_stringslite_HasPrefix : Ann := .s .z (.j [(.normal, ⟨mkT 18 0 [(4, .pv .bool)], []⟩)] .z .z)
theorem tF_internal_stringslite_HasPrefix : vfn ⟨Tryd.prog, [], ZV20, PV20⟩ Tryd.f123 aF_internal_stringslite_HasPrefix eF_internal_stringslite_HasPrefix.ps eF_internal_stringslite_HasPrefix.rs = eF_internal_stringslite_HasPrefix.F := by kernel_rfl
def EV21 : List VEnt := eF_internal_stringslite_HasPrefix :: EV20
def ZV21 : List VEnt := eF_internal_stringslite_HasPrefix :: ZV20
def KV21 : PureK := addK KV20 123 (kOf eF_internal_stringslite_HasPrefix)
def NV21 : List FuncId := NV20
def PV21 : List FuncId := 123 :: PV20
theorem CV21 : Ch Tryd.prog gl0 Wa0 KV21 NV21 ZV21 EV21 := Ch.pure mixedV noGoroutineV CV20 (by kernel_rfl) (by kernel_rfl) (by kernel_rfl) Tryd.func123 (by decide) (by kernel_rfl) tF_internal_stringslite_HasPrefix
def F_strings_HasPrefix (a0 : (List UInt8)) (a1 : (List UInt8)) : Option (Bool × Unit) :=
  (F_internal_stringslite_HasPrefix a0 a1).bind fun v0 => some v0
def eF_strings_HasPrefix : VEnt := ⟨105, ⟨[.pv .str, .pv .str], []⟩, [⟨[.pv .bool], []⟩], fun q => F_strings_HasPrefix q.1 q.2.1⟩
def aF_strings_HasPrefix : Ann := .z
theorem tF_strings_HasPrefix : vfn ⟨Tryd.prog, [], ZV21, PV21⟩ Tryd.f105 aF_strings_HasPrefix eF_strings_HasPrefix.ps eF_strings_HasPrefix.rs = eF_strings_HasPrefix.F := by kernel_rfl
def EV22 : List VEnt := eF_strings_HasPrefix :: EV21
def ZV22 : List VEnt := eF_strings_HasPrefix :: ZV21
def KV22 : PureK := addK KV21 105 (kOf eF_strings_HasPrefix)
def NV22 : List FuncId := NV21
def PV22 : List FuncId := 105 :: PV21
theorem CV22 : Ch Tryd.prog gl0 Wa0 KV22 NV22 ZV22 EV22 := Ch.pure mixedV noGoroutineV CV21 (by kernel_rfl) (by kernel_rfl) (by kernel_rfl) Tryd.func105 (by decide) (by kernel_rfl) tF_strings_HasPrefix
def F_route_Under (a0 : (List UInt8)) (a1 : (List UInt8)) : Option (Bool × Unit) :=
  bif a1 == ([] : (List UInt8)) then (some (!(a0 == ([] : (List UInt8))), ())) else ((cat a1 ([47] : List UInt8)).bind fun v0 => (F_strings_HasPrefix a0 v0).bind fun v1 => some v1)
def eF_route_Under : VEnt := ⟨82, ⟨[.pv .str, .pv .str], []⟩, [⟨[.pv .bool], []⟩], fun q => F_route_Under q.1 q.2.1⟩
def aF_route_Under : Ann := .z
theorem tF_route_Under : vfn ⟨Tryd.prog, [], ZV22, PV22⟩ Tryd.f82 aF_route_Under eF_route_Under.ps eF_route_Under.rs = eF_route_Under.F := by kernel_rfl
def EV23 : List VEnt := eF_route_Under :: EV22
def ZV23 : List VEnt := eF_route_Under :: ZV22
def KV23 : PureK := addK KV22 82 (kOf eF_route_Under)
def NV23 : List FuncId := NV22
def PV23 : List FuncId := 82 :: PV22
theorem CV23 : Ch Tryd.prog gl0 Wa0 KV23 NV23 ZV23 EV23 := Ch.pure mixedV noGoroutineV CV22 (by kernel_rfl) (by kernel_rfl) (by kernel_rfl) Tryd.func82 (by decide) (by kernel_rfl) tF_route_Under
def F_ref13_Under (a0 : (List UInt8)) (a1 : (List UInt8)) : Option (Bool × Unit) :=
  (F_ref13_Parts a0).bind fun v0 => (F_ref13_Parts a1).bind fun v1 => bif decide ((v0.1.length : Int) ≤ (v1.1.length : Int)) then (some (false, ())) else ((iter (fun v2 => bif decide (v2.1 < (v2.2.2.1.length : Int)) then ((idxL v2.2.1 v2.1).bind fun v3 => (idxL v2.2.1 v2.1).bind fun v4 => (idxL v2.2.2.1 v2.1).bind fun v5 => (idxL v2.2.2.1 v2.1).bind fun v6 => bif !(v4 == v6) then (some (.inr (.inl ()))) else (some (.inl (IntKind.i64.wrap (v2.1 + 1), v2.2)))) else (some (.inr (.inr ())))) NF ((0 : Int), (v0.1, v1))).bind fun v7 => sumK v7 (fun v8 => some (false, ())) (fun v9 => some (true, ())))
def eF_ref13_Under : VEnt := ⟨51, ⟨[.pv .str, .pv .str], []⟩, [⟨[.pv .bool], []⟩], fun q => F_ref13_Under q.1 q.2.1⟩
def aF_ref13_Under : Ann := .s .z (.s .z (.s .z (.s .z (.s (.s .z (.l ⟨mkT 32 0 [(5, .row 0), (6, .row 1), (7, .pv (.int .i64))], [.row 9 .str, .row 9 .str]⟩ [(.ret, ⟨mkT 32 0 [(4, .kb false)], []⟩), ((.exit 0), ⟨mkT 32 0 [], []⟩)] .z)) .z))))
theorem tF_ref13_Under : vfn ⟨Tryd.prog, [], ZV23, PV23⟩ Tryd.f51 aF_ref13_Under eF_ref13_Under.ps eF_ref13_Under.rs = eF_ref13_Under.F := by kernel_rfl
def EV24 : List VEnt := eF_ref13_Under :: EV23
def ZV24 : List VEnt := eF_ref13_Under :: ZV23
def KV24 : PureK := addK KV23 51 (kOf eF_ref13_Under)
def NV24 : List FuncId := NV23
def PV24 : List FuncId := 51 :: PV23
theorem CV24 : Ch Tryd.prog gl0 Wa0 KV24 NV24 ZV24 EV24 := Ch.pure mixedV noGoroutineV CV23 (by kernel_rfl) (by kernel_rfl) (by kernel_rfl) Tryd.func51 (by decide) (by kernel_rfl) tF_ref13_Under
def F_ref13_Compare (a0 : (List UInt8)) (a1 : (List UInt8)) : Option (Int × Unit) :=
  (F_ref13_Parts a0).bind fun v0 => (F_ref13_Parts a1).bind fun v1 => (iter (fun v2 => bif decide (v2.1 < (v2.2.1.length : Int)) then (bif decide (v2.1 < (v2.2.2.1.length : Int)) then ((idxL v2.2.1 v2.1).bind fun v3 => (idxL v2.2.1 v2.1).bind fun v4 => (idxL v2.2.2.1 v2.1).bind fun v5 => (idxL v2.2.2.1 v2.1).bind fun v6 => bif Op.bytesLess v4 v6 then (some (.inr (.inl (((-1) : Int), ())))) else ((idxL v2.2.1 v2.1).bind fun v7 => (idxL v2.2.1 v2.1).bind fun v8 => (idxL v2.2.2.1 v2.1).bind fun v9 => (idxL v2.2.2.1 v2.1).bind fun v10 => bif !((Op.bytesLess v8 v10) || (v8 == v10)) then (some (.inr (.inl ((1 : Int), ())))) else (some (.inl (IntKind.i64.wrap (v2.1 + 1), v2.2))))) else (some (.inr (.inr v2.2)))) else (some (.inr (.inr v2.2)))) NF ((0 : Int), (v0.1, v1))).bind fun v11 => sumK v11 (fun v12 => some v12) (fun v13 => bif decide ((v13.1.length : Int) < (v13.2.1.length : Int)) then (some (((-1) : Int), ())) else (bif decide ((v13.1.length : Int) > (v13.2.1.length : Int)) then (some ((1 : Int), ())) else (some ((0 : Int), ()))))
def eF_ref13_Compare : VEnt := ⟨61, ⟨[.pv .str, .pv .str], []⟩, [⟨[.pv (.int .i64)], []⟩], fun q => F_ref13_Compare q.1 q.2.1⟩
def aF_ref13_Compare : Ann := .s .z (.s .z (.s .z (.s (.s .z (.l ⟨mkT 52 0 [(5, .row 0), (6, .row 1), (7, .pv (.int .i64))], [.row 9 .str, .row 9 .str]⟩ [(.ret, ⟨mkT 52 0 [(4, .pv (.int .i64))], []⟩), ((.exit 0), ⟨mkT 52 0 [(5, .row 0), (6, .row 1)], [.row 9 .str, .row 9 .str]⟩)] .z)) .z)))
theorem tF_ref13_Compare : vfn ⟨Tryd.prog, [], ZV24, PV24⟩ Tryd.f61 aF_ref13_Compare eF_ref13_Compare.ps eF_ref13_Compare.rs = eF_ref13_Compare.F := by kernel_rfl
def EV25 : List VEnt := eF_ref13_Compare :: EV24
def ZV25 : List VEnt := eF_ref13_Compare :: ZV24
def KV25 : PureK := addK KV24 61 (kOf eF_ref13_Compare)
def NV25 : List FuncId := NV24
def PV25 : List FuncId := 61 :: PV24
theorem CV25 : Ch Tryd.prog gl0 Wa0 KV25 NV25 ZV25 EV25 := Ch.pure mixedV noGoroutineV CV24 (by kernel_rfl) (by kernel_rfl) (by kernel_rfl) Tryd.func61 (by decide) (by kernel_rfl) tF_ref13_Compare
def F_cmp_isNaN_string (a0 : (List UInt8)) : Option (Bool × Unit) :=
  some (!(a0 == a0), ())
def eF_cmp_isNaN_string : VEnt := ⟨147, ⟨[.pv .str], []⟩, [⟨[.pv .bool], []⟩], fun q => F_cmp_isNaN_string q.1⟩
def aF_cmp_isNaN_string : Ann := .z
theorem tF_cmp_isNaN_string : vfn ⟨Tryd.prog, [], ZV25, PV25⟩ Tryd.f147 aF_cmp_isNaN_string eF_cmp_isNaN_string.ps eF_cmp_isNaN_string.rs = eF_cmp_isNaN_string.F := by kernel_rfl
def EV26 : List VEnt := eF_cmp_isNaN_string :: EV25
def ZV26 : List VEnt := eF_cmp_isNaN_string :: ZV25
def KV26 : PureK := addK KV25 147 (kOf eF_cmp_isNaN_string)
def NV26 : List FuncId := NV25
def PV26 : List FuncId := 147 :: PV25
theorem CV26 : Ch Tryd.prog gl0 Wa0 KV26 NV26 ZV26 EV26 := Ch.pure mixedV noGoroutineV CV25 (by kernel_rfl) (by kernel_rfl) (by kernel_rfl) Tryd.func147 (by decide) (by kernel_rfl) tF_cmp_isNaN_string
def F_cmp_Compare_string (a0 : (List UInt8)) (a1 : (List UInt8)) : Option (Int × Unit) :=
  (F_cmp_isNaN_string a0).bind fun v0 => (F_cmp_isNaN_string a1).bind fun v1 => bif v0.1 then (bif v1.1 then (some ((0 : Int), ())) else (some (((-1) : Int), ()))) else (bif v1.1 then (some ((1 : Int), ())) else (bif Op.bytesLess a0 a1 then (some (((-1) : Int), ())) else (bif !((Op.bytesLess a0 a1) || (a0 == a1)) then (some ((1 : Int), ())) else (some ((0 : Int), ())))))
def eF_cmp_Compare_string : VEnt := ⟨135, ⟨[.pv .str, .pv .str], []⟩, [⟨[.pv (.int .i64)], []⟩], fun q => F_cmp_Compare_string q.1 q.2.1⟩
def aF_cmp_Compare_string : Ann := .z
theorem tF_cmp_Compare_string : vfn ⟨Tryd.prog, [], ZV26, PV26⟩ Tryd.f135 aF_cmp_Compare_string eF_cmp_Compare_string.ps eF_cmp_Compare_string.rs = eF_cmp_Compare_string.F := by kernel_rfl
def EV27 : List VEnt := eF_cmp_Compare_string :: EV26
def ZV27 : List VEnt := eF_cmp_Compare_string :: ZV26
def KV27 : PureK := addK KV26 135 (kOf eF_cmp_Compare_string)
def NV27 : List FuncId := NV26
def PV27 : List FuncId := 135 :: PV26
theorem CV27 : Ch Tryd.prog gl0 Wa0 KV27 NV27 ZV27 EV27 := Ch.pure mixedV noGoroutineV CV26 (by kernel_rfl) (by kernel_rfl) (by kernel_rfl) Tryd.func135 (by decide) (by kernel_rfl) tF_cmp_Compare_string
def F_slices_Compare_string_string (a0 : (List (List UInt8))) (a1 : (List (List UInt8))) : Option (Int × Unit) :=
  (iter (fun v0 => bif decide (v0.1 < (a0.length : Int)) then ((idxL a0 v0.1).bind fun v1 => bif decide (v0.1 ≥ (a1.length : Int)) then (some (.inr (.inl ((1 : Int), ())))) else ((idxL a1 v0.1).bind fun v2 => (F_cmp_Compare_string v1 v2).bind fun v3 => bif v3.1 != 0 then (some (.inr (.inl v3))) else (some (.inl (IntKind.i64.wrap (v0.1 + 1), ()))))) else (some (.inr (.inr ())))) NF ((0 : Int), ())).bind fun v4 => sumK v4 (fun v5 => some v5) (fun v6 => bif decide ((a0.length : Int) < (a1.length : Int)) then (some (((-1) : Int), ())) else (some ((0 : Int), ())))
def eF_slices_Compare_string_string : VEnt := ⟨111, ⟨[.pv (.lst .str), .pv (.lst .str)], []⟩, [⟨[.pv (.int .i64)], []⟩], fun q => F_slices_Compare_string_string q.1 q.2.1⟩
def aF_slices_Compare_string_string : Ann := .s .z (.s (.s .z (.l ⟨mkT 36 0 [(11, .pv (.int .i64))], []⟩ [(.ret, ⟨mkT 36 0 [(4, .pv (.int .i64))], []⟩), ((.exit 0), ⟨mkT 36 0 [], []⟩)] .z)) .z)
theorem tF_slices_Compare_string_string : vfn ⟨Tryd.prog, [], ZV27, PV27⟩ Tryd.f111 aF_slices_Compare_string_string eF_slices_Compare_string_string.ps eF_slices_Compare_string_string.rs = eF_slices_Compare_string_string.F := by kernel_rfl
def EV28 : List VEnt := eF_slices_Compare_string_string :: EV27
def ZV28 : List VEnt := eF_slices_Compare_string_string :: ZV27
def KV28 : PureK := KV27
def NV28 : List FuncId := 111 :: NV27
def PV28 : List FuncId := PV27
theorem CV28 : Ch Tryd.prog gl0 Wa0 KV28 NV28 ZV28 EV28 := Ch.add0 CV27 (by kernel_rfl) (by kernel_rfl) (by kernel_rfl) Tryd.func111 (by decide) tF_slices_Compare_string_string
def F_route_Compare (a0 : (List UInt8)) (a1 : (List UInt8)) : Option (Int × Unit) :=
  (F_route_Parts a0).bind fun v0 => (F_route_Parts a1).bind fun v1 => (F_slices_Compare_string_string v0.1 v1.1).bind fun v2 => some v2
def eF_route_Compare : VEnt := ⟨86, ⟨[.pv .str, .pv .str], []⟩, [⟨[.pv (.int .i64)], []⟩], fun q => F_route_Compare q.1 q.2.1⟩
def aF_route_Compare : Ann := .z
theorem tF_route_Compare : vfn ⟨Tryd.prog, gl0, EV28, PV28⟩ Tryd.f86 aF_route_Compare eF_route_Compare.ps eF_route_Compare.rs = eF_route_Compare.F := by kernel_rfl
def EV29 : List VEnt := eF_route_Compare :: EV28
def ZV29 : List VEnt := ZV28
def KV29 : PureK := KV28
def NV29 : List FuncId := 86 :: NV28
def PV29 : List FuncId := PV28
theorem CV29 : Ch Tryd.prog gl0 Wa0 KV29 NV29 ZV29 EV29 := Ch.addG CV28 (by kernel_rfl) (by kernel_rfl) (by kernel_rfl) Tryd.func86 (by decide) tF_route_Compare
end
end Go.Proofs.YtglcbikbmobdpaaDoorM

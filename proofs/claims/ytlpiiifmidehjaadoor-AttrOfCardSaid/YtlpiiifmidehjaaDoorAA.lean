/- What each function computes, in plain Lean, and that it does: printed by vgen.py. -/
import Derived.Test.YtlpiiifmidehjaaDoorV20
import Derived.Test.YtlpiiifmidehjaaDoorVX
set_option linter.unusedVariables false
set_option linter.unusedSimpArgs false
set_option maxRecDepth 1000000
set_option maxHeartbeats 0
namespace Go.Proofs.YtlpiiifmidehjaaDoorM
open Go Go.RowKit
noncomputable section
theorem noGoroutineV : Tryd.prog.funcs.all (fun fn => !(fn.name == "runtime.NumGoroutine")) = true := by kernel_rfl
theorem mixedV : Tryd.prog.follows .mixedOrders = true := by kernel_rfl
def KA0 : PureK := fun _ => none
def ZA0 : List VEnt := []
def PA0 : List FuncId := []
def NA0 : List FuncId := []
def EA0 : List VEnt := []
theorem CA0 : Ch Tryd.prog [] ⟨[], ⟨0, []⟩⟩ KA0 NA0 ZA0 EA0 := Ch.nil
def AF_attr_bring (a0 : Int) (a1 : Int) : Option (Int × Unit) :=
  some (minI (maxI a0 0) a1, ())
def eAF_attr_bring : VEnt := ⟨47, ⟨[.pv (.int .i64), .pv (.int .i64)], []⟩, [⟨[.pv (.int .i64)], []⟩], fun q => AF_attr_bring q.1 q.2.1⟩
theorem tAF_attr_bring : vfn ⟨Tryd.prog, [], ZA0, PA0⟩ Tryd.f47 eAF_attr_bring.ps eAF_attr_bring.rs = eAF_attr_bring.F := by kernel_rfl
def EA1 : List VEnt := eAF_attr_bring :: EA0
def ZA1 : List VEnt := eAF_attr_bring :: ZA0
def KA1 : PureK := addK KA0 47 (kOf eAF_attr_bring)
def NA1 : List FuncId := NA0
def PA1 : List FuncId := 47 :: PA0
theorem CA1 : Ch Tryd.prog [] ⟨[], ⟨0, []⟩⟩ KA1 NA1 ZA1 EA1 := Ch.pure mixedV noGoroutineV CA0 (by kernel_rfl) (by kernel_rfl) (by kernel_rfl) Tryd.func47 (by decide) (by kernel_rfl) tAF_attr_bring
def AF_internal_stringslite_HasSuffix (a0 : (List UInt8)) (a1 : (List UInt8)) : Option (Bool × Unit) :=
  (bif decide ((a0.length : Int) ≥ (a1.length : Int)) then ((subS a0 (IntKind.i64.wrap ((a0.length : Int) - (a1.length : Int))) (a0.length : Int)).bind fun v0 => some (v0 == a1, ())) else (some (false, ()))).bind fun v1 => some v1
def eAF_internal_stringslite_HasSuffix : VEnt := ⟨76, ⟨[.pv .str, .pv .str], []⟩, [⟨[.pv .bool], []⟩], fun q => AF_internal_stringslite_HasSuffix q.1 q.2.1⟩
theorem tAF_internal_stringslite_HasSuffix : vfn ⟨Tryd.prog, [], ZA1, PA1⟩ Tryd.f76 eAF_internal_stringslite_HasSuffix.ps eAF_internal_stringslite_HasSuffix.rs = eAF_internal_stringslite_HasSuffix.F := by kernel_rfl
def EA2 : List VEnt := eAF_internal_stringslite_HasSuffix :: EA1
def ZA2 : List VEnt := eAF_internal_stringslite_HasSuffix :: ZA1
def KA2 : PureK := addK KA1 76 (kOf eAF_internal_stringslite_HasSuffix)
def NA2 : List FuncId := NA1
def PA2 : List FuncId := 76 :: PA1
theorem CA2 : Ch Tryd.prog [] ⟨[], ⟨0, []⟩⟩ KA2 NA2 ZA2 EA2 := Ch.pure mixedV noGoroutineV CA1 (by kernel_rfl) (by kernel_rfl) (by kernel_rfl) Tryd.func76 (by decide) (by kernel_rfl) tAF_internal_stringslite_HasSuffix
def AF_strings_HasSuffix (a0 : (List UInt8)) (a1 : (List UInt8)) : Option (Bool × Unit) :=
  (AF_internal_stringslite_HasSuffix a0 a1).bind fun v0 => some v0
def eAF_strings_HasSuffix : VEnt := ⟨48, ⟨[.pv .str, .pv .str], []⟩, [⟨[.pv .bool], []⟩], fun q => AF_strings_HasSuffix q.1 q.2.1⟩
theorem tAF_strings_HasSuffix : vfn ⟨Tryd.prog, [], ZA2, PA2⟩ Tryd.f48 eAF_strings_HasSuffix.ps eAF_strings_HasSuffix.rs = eAF_strings_HasSuffix.F := by kernel_rfl
def EA3 : List VEnt := eAF_strings_HasSuffix :: EA2
def ZA3 : List VEnt := eAF_strings_HasSuffix :: ZA2
def KA3 : PureK := addK KA2 48 (kOf eAF_strings_HasSuffix)
def NA3 : List FuncId := NA2
def PA3 : List FuncId := 48 :: PA2
theorem CA3 : Ch Tryd.prog [] ⟨[], ⟨0, []⟩⟩ KA3 NA3 ZA3 EA3 := Ch.pure mixedV noGoroutineV CA2 (by kernel_rfl) (by kernel_rfl) (by kernel_rfl) Tryd.func48 (by decide) (by kernel_rfl) tAF_strings_HasSuffix
end
end Go.Proofs.YtlpiiifmidehjaaDoorM

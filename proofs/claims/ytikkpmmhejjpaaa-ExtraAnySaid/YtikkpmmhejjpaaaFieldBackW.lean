/- The functions of layer 2, gone through by the abstract machine at the numbers of bytes that the law asks of. -/
import Derived.Test.YtikkpmmhejjpaaaFieldNum
import Derived.Test.YtikkpmmhejjpaaaChecked
import Derived.KernelRfl
set_option linter.unusedSimpArgs false
set_option linter.unusedVariables false
namespace Go.Proofs.YtikkpmmhejjpaaaM
open Go Go.RowKit

noncomputable def G0 : Hooks := fun _ => none
noncomputable def D0 : Drawn := fun _ _ _ _ => none

theorem ex_of {α β : Type} {x : Option (α × β)} {v : α} (h : x.map (·.1) = some v) : ∃ b, x = some (v, b) := by
  cases x with
  | none => cases h
  | some p => cases p; cases h; exact ⟨_, rfl⟩

theorem p16_run (n : Int) : (acall Try.prog G0 D0 60 13 [.int .i64 n] ⟨0, []⟩).map (·.1) = some (.str [pb (IntKind.u64.wrap n) 0, pb (IntKind.u64.wrap n) 1]) := by kernel_rfl
theorem p32_run (n : Int) : (acall Try.prog G0 D0 60 14 [.int .i64 n] ⟨0, []⟩).map (·.1) = some (.str [pb (IntKind.u64.wrap n) 0, pb (IntKind.u64.wrap n) 1, pb (IntKind.u64.wrap n) 2, pb (IntKind.u64.wrap n) 3]) := by kernel_rfl
theorem p64_run (n : Int) : (acall Try.prog G0 D0 60 15 [.int .u64 n] ⟨0, []⟩).map (·.1) = some (.str [pb n 0, pb n 1, pb n 2, pb n 3, pb n 4, pb n 5, pb n 6, pb n 7]) := by kernel_rfl
theorem put2_run (n : Int) : (acall Try.prog G0 D0 60 19 [.int .u64 n, .int .i64 2] ⟨0, []⟩).map (·.1) = some (.str (rp n 2)) := by kernel_rfl
theorem put4_run (n : Int) : (acall Try.prog G0 D0 60 19 [.int .u64 n, .int .i64 4] ⟨0, []⟩).map (·.1) = some (.str (rp n 4)) := by kernel_rfl
theorem put8_run (n : Int) : (acall Try.prog G0 D0 60 19 [.int .u64 n, .int .i64 8] ⟨0, []⟩).map (·.1) = some (.str (rp n 8)) := by kernel_rfl
theorem u16_run (a b : UInt8) : (acall Try.prog G0 D0 60 16 [.str [a, b], .int .i64 0] ⟨0, []⟩).map (·.1) = some (.tup [.int .i64 (IntKind.i64.wrap (nb 0 0 [a, b])), .int .i64 0]) := by kernel_rfl
theorem u32_run (a b c d : UInt8) : (acall Try.prog G0 D0 60 17 [.str [a, b, c, d], .int .i64 0] ⟨0, []⟩).map (·.1) = some (.tup [.int .i64 (IntKind.i64.wrap (nb 0 0 [a, b, c, d])), .int .i64 0]) := by kernel_rfl
theorem u64_run (a b c d e f g i : UInt8) : (acall Try.prog G0 D0 60 18 [.str [a, b, c, d, e, f, g, i], .int .i64 0] ⟨0, []⟩).map (·.1) = some (.tup [.int .u64 (nb 0 0 [a, b, c, d, e, f, g, i]), .int .i64 0]) := by kernel_rfl
theorem awake_run : (acall Try.prog G0 D0 60 12 [] ⟨0, []⟩).map (·.1) = some (.bool true) := by kernel_rfl
end Go.Proofs.YtikkpmmhejjpaaaM

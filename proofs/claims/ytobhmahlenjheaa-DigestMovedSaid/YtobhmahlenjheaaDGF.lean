/- Plain functions that say what the program's functions compute: printed by lift.py. -/
import Derived.Test.YtobhmahlenjheaaS10
import GoSem.PinnedTables
set_option linter.unusedSimpArgs false
set_option linter.unusedVariables false
namespace Go.Proofs.YtobhmahlenjheaaM
open Go Go.RowKit
structure GA8_u32 where
  x0 : Int
  x1 : Int
  x2 : Int
  x3 : Int
  x4 : Int
  x5 : Int
  x6 : Int
  x7 : Int
  deriving DecidableEq, Inhabited
def GA8_u32.cells (x : GA8_u32) : List AV := [.int .u32 x.x0, .int .u32 x.x1, .int .u32 x.x2, .int .u32 x.x3, .int .u32 x.x4, .int .u32 x.x5, .int .u32 x.x6, .int .u32 x.x7]
def GA8_u32.of : List Int → Option GA8_u32
  | [a0, a1, a2, a3, a4, a5, a6, a7] => some ⟨a0, a1, a2, a3, a4, a5, a6, a7⟩
  | _ => none
theorem GA8_u32.of_eq {l : List Int} {x : GA8_u32} (h : GA8_u32.of l = some x) : l = [x.x0, x.x1, x.x2, x.x3, x.x4, x.x5, x.x6, x.x7] := by
  unfold GA8_u32.of at h
  split at h
  · cases h; rfl
  · cases h
structure Gapi_Node where
  xPath : List UInt8
  xDir : Bool
  xData : List UInt8
  xMode : Int
  xTime : Int
  deriving DecidableEq, Inhabited
def Gapi_Node.cells (x : Gapi_Node) : List AV := [.str x.xPath, .bool x.xDir, .str x.xData, .int .i64 x.xMode, .int .i64 x.xTime]
structure Gdigest_writer where
  xBuilder : List UInt8
  deriving DecidableEq, Inhabited
structure Gapi_Layer where
  xAdds : List Gapi_Node
  xWhites : List (List UInt8)
  xOpaques : List (List UInt8)
  deriving DecidableEq, Inhabited
def L_ref04_primes_2 (s : (List Int) × Int × Bool × Int) : Option (((List Int) × Int × Bool × Int) ⊕ ((List Int) × Int × Bool)) :=
  if s.2.2.2 < (s.1.length : Int) then
    (idxL s.1 s.2.2.2).bind fun x132 =>
    (remI s.2.1 x132).bind fun y138 =>
    if (y138 == 0) = true then
      some (.inl (s.1, s.2.1, false, IntKind.i64.wrap (s.2.2.2 + 1)))
    else
      some (.inl (s.1, s.2.1, s.2.2.1, IntKind.i64.wrap (s.2.2.2 + 1)))
  else
    some (.inr (s.1, s.2.1, s.2.2.1))
def L_ref04_primes_1 (n_ : Int) (s : (List Int) × Int) : Option (((List Int) × Int) ⊕ (List Int)) :=
  if (s.1.length : Int) < n_ then
    (iter (L_ref04_primes_2) NF (s.1, s.2, true, 0)).bind fun r146 =>
    if (r146.2.2) = true then
      (app r146.1 ([r146.2.1] : List Int)).bind fun zs171 =>
      some (.inl (zs171, IntKind.u64.wrap (r146.2.1 + 1)))
    else
      some (.inl (r146.1, IntKind.u64.wrap (r146.2.1 + 1)))
  else
    some (.inr s.1)
def F_ref04_primes (n_ : Int) : Option ((List Int)) :=
  (iter (L_ref04_primes_1 n_) NF (([] : List Int), 2)).bind fun r182 =>
  some r182
def F_ref04_digits (n_ : Int) : Option ((List Int)) :=
  (remI n_ 65536).bind fun y2 =>
  (quoI .u64 n_ 65536).bind fun y3 =>
  (remI y3 65536).bind fun y4 =>
  (quoI .u64 n_ 4294967296).bind fun y5 =>
  (remI y5 65536).bind fun y6 =>
  (quoI .u64 n_ 281474976710656).bind fun y7 =>
  some ([y2, y4, y6, y7] : List Int)
def L_ref04_times_2 (b : List Int) (a : List Int) (s : (List Int) × Int × Int × Int) : Option (((List Int) × Int × Int × Int) ⊕ ((List Int) × Int)) :=
  ((
    if s.2.2.2 < (b.length : Int) then
      some true
    else
      some (decide (s.2.2.1 > 0)) : Option (Bool))).bind fun j198 =>
  if (j198) = true then
    ((
      if s.2.2.2 < (b.length : Int) then
        (idxL b s.2.2.2).bind fun x207 =>
        some x207
      else
        some 0 : Option (Int))).bind fun j214 =>
    (idxL s.1 (IntKind.i64.wrap (s.2.1 + s.2.2.2))).bind fun x217 =>
    (idxL a s.2.1).bind fun x223 =>
    (remI (IntKind.u64.wrap ((IntKind.u64.wrap (x217 + (IntKind.u64.wrap (x223 * j214)))) + s.2.2.1)) 65536).bind fun y230 =>
    (setL s.1 (IntKind.i64.wrap (s.2.1 + s.2.2.2)) y230).bind fun y239 =>
    (quoI .u64 (IntKind.u64.wrap ((IntKind.u64.wrap (x217 + (IntKind.u64.wrap (x223 * j214)))) + s.2.2.1)) 65536).bind fun y242 =>
    some (.inl (y239, s.2.1, y242, IntKind.i64.wrap (s.2.2.2 + 1)))
  else
    some (.inr (s.1, s.2.1))
def L_ref04_times_1 (a : List Int) (b : List Int) (s : (List Int) × Int) : Option (((List Int) × Int) ⊕ (List Int)) :=
  if s.2 < (a.length : Int) then
    (iter (L_ref04_times_2 b a) NF (s.1, s.2, 0, 0)).bind fun r245 =>
    some (.inl (r245.1, IntKind.i64.wrap (r245.2 + 1)))
  else
    some (.inr s.1)
def F_ref04_times (a : List Int) (b : List Int) : Option ((List Int)) :=
  (mkL (0 : Int) (IntKind.i64.wrap ((IntKind.i64.wrap ((a.length : Int) + (b.length : Int))) + 1))).bind fun zs4 =>
  (iter (L_ref04_times_1 a b) NF (zs4, 0)).bind fun r249 =>
  some r249
def L_ref04_atMost_1 (a : List Int) (b : List Int) (s : Int) : Option (Int ⊕ (Unit ⊕ Bool)) :=
  if s ≥ 0 then
    ((
      if s < (a.length : Int) then
        (idxL a s).bind fun x54 =>
        some x54
      else
        some 0 : Option (Int))).bind fun j61 =>
    ((
      if s < (b.length : Int) then
        (idxL b s).bind fun x67 =>
        some x67
      else
        some 0 : Option (Int))).bind fun j74 =>
    if (j61 != j74) = true then
      some (.inr (.inr (decide (j61 < j74))))
    else
      some (.inl (IntKind.i64.wrap (s - 1)))
  else
    some (.inr (.inl ()))
def F_ref04_atMost (a : List Int) (b : List Int) : Option (Bool) :=
  (iter (L_ref04_atMost_1 a b) NF (IntKind.i64.wrap ((a.length : Int) + (b.length : Int)))).bind fun r83 =>
  sumK r83 (fun t84 =>
    some true) fun t87 =>
  some t87
def L_ref04_root_1 (power : Int) (s : (List Int) × Int) : Option (((List Int) × Int) ⊕ (List Int)) :=
  if s.2 < power then
    (F_ref04_times s.1 ([0, 0, 1] : List Int)).bind fun y49 =>
    some (.inl (y49, IntKind.i64.wrap (s.2 + 1)))
  else
    some (.inr s.1)
def L_ref04_root_3 (power : Int) (y157 : (List Int)) (s : Int × Int × Int × (List Int) × Int) : Option ((Int × Int × Int × (List Int) × Int) ⊕ (Int × Int × Int × (List Int))) :=
  if s.2.2.2.2 < power then
    (F_ref04_times s.2.2.2.1 y157).bind fun y199 =>
    some (.inl (s.1, s.2.1, s.2.2.1, y199, IntKind.i64.wrap (s.2.2.2.2 + 1)))
  else
    some (.inr (s.1, s.2.1, s.2.2.1, s.2.2.2.1))
def L_ref04_root_2 (power : Int) (r61 : (List Int)) (s : Int × Int) : Option ((Int × Int) ⊕ Int) :=
  if s.2 ≥ 0 then
    (shlI .u64 1 s.2).bind fun y155 =>
    (F_ref04_digits (IntKind.u64.wrap (s.1 + y155))).bind fun y157 =>
    (iter (L_ref04_root_3 power y157) NF (s.1, s.2, IntKind.u64.wrap (s.1 + y155), y157, 1)).bind fun r214 =>
    (F_ref04_atMost r214.2.2.2 r61).bind fun y221 =>
    if (y221) = true then
      some (.inl (r214.2.2.1, IntKind.i64.wrap (r214.2.1 - 1)))
    else
      some (.inl (r214.1, IntKind.i64.wrap (r214.2.1 - 1)))
  else
    some (.inr s.1)
def F_ref04_root (p : Int) (power : Int) : Option (Int) :=
  (F_ref04_digits p).bind fun y3 =>
  (iter (L_ref04_root_1 power) NF (y3, 0)).bind fun r61 =>
  (iter (L_ref04_root_2 power r61) NF (0, 36)).bind fun r234 =>
  some (IntKind.u32.wrap r234)
def L_ref04_roots_1 (n_ : Int) (y2 : (List Int)) (power : Int) (s : (List Int) × Int) : Option (((List Int) × Int) ⊕ (List Int)) :=
  if s.2 < n_ then
    (idxL y2 s.2).bind fun x53 =>
    (F_ref04_root x53 power).bind fun y59 =>
    (app s.1 ([y59] : List Int)).bind fun zs67 =>
    some (.inl (zs67, IntKind.i64.wrap (s.2 + 1)))
  else
    some (.inr s.1)
def F_ref04_roots (n_ : Int) (power : Int) : Option ((List Int)) :=
  (F_ref04_primes n_).bind fun y2 =>
  (iter (L_ref04_roots_1 n_ y2 power) NF (([] : List Int), 0)).bind fun r77 =>
  some r77
def L_ref04_padded_1 (s : (List UInt8)) : Option ((List UInt8) ⊕ (List UInt8)) :=
  (remI (s.length : Int) 64).bind fun y19 =>
  if (y19 != 56) = true then
    (cat s [0]).bind fun s23 =>
    some (.inl s23)
  else
    some (.inr s)
def L_ref04_padded_2 (s : Int × (List Int) × Int) : Option ((Int × (List Int) × Int) ⊕ (List Int)) :=
  if s.2.2 ≥ 0 then
    (remI s.1 256).bind fun y63 =>
    (idxL s.2.1 s.2.2).bind fun x65 =>
    (setL s.2.1 s.2.2 (IntKind.u8.wrap y63)).bind fun y73 =>
    (quoI .u64 s.1 256).bind fun y76 =>
    some (.inl (y76, y73, IntKind.i64.wrap (s.2.2 - 1)))
  else
    some (.inr s.2.1)
def F_ref04_padded (s_ : List UInt8) : Option ((List UInt8)) :=
  (cat s_ [128]).bind fun s5 =>
  (iter (L_ref04_padded_1) NF s5).bind fun r25 =>
  (mkL (0 : Int) 8).bind fun zs28 =>
  (iter (L_ref04_padded_2) NF (IntKind.u64.wrap ((IntKind.u64.wrap (s_.length : Int)) * 8), zs28, 7)).bind fun r79 =>
  (cat r25 (r79.map byt)).bind fun s83 =>
  some s83
def F_ref04_right (a : Int) (n_ : Int) : Option (Int) :=
  (shrI a .u32 n_).bind fun y2 =>
  (shlI .u32 a (IntKind.i64.wrap (32 - n_))).bind fun y3 =>
  some (orI .u32 y2 y3)
def L_ref04_words_1 (s_ : List UInt8) (s : (List Int) × Int) : Option (((List Int) × Int) ⊕ (List Int)) :=
  if s.2 < 64 then
    (idxS s_ s.2).bind fun c47 =>
    (shlI .u32 (IntKind.u32.wrap c47) 24).bind fun y49 =>
    (idxS s_ (IntKind.i64.wrap (s.2 + 1))).bind fun c50 =>
    (shlI .u32 (IntKind.u32.wrap c50) 16).bind fun y52 =>
    (idxS s_ (IntKind.i64.wrap (s.2 + 2))).bind fun c53 =>
    (shlI .u32 (IntKind.u32.wrap c53) 8).bind fun y55 =>
    (idxS s_ (IntKind.i64.wrap (s.2 + 3))).bind fun c56 =>
    (app s.1 ([IntKind.u32.wrap ((IntKind.u32.wrap ((IntKind.u32.wrap (y49 + y52)) + y55)) + (IntKind.u32.wrap c56))] : List Int)).bind fun zs64 =>
    some (.inl (zs64, IntKind.i64.wrap (s.2 + 4)))
  else
    some (.inr s.1)
def L_ref04_words_2 (s : (List Int) × Int) : Option (((List Int) × Int) ⊕ (List Int)) :=
  if s.2 < 64 then
    (idxL s.1 (IntKind.i64.wrap (s.2 - 15))).bind fun x141 =>
    (idxL s.1 (IntKind.i64.wrap (s.2 - 2))).bind fun x148 =>
    (idxL s.1 (IntKind.i64.wrap (s.2 - 16))).bind fun x155 =>
    (idxL s.1 (IntKind.i64.wrap (s.2 - 7))).bind fun x161 =>
    (F_ref04_right x141 7).bind fun y167 =>
    (F_ref04_right x141 18).bind fun y169 =>
    (shrI x141 .u32 3).bind fun y171 =>
    (F_ref04_right x148 17).bind fun y172 =>
    (F_ref04_right x148 19).bind fun y174 =>
    (shrI x148 .u32 10).bind fun y176 =>
    (app s.1 ([IntKind.u32.wrap ((IntKind.u32.wrap ((IntKind.u32.wrap (x155 + x161)) + (xorI .u32 (xorI .u32 y167 y169) y171))) + (xorI .u32 (xorI .u32 y172 y174) y176))] : List Int)).bind fun zs183 =>
    some (.inl (zs183, IntKind.i64.wrap (s.2 + 1)))
  else
    some (.inr s.1)
def F_ref04_words (s_ : List UInt8) : Option ((List Int)) :=
  (iter (L_ref04_words_1 s_) NF (([] : List Int), 0)).bind fun r74 =>
  (iter (L_ref04_words_2) NF (r74, 16)).bind fun r192 =>
  some r192
def L_ref04_Of_2 (y11 : (List Int)) (y500 : (List Int)) (s : (List Int) × Int × (List Int) × Int) : Option (((List Int) × Int × (List Int) × Int) ⊕ ((List Int) × Int × (List Int))) :=
  if s.2.2.2 < 64 then
    (idxL s.2.2.1 7).bind fun x715 =>
    (idxL s.2.2.1 4).bind fun x721 =>
    (F_ref04_right x721 6).bind fun y727 =>
    (F_ref04_right x721 11).bind fun y735 =>
    (F_ref04_right x721 25).bind fun y743 =>
    (idxL s.2.2.1 5).bind fun x751 =>
    (idxL s.2.2.1 6).bind fun x763 =>
    (idxL y11 s.2.2.2).bind fun x769 =>
    (idxL y500 s.2.2.2).bind fun x775 =>
    (idxL s.2.2.1 0).bind fun x782 =>
    (F_ref04_right x782 2).bind fun y788 =>
    (F_ref04_right x782 13).bind fun y796 =>
    (F_ref04_right x782 22).bind fun y804 =>
    (idxL s.2.2.1 1).bind fun x812 =>
    (idxL s.2.2.1 2).bind fun x824 =>
    (idxL s.2.2.1 3).bind fun x861 =>
    some (.inl (s.1, s.2.1, ([IntKind.u32.wrap ((IntKind.u32.wrap ((IntKind.u32.wrap ((IntKind.u32.wrap ((IntKind.u32.wrap (x715 + (xorI .u32 (xorI .u32 y727 y735) y743))) + (xorI .u32 (andI .u32 x721 x751) (andI .u32 (IntKind.u32.wrap (4294967295 - x721)) x763)))) + x769)) + x775)) + (IntKind.u32.wrap ((xorI .u32 (xorI .u32 y788 y796) y804) + (xorI .u32 (xorI .u32 (andI .u32 x782 x812) (andI .u32 x782 x824)) (andI .u32 x812 x824))))), x782, x812, x824, IntKind.u32.wrap (x861 + (IntKind.u32.wrap ((IntKind.u32.wrap ((IntKind.u32.wrap ((IntKind.u32.wrap (x715 + (xorI .u32 (xorI .u32 y727 y735) y743))) + (xorI .u32 (andI .u32 x721 x751) (andI .u32 (IntKind.u32.wrap (4294967295 - x721)) x763)))) + x769)) + x775))), x721, x751, x763] : List Int), IntKind.i64.wrap (s.2.2.2 + 1)))
  else
    some (.inr (s.1, s.2.1, s.2.2.1))
def L_ref04_Of_3 (r895 : (List Int) × Int × (List Int)) (s : (List Int) × Int) : Option (((List Int) × Int) ⊕ (List Int)) :=
  if s.2 < 8 then
    (idxL s.1 s.2).bind fun x934 =>
    (idxL r895.2.2 s.2).bind fun x940 =>
    (setL s.1 s.2 (IntKind.u32.wrap (x934 + x940))).bind fun y954 =>
    some (.inl (y954, IntKind.i64.wrap (s.2 + 1)))
  else
    some (.inr s.1)
def L_ref04_Of_1 (y20 : (List UInt8)) (y11 : (List Int)) (s : (List Int) × Int) : Option (((List Int) × Int) ⊕ (List Int)) :=
  if s.2 < (y20.length : Int) then
    (subS y20 s.2 (IntKind.i64.wrap (s.2 + 64))).bind fun s499 =>
    (F_ref04_words s499).bind fun y500 =>
    (app ([] : List Int) s.1).bind fun zs515 =>
    (iter (L_ref04_Of_2 y11 y500) NF (s.1, s.2, zs515, 0)).bind fun r895 =>
    (iter (L_ref04_Of_3 r895) NF (r895.1, 0)).bind fun r958 =>
    some (.inl (r958, IntKind.i64.wrap (r895.2.1 + 64)))
  else
    some (.inr s.1)
def L_ref04_Of_4 (r962 : (List Int)) (s : (List Int) × Int) : Option (((List Int) × Int) ⊕ (List Int)) :=
  if s.2 < 8 then
    (idxL r962 s.2).bind fun x1030 =>
    (shrI x1030 .u32 24).bind fun y1036 =>
    (shrI x1030 .u32 16).bind fun y1044 =>
    (shrI x1030 .u32 8).bind fun y1052 =>
    (app s.1 ([IntKind.u8.wrap y1036, IntKind.u8.wrap y1044, IntKind.u8.wrap y1052, IntKind.u8.wrap x1030] : List Int)).bind fun zs1067 =>
    some (.inl (zs1067, IntKind.i64.wrap (s.2 + 1)))
  else
    some (.inr s.1)
def F_ref04_Of (s_ : List UInt8) : Option ((List UInt8)) :=
  (F_ref04_roots 8 2).bind fun y2 =>
  (F_ref04_roots 64 3).bind fun y11 =>
  (F_ref04_padded s_).bind fun y20 =>
  (iter (L_ref04_Of_1 y20 y11) NF (y2, 0)).bind fun r962 =>
  (iter (L_ref04_Of_4 r962) NF (([] : List Int), 0)).bind fun r1077 =>
  some (r1077.map byt)
def F_sha_first : Option (GA8_u32) :=
  (chkLen [0, 0, 0, 0, 0, 0, 0, 0] 8).bind fun _ =>
  (chkLen [1779033703, 3144134277, 1013904242, 2773480762, 1359893119, 2600822924, 528734635, 1541459225] 8).bind fun _ =>
  some (⟨1779033703, 3144134277, 1013904242, 2773480762, 1359893119, 2600822924, 528734635, 1541459225⟩ : GA8_u32)
def KL_99 : List Int := [1116352408, 1899447441, 3049323471, 3921009573, 961987163, 1508970993, 2453635748, 2870763221, 3624381080, 310598401, 607225278, 1426881987, 1925078388, 2162078206, 2614888103, 3248222580, 3835390401, 4022224774, 264347078, 604807628, 770255983, 1249150122, 1555081692, 1996064986, 2554220882, 2821834349, 2952996808, 3210313671, 3336571891, 3584528711, 113926993, 338241895, 666307205, 773529912, 1294757372, 1396182291, 1695183700, 1986661051, 2177026350, 2456956037, 2730485921, 2820302411, 3259730800, 3345764771, 3516065817, 3600352804, 4094571909, 275423344, 430227734, 506948616, 659060556, 883997877, 958139571, 1322822218, 1537002063, 1747873779, 1955562222, 2024104815, 2227730452, 2361852424, 2428436474, 2756734187, 3204031479, 3329325298]
def F_sha_added : Option (List Int) := some KL_99
def F_math_bits_RotateLeft32 (x_ : Int) (k : Int) : Option (Int) :=
  (shlI .u32 x_ (andI .u64 (IntKind.u64.wrap k) 31)).bind fun y4 =>
  (shrI x_ .u32 (IntKind.u64.wrap (32 - (andI .u64 (IntKind.u64.wrap k) 31)))).bind fun y5 =>
  some (orI .u32 y4 y5)
def F_sha_right (a : Int) (n_ : Int) : Option (Int) :=
  (F_math_bits_RotateLeft32 a (IntKind.i64.wrap (0 - n_))).bind fun y2 =>
  some y2
def L_sha_words_1 (s_ : List UInt8) (s : (List Int) × Int) : Option (((List Int) × Int) ⊕ (List Int)) :=
  if s.2 < 16 then
    (idxS s_ (IntKind.i64.wrap (4 * s.2))).bind fun c42 =>
    (shlI .u32 (IntKind.u32.wrap c42) 24).bind fun y44 =>
    (idxS s_ (IntKind.i64.wrap ((IntKind.i64.wrap (4 * s.2)) + 1))).bind fun c45 =>
    (shlI .u32 (IntKind.u32.wrap c45) 16).bind fun y47 =>
    (idxS s_ (IntKind.i64.wrap ((IntKind.i64.wrap (4 * s.2)) + 2))).bind fun c48 =>
    (shlI .u32 (IntKind.u32.wrap c48) 8).bind fun y50 =>
    (idxS s_ (IntKind.i64.wrap ((IntKind.i64.wrap (4 * s.2)) + 3))).bind fun c51 =>
    (chkIdx 64 s.2).bind fun _ =>
    (setA 64 s.1 s.2 (orI .u32 (orI .u32 (orI .u32 y44 y47) y50) (IntKind.u32.wrap c51))).bind fun y58 =>
    some (.inl (y58, IntKind.i64.wrap (s.2 + 1)))
  else
    some (.inr s.1)
def L_sha_words_2 (s : (List Int) × Int) : Option (((List Int) × Int) ⊕ (List Int)) :=
  if s.2 < 64 then
    (chkIdx 64 (IntKind.i64.wrap (s.2 - 15))).bind fun _ =>
    (idxA 64 s.1 (IntKind.i64.wrap (s.2 - 15))).bind fun y115 =>
    (chkIdx 64 (IntKind.i64.wrap (s.2 - 2))).bind fun _ =>
    (idxA 64 s.1 (IntKind.i64.wrap (s.2 - 2))).bind fun y119 =>
    (chkIdx 64 (IntKind.i64.wrap (s.2 - 16))).bind fun _ =>
    (idxA 64 s.1 (IntKind.i64.wrap (s.2 - 16))).bind fun y124 =>
    (chkIdx 64 (IntKind.i64.wrap (s.2 - 7))).bind fun _ =>
    (idxA 64 s.1 (IntKind.i64.wrap (s.2 - 7))).bind fun y128 =>
    (F_sha_right y115 7).bind fun y129 =>
    (F_sha_right y115 18).bind fun y131 =>
    (shrI y115 .u32 3).bind fun y133 =>
    (F_sha_right y119 17).bind fun y134 =>
    (F_sha_right y119 19).bind fun y136 =>
    (shrI y119 .u32 10).bind fun y138 =>
    (chkIdx 64 s.2).bind fun _ =>
    (setA 64 s.1 s.2 (IntKind.u32.wrap ((IntKind.u32.wrap ((IntKind.u32.wrap (y124 + y128)) + (xorI .u32 (xorI .u32 y129 y131) y133))) + (xorI .u32 (xorI .u32 y134 y136) y138)))).bind fun y144 =>
    some (.inl (y144, IntKind.i64.wrap (s.2 + 1)))
  else
    some (.inr s.1)
def F_sha_words (s_ : List UInt8) : Option ((List Int)) :=
  (iter (L_sha_words_1 s_) NF ([0, 0, 0, 0, 0, 0, 0, 0, 0, 0, 0, 0, 0, 0, 0, 0, 0, 0, 0, 0, 0, 0, 0, 0, 0, 0, 0, 0, 0, 0, 0, 0, 0, 0, 0, 0, 0, 0, 0, 0, 0, 0, 0, 0, 0, 0, 0, 0, 0, 0, 0, 0, 0, 0, 0, 0, 0, 0, 0, 0, 0, 0, 0, 0], 0)).bind fun r62 =>
  (iter (L_sha_words_2) NF (r62, 16)).bind fun r148 =>
  some r148
def F_sha_state_step (v : GA8_u32) (k : Int) (w : Int) : Option (GA8_u32) :=
  (chkIdx 8 4).bind fun _ =>
  (idxA 8 [v.x0, v.x1, v.x2, v.x3, v.x4, v.x5, v.x6, v.x7] 4).bind fun y17 =>
  (F_sha_right y17 6).bind fun y18 =>
  (chkIdx 8 4).bind fun _ =>
  (F_sha_right y17 11).bind fun y24 =>
  (chkIdx 8 4).bind fun _ =>
  (F_sha_right y17 25).bind fun y30 =>
  (chkIdx 8 7).bind fun _ =>
  (idxA 8 [v.x0, v.x1, v.x2, v.x3, v.x4, v.x5, v.x6, v.x7] 7).bind fun y36 =>
  (chkIdx 8 4).bind fun _ =>
  (chkIdx 8 5).bind fun _ =>
  (idxA 8 [v.x0, v.x1, v.x2, v.x3, v.x4, v.x5, v.x6, v.x7] 5).bind fun y44 =>
  (chkIdx 8 4).bind fun _ =>
  (chkIdx 8 6).bind fun _ =>
  (idxA 8 [v.x0, v.x1, v.x2, v.x3, v.x4, v.x5, v.x6, v.x7] 6).bind fun y52 =>
  (chkIdx 8 0).bind fun _ =>
  (idxA 8 [v.x0, v.x1, v.x2, v.x3, v.x4, v.x5, v.x6, v.x7] 0).bind fun y57 =>
  (F_sha_right y57 2).bind fun y58 =>
  (chkIdx 8 0).bind fun _ =>
  (F_sha_right y57 13).bind fun y64 =>
  (chkIdx 8 0).bind fun _ =>
  (F_sha_right y57 22).bind fun y70 =>
  (chkIdx 8 0).bind fun _ =>
  (chkIdx 8 1).bind fun _ =>
  (idxA 8 [v.x0, v.x1, v.x2, v.x3, v.x4, v.x5, v.x6, v.x7] 1).bind fun y80 =>
  (chkIdx 8 0).bind fun _ =>
  (chkIdx 8 2).bind fun _ =>
  (idxA 8 [v.x0, v.x1, v.x2, v.x3, v.x4, v.x5, v.x6, v.x7] 2).bind fun y88 =>
  (chkIdx 8 1).bind fun _ =>
  (chkIdx 8 2).bind fun _ =>
  (chkIdx 8 0).bind fun _ =>
  (chkIdx 8 1).bind fun _ =>
  (chkIdx 8 2).bind fun _ =>
  (chkIdx 8 3).bind fun _ =>
  (idxA 8 [v.x0, v.x1, v.x2, v.x3, v.x4, v.x5, v.x6, v.x7] 3).bind fun y113 =>
  (chkIdx 8 4).bind fun _ =>
  (chkIdx 8 5).bind fun _ =>
  (chkIdx 8 6).bind fun _ =>
  (chkLen [0, 0, 0, 0, 0, 0, 0, 0] 8).bind fun _ =>
  (chkLen [IntKind.u32.wrap ((IntKind.u32.wrap ((IntKind.u32.wrap ((IntKind.u32.wrap ((IntKind.u32.wrap (y36 + (xorI .u32 (xorI .u32 y18 y24) y30))) + (xorI .u32 (andI .u32 y17 y44) (andI .u32 (xorI .u32 4294967295 y17) y52)))) + k)) + w)) + (IntKind.u32.wrap ((xorI .u32 (xorI .u32 y58 y64) y70) + (xorI .u32 (xorI .u32 (andI .u32 y57 y80) (andI .u32 y57 y88)) (andI .u32 y80 y88))))), y57, y80, y88, IntKind.u32.wrap (y113 + (IntKind.u32.wrap ((IntKind.u32.wrap ((IntKind.u32.wrap ((IntKind.u32.wrap (y36 + (xorI .u32 (xorI .u32 y18 y24) y30))) + (xorI .u32 (andI .u32 y17 y44) (andI .u32 (xorI .u32 4294967295 y17) y52)))) + k)) + w))), y17, y44, y52] 8).bind fun _ =>
  some (⟨IntKind.u32.wrap ((IntKind.u32.wrap ((IntKind.u32.wrap ((IntKind.u32.wrap ((IntKind.u32.wrap (y36 + (xorI .u32 (xorI .u32 y18 y24) y30))) + (xorI .u32 (andI .u32 y17 y44) (andI .u32 (xorI .u32 4294967295 y17) y52)))) + k)) + w)) + (IntKind.u32.wrap ((xorI .u32 (xorI .u32 y58 y64) y70) + (xorI .u32 (xorI .u32 (andI .u32 y57 y80) (andI .u32 y57 y88)) (andI .u32 y80 y88))))), y57, y80, y88, IntKind.u32.wrap (y113 + (IntKind.u32.wrap ((IntKind.u32.wrap ((IntKind.u32.wrap ((IntKind.u32.wrap (y36 + (xorI .u32 (xorI .u32 y18 y24) y30))) + (xorI .u32 (andI .u32 y17 y44) (andI .u32 (xorI .u32 4294967295 y17) y52)))) + k)) + w))), y17, y44, y52⟩ : GA8_u32)
def L_sha_state_blocks_2 (y14 : (List Int)) (y165 : (List Int)) (s : (List UInt8) × (List Int) × (List Int) × Int) : Option (((List UInt8) × (List Int) × (List Int) × Int) ⊕ ((List UInt8) × (List Int) × (List Int))) :=
  if s.2.2.2 < 64 then
    (GA8_u32.of s.2.2.1).bind fun a222 =>
    (chkIdx 64 s.2.2.2).bind fun _ =>
    (idxA 64 y14 s.2.2.2).bind fun y226 =>
    (chkIdx 64 s.2.2.2).bind fun _ =>
    (idxA 64 y165 s.2.2.2).bind fun y230 =>
    (F_sha_state_step a222 y226 y230).bind fun y231 =>
    (chkLen s.2.2.1 8).bind fun _ =>
    (chkLen [y231.x0, y231.x1, y231.x2, y231.x3, y231.x4, y231.x5, y231.x6, y231.x7] 8).bind fun _ =>
    some (.inl (s.1, s.2.1, [y231.x0, y231.x1, y231.x2, y231.x3, y231.x4, y231.x5, y231.x6, y231.x7], IntKind.i64.wrap (s.2.2.2 + 1)))
  else
    some (.inr (s.1, s.2.1, s.2.2.1))
def L_sha_state_blocks_3 (r241 : (List UInt8) × (List Int) × (List Int)) (s : (List Int) × Int) : Option (((List Int) × Int) ⊕ (List Int)) :=
  if s.2 < 8 then
    (chkIdx 8 s.2).bind fun _ =>
    (idxA 8 s.1 s.2).bind fun y277 =>
    (chkIdx 8 s.2).bind fun _ =>
    (idxA 8 r241.2.2 s.2).bind fun y281 =>
    (chkIdx 8 s.2).bind fun _ =>
    (setA 8 s.1 s.2 (IntKind.u32.wrap (y277 + y281))).bind fun y287 =>
    some (.inl (y287, IntKind.i64.wrap (s.2 + 1)))
  else
    some (.inr s.1)
def L_sha_state_blocks_1 (y14 : (List Int)) (s : (List UInt8) × (List Int)) : Option (((List UInt8) × (List Int)) ⊕ (List Int)) :=
  if (s.1.length : Int) ≥ 64 then
    (F_sha_words s.1).bind fun y165 =>
    (GA8_u32.of s.2).bind fun a175 =>
    (chkLen [0, 0, 0, 0, 0, 0, 0, 0] 8).bind fun _ =>
    (chkLen [a175.x0, a175.x1, a175.x2, a175.x3, a175.x4, a175.x5, a175.x6, a175.x7] 8).bind fun _ =>
    (iter (L_sha_state_blocks_2 y14 y165) NF (s.1, s.2, [a175.x0, a175.x1, a175.x2, a175.x3, a175.x4, a175.x5, a175.x6, a175.x7], 0)).bind fun r241 =>
    (iter (L_sha_state_blocks_3 r241) NF (r241.2.1, 0)).bind fun r291 =>
    (subS r241.1 64 r241.1.length).bind fun s294 =>
    some (.inl (s294, r291))
  else
    some (.inr s.2)
def F_sha_state_blocks (v : GA8_u32) (s_ : List UInt8) : Option (GA8_u32) :=
  F_sha_added.bind fun y14 =>
  (iter (L_sha_state_blocks_1 y14) NF (s_, [v.x0, v.x1, v.x2, v.x3, v.x4, v.x5, v.x6, v.x7])).bind fun r296 =>
  (GA8_u32.of r296).bind fun a300 =>
  (chkLen [0, 0, 0, 0, 0, 0, 0, 0] 8).bind fun _ =>
  (chkLen [a300.x0, a300.x1, a300.x2, a300.x3, a300.x4, a300.x5, a300.x6, a300.x7] 8).bind fun _ =>
  some a300
def L_sha_high_1 (zs2 : List Int) (n_ : Int) (size : Int) (s : (List Int) × Int) : Option (((List Int) × Int) ⊕ (List Int)) :=
  if s.2 < (zs2.length : Int) then
    (shrI n_ .u64 (IntKind.i64.wrap (8 * (IntKind.i64.wrap ((IntKind.i64.wrap (size - 1)) - s.2))))).bind fun y38 =>
    (idxL s.1 s.2).bind fun x40 =>
    (setL s.1 s.2 (IntKind.u8.wrap y38)).bind fun y48 =>
    some (.inl (y48, IntKind.i64.wrap (s.2 + 1)))
  else
    some (.inr s.1)
def F_sha_high (n_ : Int) (size : Int) : Option ((List UInt8)) :=
  (mkL (0 : Int) size).bind fun zs2 =>
  (iter (L_sha_high_1 zs2 n_ size) NF (zs2, 0)).bind fun r52 =>
  some (r52.map byt)
def L_sha_Of_1 (y45 : GA8_u32) (s : (List UInt8) × Int) : Option (((List UInt8) × Int) ⊕ (List UInt8)) :=
  if s.2 < 8 then
    (idxA 8 [y45.x0, y45.x1, y45.x2, y45.x3, y45.x4, y45.x5, y45.x6, y45.x7] s.2).bind fun y75 =>
    (F_sha_high (IntKind.u64.wrap y75) 4).bind fun y79 =>
    (app s.1 y79).bind fun b81 =>
    some (.inl (b81, IntKind.i64.wrap (s.2 + 1)))
  else
    some (.inr s.1)
def F_sha_Of (s_ : List UInt8) : Option ((List UInt8)) :=
  (quoI .i64 (s_.length : Int) 64).bind fun y3 =>
  F_sha_first.bind fun y5 =>
  (subS s_ 0 (IntKind.i64.wrap (y3 * 64))).bind fun s7 =>
  (F_sha_state_blocks y5 s7).bind fun y8 =>
  (chkLen [0, 0, 0, 0, 0, 0, 0, 0] 8).bind fun _ =>
  (chkLen [y8.x0, y8.x1, y8.x2, y8.x3, y8.x4, y8.x5, y8.x6, y8.x7] 8).bind fun _ =>
  (subS s_ (IntKind.i64.wrap (y3 * 64)) s_.length).bind fun s23 =>
  (cat s23 [128]).bind fun s24 =>
  (remI (IntKind.i64.wrap (120 - (s24.length : Int))) 64).bind fun y27 =>
  (F_strings_Repeat [0] y27).bind fun y28 =>
  (F_sha_high (IntKind.u64.wrap (8 * (IntKind.u64.wrap (s_.length : Int)))) 8).bind fun y32 =>
  (cat y28 y32).bind fun s34 =>
  (cat s24 s34).bind fun s35 =>
  (F_sha_state_blocks y8 s35).bind fun y45 =>
  (iter (L_sha_Of_1 y45) NF (([] : List UInt8), 0)).bind fun r92 =>
  (chkCap r92).bind fun _ =>
  some r92
def L_digest_Find_1 (t : List Gapi_Node) (key : List UInt8) (s : (List (List UInt8)) × Int) : Option (((List (List UInt8)) × Int) ⊕ (List (List UInt8))) :=
  if s.2 < (t.length : Int) then
    (idxL t s.2).bind fun x86 =>
    ((
      if (!x86.xDir) = true then
        (F_sha_Of x86.xData).bind fun y108 =>
        some (y108 == key)
      else
        some false : Option (Bool))).bind fun j110 =>
    if (j110) = true then
      (app s.1 ([x86.xPath] : List (List UInt8))).bind fun zs136 =>
      some (.inl (zs136, IntKind.i64.wrap (s.2 + 1)))
    else
      some (.inl (s.1, IntKind.i64.wrap (s.2 + 1)))
  else
    some (.inr s.1)
def F_digest_Find (t : List Gapi_Node) (key : List UInt8) : Option ((List (List UInt8))) :=
  (iter (L_digest_Find_1 t key) NF (([] : List (List UInt8)), 0)).bind fun r147 =>
  some r147
def L_field_put_1 (zs2 : List Int) (v : Int) (s : (List Int) × Int) : Option (((List Int) × Int) ⊕ (List Int)) :=
  if s.2 < (zs2.length : Int) then
    (shrI v .u64 (IntKind.i64.wrap (8 * s.2))).bind fun y38 =>
    (idxL s.1 s.2).bind fun x40 =>
    (setL s.1 s.2 (IntKind.u8.wrap y38)).bind fun y48 =>
    some (.inl (y48, IntKind.i64.wrap (s.2 + 1)))
  else
    some (.inr s.1)
def F_field_put (v : Int) (n_ : Int) : Option ((List UInt8)) :=
  (mkL (0 : Int) n_).bind fun zs2 =>
  (iter (L_field_put_1 zs2 v) NF (zs2, 0)).bind fun r52 =>
  some (r52.map byt)
def F_field_P32 (n_ : Int) : Option ((List UInt8)) :=
  (F_field_put (IntKind.u64.wrap n_) 4).bind fun y3 =>
  some y3
def F_digest_writer_path (w : Gdigest_writer) (p : List UInt8) : Option (Gdigest_writer) :=
  (F_field_P32 (p.length : Int)).bind fun y2 =>
  (cat y2 p).bind fun s4 =>
  (app w.xBuilder s4).bind fun b6 =>
  some (⟨b6⟩ : Gdigest_writer)
def F_field_P16 (n_ : Int) : Option ((List UInt8)) :=
  (F_field_put (IntKind.u64.wrap n_) 2).bind fun y3 =>
  some y3
def F_digest_writer_node (w : Gdigest_writer) (n_ : Gapi_Node) : Option (Gdigest_writer) :=
  ((
    if (n_.xDir) = true then
      (byteOf 100).bind fun x12 =>
      (app w.xBuilder [x12]).bind fun b13 =>
      some b13
    else
      (byteOf 102).bind fun x23 =>
      (app w.xBuilder [x23]).bind fun b24 =>
      some b24 : Option ((List UInt8)))).bind fun j33 =>
  (F_digest_writer_path (⟨j33⟩ : Gdigest_writer) n_.xPath).bind fun y39 =>
  (F_field_P16 n_.xMode).bind fun y49 =>
  (F_field_P32 n_.xTime).bind fun y52 =>
  (cat y49 y52).bind fun s54 =>
  (app y39.xBuilder s54).bind fun b56 =>
  if (!n_.xDir) = true then
    (F_sha_Of n_.xData).bind fun y83 =>
    (app b56 y83).bind fun b86 =>
    some (⟨b86⟩ : Gdigest_writer)
  else
    some (⟨b56⟩ : Gdigest_writer)
def L_digest_Tree_1 (t : List Gapi_Node) (s : (List UInt8) × Int) : Option (((List UInt8) × Int) ⊕ (List UInt8)) :=
  if s.2 < (t.length : Int) then
    (idxL t s.2).bind fun x55 =>
    (F_digest_writer_node (⟨s.1⟩ : Gdigest_writer) x55).bind fun y73 =>
    some (.inl (y73.xBuilder, IntKind.i64.wrap (s.2 + 1)))
  else
    some (.inr s.1)
def F_digest_Tree (t : List Gapi_Node) : Option ((List UInt8)) :=
  (iter (L_digest_Tree_1 t) NF (([] : List UInt8), 0)).bind fun r85 =>
  (chkCap r85).bind fun _ =>
  (F_sha_Of r85).bind fun y97 =>
  some y97
def F_digest_Node (n_ : Gapi_Node) : Option ((List UInt8)) :=
  (F_digest_writer_node (⟨([] : List UInt8)⟩ : Gdigest_writer) n_).bind fun y18 =>
  (chkCap y18.xBuilder).bind fun _ =>
  some y18.xBuilder
def L_digest_writer_paths_1 (l : List (List UInt8)) (s : (List UInt8) × Int) : Option (((List UInt8) × Int) ⊕ (List UInt8)) :=
  if s.2 < (l.length : Int) then
    (idxL l s.2).bind fun x58 =>
    (F_digest_writer_path (⟨s.1⟩ : Gdigest_writer) x58).bind fun y65 =>
    some (.inl (y65.xBuilder, IntKind.i64.wrap (s.2 + 1)))
  else
    some (.inr s.1)
def F_digest_writer_paths (w : Gdigest_writer) (kind : Int) (l : List (List UInt8)) : Option (Gdigest_writer) :=
  (byteOf kind).bind fun x2 =>
  (app w.xBuilder [x2]).bind fun b3 =>
  (F_field_P32 (l.length : Int)).bind fun y13 =>
  (app b3 y13).bind fun b16 =>
  (iter (L_digest_writer_paths_1 l) NF (b16, 0)).bind fun r77 =>
  some (⟨r77⟩ : Gdigest_writer)
def L_digest_Layer_1 (l : Gapi_Layer) (s : (List UInt8) × Int) : Option (((List UInt8) × Int) ⊕ (List UInt8)) :=
  if s.2 < (l.xAdds.length : Int) then
    (idxL l.xAdds s.2).bind fun x87 =>
    (F_digest_writer_node (⟨s.1⟩ : Gdigest_writer) x87).bind fun y105 =>
    some (.inl (y105.xBuilder, IntKind.i64.wrap (s.2 + 1)))
  else
    some (.inr s.1)
def F_digest_Layer (l : Gapi_Layer) : Option ((List UInt8)) :=
  (byteOf 97).bind fun x18 =>
  (app ([] : List UInt8) [x18]).bind fun b19 =>
  (F_field_P32 (l.xAdds.length : Int)).bind fun y30 =>
  (app b19 y30).bind fun b33 =>
  (iter (L_digest_Layer_1 l) NF (b33, 0)).bind fun r117 =>
  (F_digest_writer_paths (⟨r117⟩ : Gdigest_writer) 119 l.xWhites).bind fun y123 =>
  (F_digest_writer_paths y123 111 l.xOpaques).bind fun y133 =>
  (chkCap y133.xBuilder).bind fun _ =>
  (F_sha_Of y133.xBuilder).bind fun y149 =>
  some y149
def F_law39_awake : Option (Bool) :=
  (F_ref04_Of [120]).bind fun y20 =>
  (F_digest_Find ([(⟨[97], false, [120], 420, 0⟩ : Gapi_Node)] : List Gapi_Node) y20).bind fun y22 =>
  ((
    (F_digest_Tree ([] : List Gapi_Node)).bind fun y31 =>
    (F_ref04_Of []).bind fun y37 =>
    if (y31 == y37) = true then
      (F_digest_Node (⟨[97], false, [120], 420, 0⟩ : Gapi_Node)).bind fun y43 =>
      if ((y43.length : Int) == 44) = true then
        if ((y22.length : Int) == 1) = true then
          (idxL y22 0).bind fun x53 =>
          if (x53 == [97]) = true then
            (F_digest_Layer (⟨([] : List Gapi_Node), ([] : List (List UInt8)), ([] : List (List UInt8))⟩ : Gapi_Layer)).bind fun y62 =>
            some ((y62.length : Int) == 32)
          else
            some false
        else
          some false
      else
        some false
    else
      some false : Option (Bool))).bind fun j69 =>
  some j69
def L_law24_Few_1 (t : List Gapi_Node) (s : Int) : Option (Int ⊕ (Unit ⊕ Unit)) :=
  if s < (t.length : Int) then
    (idxL t s).bind fun x52 =>
    ((
      if (x52.xPath.length : Int) > 60 then
        some true
      else
        some (decide ((x52.xData.length : Int) > 60)) : Option (Bool))).bind fun j76 =>
    if (j76) = true then
      some (.inr (.inr ()))
    else
      some (.inl (IntKind.i64.wrap (s + 1)))
  else
    some (.inr (.inl ()))
def F_law24_Few (t : List Gapi_Node) (most_ : Int) : Option (Bool) :=
  if (t.length : Int) > most_ then
    some false
  else
    (iter (L_law24_Few_1 t) NF 0).bind fun r84 =>
    sumK r84 (fun t85 =>
      some true) fun t88 =>
    some false
def L_ref02_Put_1 (n_ : Int) (s : Int × (List Int) × Int) : Option ((Int × (List Int) × Int) ⊕ (List Int)) :=
  if s.2.2 < n_ then
    (remI s.1 256).bind fun y40 =>
    (app s.2.1 ([IntKind.u8.wrap y40] : List Int)).bind fun zs48 =>
    (quoI .u64 s.1 256).bind fun y55 =>
    some (.inl (y55, zs48, IntKind.i64.wrap (s.2.2 + 1)))
  else
    some (.inr s.2.1)
def F_ref02_Put (v : Int) (n_ : Int) : Option ((List UInt8)) :=
  (iter (L_ref02_Put_1 n_) NF (v, ([] : List Int), 0)).bind fun r60 =>
  some (r60.map byt)
def F_ref39_Node (n_ : Gapi_Node) : Option ((List UInt8)) :=
  ((
    if (n_.xDir) = true then
      some [100]
    else
      some [102] : Option ((List UInt8)))).bind fun j13 =>
  (F_ref02_Put (IntKind.u64.wrap (n_.xPath.length : Int)) 4).bind fun y19 =>
  (cat j13 y19).bind fun s21 =>
  (cat s21 n_.xPath).bind fun s23 =>
  (F_ref02_Put (IntKind.u64.wrap n_.xMode) 2).bind fun y26 =>
  (cat s23 y26).bind fun s28 =>
  (F_ref02_Put (IntKind.u64.wrap n_.xTime) 4).bind fun y31 =>
  (cat s28 y31).bind fun s33 =>
  ((
    if (!n_.xDir) = true then
      (F_ref04_Of n_.xData).bind fun y39 =>
      (cat s33 y39).bind fun s41 =>
      some s41
    else
      some s33 : Option ((List UInt8)))).bind fun j43 =>
  some j43
def L_ref39_text_1 (t : List Gapi_Node) (s : (List UInt8) × Int) : Option (((List UInt8) × Int) ⊕ (List UInt8)) :=
  if s.2 < (t.length : Int) then
    (idxL t s.2).bind fun x27 =>
    (F_ref39_Node x27).bind fun y33 =>
    (cat s.1 y33).bind fun s35 =>
    some (.inl (s35, IntKind.i64.wrap (s.2 + 1)))
  else
    some (.inr s.1)
def F_ref39_text (t : List Gapi_Node) : Option ((List UInt8)) :=
  (iter (L_ref39_text_1 t) NF ([], 0)).bind fun r38 =>
  some r38
def F_ref39_Tree (t : List Gapi_Node) : Option ((List UInt8)) :=
  (F_ref39_text t).bind fun y2 =>
  (F_ref04_Of y2).bind fun y8 =>
  some y8
def F_internal_stringslite_HasPrefix (s_ : List UInt8) (prefix_ : List UInt8) : Option (Bool) :=
  ((
    if (s_.length : Int) ≥ (prefix_.length : Int) then
      (subS s_ 0 (prefix_.length : Int)).bind fun s8 =>
      some (s8 == prefix_)
    else
      some false : Option (Bool))).bind fun j9 =>
  some j9
def F_strings_HasPrefix (s_ : List UInt8) (prefix_ : List UInt8) : Option (Bool) :=
  (F_internal_stringslite_HasPrefix s_ prefix_).bind fun y2 =>
  some y2
def F_route_Under (p : List UInt8) (dir : List UInt8) : Option (Bool) :=
  if (dir == []) = true then
    some (!(p == []))
  else
    (cat dir [47]).bind fun s7 =>
    (F_strings_HasPrefix p s7).bind fun y8 =>
    some y8
def L_digest_Under_1 (t : List Gapi_Node) (dir : List UInt8) (s : (List Gapi_Node) × Int) : Option (((List Gapi_Node) × Int) ⊕ (List Gapi_Node)) :=
  if s.2 < (t.length : Int) then
    (idxL t s.2).bind fun x80 =>
    (F_route_Under x80.xPath dir).bind fun y98 =>
    if (!y98) = true then
      some (.inl (s.1, IntKind.i64.wrap (s.2 + 1)))
    else
      ((
        if (!(dir == [])) = true then
          (subS x80.xPath (IntKind.i64.wrap ((dir.length : Int) + 1)) x80.xPath.length).bind fun s109 =>
          some s109
        else
          some x80.xPath : Option ((List UInt8)))).bind fun j115 =>
      (app s.1 ([(⟨j115, x80.xDir, x80.xData, x80.xMode, x80.xTime⟩ : Gapi_Node)] : List Gapi_Node)).bind fun zs125 =>
      some (.inl (zs125, IntKind.i64.wrap (s.2 + 1)))
  else
    some (.inr s.1)
def F_digest_Under (t : List Gapi_Node) (dir : List UInt8) : Option ((List UInt8)) :=
  (iter (L_digest_Under_1 t dir) NF (([] : List Gapi_Node), 0)).bind fun r135 =>
  (F_digest_Tree r135).bind fun y139 =>
  some y139
def L_ref13_Parts_1 (p : List UInt8) (s : (List (List UInt8)) × Int × Int) : Option (((List (List UInt8)) × Int × Int) ⊕ (List (List UInt8))) :=
  if s.2.2 ≤ (p.length : Int) then
    ((
      if (s.2.2 == (p.length : Int)) = true then
        some true
      else
        (idxS p s.2.2).bind fun c84 =>
        some (c84 == 47) : Option (Bool))).bind fun j85 =>
    if (j85) = true then
      (subS p s.2.1 s.2.2).bind fun s105 =>
      (app s.1 ([s105] : List (List UInt8))).bind fun zs112 =>
      some (.inl (zs112, IntKind.i64.wrap (s.2.2 + 1), IntKind.i64.wrap (s.2.2 + 1)))
    else
      some (.inl (s.1, s.2.1, IntKind.i64.wrap (s.2.2 + 1)))
  else
    some (.inr s.1)
def F_ref13_Parts (p : List UInt8) : Option ((List (List UInt8))) :=
  if (p == []) = true then
    some ([] : List (List UInt8))
  else
    (iter (L_ref13_Parts_1 p) NF (([] : List (List UInt8)), 0, 0)).bind fun r124 =>
    some r124
def L_ref13_Under_1 (y11 : (List (List UInt8))) (y2 : (List (List UInt8))) (s : Int) : Option (Int ⊕ (Unit ⊕ Unit)) :=
  if s < (y11.length : Int) then
    (idxL y2 s).bind fun x58 =>
    (idxL y11 s).bind fun x64 =>
    if (!(x58 == x64)) = true then
      some (.inr (.inr ()))
    else
      some (.inl (IntKind.i64.wrap (s + 1)))
  else
    some (.inr (.inl ()))
def F_ref13_Under (p : List UInt8) (dir : List UInt8) : Option (Bool) :=
  (F_ref13_Parts p).bind fun y2 =>
  (F_ref13_Parts dir).bind fun y11 =>
  if (y2.length : Int) ≤ (y11.length : Int) then
    some false
  else
    (iter (L_ref13_Under_1 y11 y2) NF 0).bind fun r76 =>
    sumK r76 (fun t77 =>
      some true) fun t80 =>
    some false
def L_ref39_Under_1 (t : List Gapi_Node) (dir : List UInt8) (s : (List Gapi_Node) × Int) : Option (((List Gapi_Node) × Int) ⊕ (List Gapi_Node)) :=
  if s.2 < (t.length : Int) then
    (idxL t s.2).bind fun x81 =>
    (F_ref13_Under x81.xPath dir).bind fun y99 =>
    if (!y99) = true then
      some (.inl (s.1, IntKind.i64.wrap (s.2 + 1)))
    else
      ((
        if (!(dir == [])) = true then
          (subS x81.xPath (IntKind.i64.wrap ((dir.length : Int) + 1)) x81.xPath.length).bind fun s110 =>
          some s110
        else
          some x81.xPath : Option ((List UInt8)))).bind fun j116 =>
      (app s.1 ([(⟨j116, x81.xDir, x81.xData, x81.xMode, x81.xTime⟩ : Gapi_Node)] : List Gapi_Node)).bind fun zs126 =>
      some (.inl (zs126, IntKind.i64.wrap (s.2 + 1)))
  else
    some (.inr s.1)
def F_ref39_Under (t : List Gapi_Node) (dir : List UInt8) : Option ((List UInt8)) :=
  (iter (L_ref39_Under_1 t dir) NF (([] : List Gapi_Node), 0)).bind fun r136 =>
  (F_ref39_Tree r136).bind fun y140 =>
  some y140
def L_ref39_Find_1 (t : List Gapi_Node) (key : List UInt8) (s : (List (List UInt8)) × Int) : Option (((List (List UInt8)) × Int) ⊕ (List (List UInt8))) :=
  if s.2 < (t.length : Int) then
    ((
      (idxL t s.2).bind fun x90 =>
      if (!x90.xDir) = true then
        (F_ref04_Of x90.xData).bind fun y105 =>
        some (y105 == key)
      else
        some false : Option (Bool))).bind fun j107 =>
    if (j107) = true then
      (idxL t s.2).bind fun x131 =>
      (app s.1 ([x131.xPath] : List (List UInt8))).bind fun zs143 =>
      some (.inl (zs143, IntKind.i64.wrap (s.2 + 1)))
    else
      some (.inl (s.1, IntKind.i64.wrap (s.2 + 1)))
  else
    some (.inr s.1)
def F_ref39_Find (t : List Gapi_Node) (key : List UInt8) : Option ((List (List UInt8))) :=
  (iter (L_ref39_Find_1 t key) NF (([] : List (List UInt8)), 0)).bind fun r154 =>
  some r154
def L_ref23_Texts_1 (a : List (List UInt8)) (b : List (List UInt8)) (s : Int) : Option (Int ⊕ (Unit ⊕ Unit)) :=
  if s < (a.length : Int) then
    (idxL a s).bind fun x40 =>
    (idxL b s).bind fun x46 =>
    if (!(x40 == x46)) = true then
      some (.inr (.inr ()))
    else
      some (.inl (IntKind.i64.wrap (s + 1)))
  else
    some (.inr (.inl ()))
def F_ref23_Texts (a : List (List UInt8)) (b : List (List UInt8)) : Option (Bool) :=
  if ((a.length : Int) != (b.length : Int)) = true then
    some false
  else
    (iter (L_ref23_Texts_1 a b) NF 0).bind fun r58 =>
    sumK r58 (fun t59 =>
      some true) fun t62 =>
    some false
def L_law39_DigestTrees_1 (t : List Gapi_Node) (s : Int) : Option (Int ⊕ (Unit ⊕ Unit)) :=
  if s < (t.length : Int) then
    (idxL t s).bind fun x71 =>
    (F_digest_Node x71).bind fun y89 =>
    (F_ref39_Node x71).bind fun y92 =>
    if (!(y89 == y92)) = true then
      some (.inr (.inr ()))
    else
      some (.inl (IntKind.i64.wrap (s + 1)))
  else
    some (.inr (.inl ()))
def F_law39_DigestTrees (t : List Gapi_Node) (dir : List UInt8) : Option (Bool) :=
  F_law39_awake.bind fun y2 =>
  if (!y2) = true then
    some false
  else
    ((
      (F_law24_Few t 12).bind fun y13 =>
      if (!y13) = true then
        some true
      else
        some (decide ((dir.length : Int) > 60)) : Option (Bool))).bind fun j23 =>
    if (j23) = true then
      some true
    else
      (iter (L_law39_DigestTrees_1 t) NF 0).bind fun r100 =>
      sumK r100 (fun t101 =>
        (F_ref04_Of [120]).bind fun y107 =>
        ((
          if (t.length : Int) > 0 then
            (quoI .i64 (t.length : Int) 2).bind fun y114 =>
            (idxL t y114).bind fun x115 =>
            (F_ref04_Of x115.xData).bind fun y121 =>
            some y121
          else
            some y107 : Option ((List UInt8)))).bind fun j124 =>
        ((
          (F_digest_Tree t).bind fun y127 =>
          (F_ref39_Tree t).bind fun y133 =>
          if (y127 == y133) = true then
            (F_digest_Under t dir).bind fun y142 =>
            (F_ref39_Under t dir).bind fun y148 =>
            if (y142 == y148) = true then
              (F_digest_Find t j124).bind fun y157 =>
              (F_ref39_Find t j124).bind fun y165 =>
              (F_ref23_Texts y157 y165).bind fun y173 =>
              some y173
            else
              some false
          else
            some false : Option (Bool))).bind fun j179 =>
        some j179) fun t104 =>
      some false
def L_law39_DigestMoved_1 (t : List Gapi_Node) (dir : List UInt8) (s : (List Gapi_Node) × Int) : Option (((List Gapi_Node) × Int) ⊕ ((List Gapi_Node) ⊕ Unit)) :=
  if s.2 < (t.length : Int) then
    (idxL t s.2).bind fun x105 =>
    if (x105.xPath == []) = true then
      some (.inr (.inr ()))
    else
      (cat dir [47]).bind fun s128 =>
      (cat s128 x105.xPath).bind fun s130 =>
      (app s.1 ([(⟨s130, x105.xDir, x105.xData, x105.xMode, x105.xTime⟩ : Gapi_Node)] : List Gapi_Node)).bind fun zs143 =>
      some (.inl (zs143, IntKind.i64.wrap (s.2 + 1)))
  else
    some (.inr (.inl s.1))
def F_law39_DigestMoved (t : List Gapi_Node) (dir : List UInt8) : Option (Bool) :=
  F_law39_awake.bind fun y2 =>
  if (!y2) = true then
    some false
  else
    ((
      (F_law24_Few t 8).bind fun y13 =>
      if (!y13) = true then
        some true
      else
        if (dir.length : Int) > 20 then
          some true
        else
          if (dir == []) = true then
            some true
          else
            (idxS dir (IntKind.i64.wrap ((dir.length : Int) - 1))).bind fun c30 =>
            some (c30 == 47) : Option (Bool))).bind fun j31 =>
    if (j31) = true then
      some true
    else
      (iter (L_law39_DigestMoved_1 t dir) NF (([] : List Gapi_Node), 0)).bind fun r153 =>
      sumK r153 (fun t154 =>
        (F_digest_Under t154 dir).bind fun y161 =>
        (F_digest_Tree t).bind fun y167 =>
        some (y161 == y167)) fun t158 =>
      some true
def F_field_Cut (s_ : List UInt8) (at_ : Int) (n_ : Int) : Option ((List UInt8) × Int) :=
  ((
    if at_ < 0 then
      some true
    else
      if n_ < 0 then
        some true
      else
        if at_ > (s_.length : Int) then
          some true
        else
          some (decide (n_ > (IntKind.i64.wrap ((s_.length : Int) - at_)))) : Option (Bool))).bind fun j13 =>
  if (j13) = true then
    some ([], 3)
  else
    (subS s_ at_ (IntKind.i64.wrap (at_ + n_))).bind fun s20 =>
    some (s20, 0)
def L_field_number_1 (y2 : (List UInt8) × Int) (s : Int × Int) : Option ((Int × Int) ⊕ Int) :=
  if s.2 < (y2.1.length : Int) then
    (idxS y2.1 s.2).bind fun c25 =>
    (shlI .u64 (IntKind.u64.wrap c25) (IntKind.i64.wrap (8 * s.2))).bind fun y27 =>
    some (.inl (orI .u64 s.1 y27, IntKind.i64.wrap (s.2 + 1)))
  else
    some (.inr s.1)
def F_field_number (s_ : List UInt8) (at_ : Int) (n_ : Int) : Option (Int × Int) :=
  (F_field_Cut s_ at_ n_).bind fun y2 =>
  (iter (L_field_number_1 y2) NF (0, 0)).bind fun r30 =>
  some (r30, y2.2)
def F_field_U16 (s_ : List UInt8) (at_ : Int) : Option (Int × Int) :=
  (F_field_number s_ at_ 2).bind fun y2 =>
  some (IntKind.i64.wrap y2.1, y2.2)
def F_field_U32 (s_ : List UInt8) (at_ : Int) : Option (Int × Int) :=
  (F_field_number s_ at_ 4).bind fun y2 =>
  some (IntKind.i64.wrap y2.1, y2.2)
def F_field_U64 (s_ : List UInt8) (at_ : Int) : Option (Int × Int) :=
  (F_field_number s_ at_ 8).bind fun y2 =>
  some (y2.1, y2.2)
def F_field_P64 (n_ : Int) : Option ((List UInt8)) :=
  (F_field_put n_ 8).bind fun y2 =>
  some y2
def F_ref02_Cut (s_ : List UInt8) (at_ : Int) (n_ : Int) : Option ((List UInt8) × Int) :=
  ((
    if at_ < 0 then
      some true
    else
      if n_ < 0 then
        some true
      else
        if at_ > (s_.length : Int) then
          some true
        else
          some (decide (n_ > (IntKind.i64.wrap ((s_.length : Int) - at_)))) : Option (Bool))).bind fun j13 =>
  if (j13) = true then
    some ([], 3)
  else
    (subS s_ at_ (IntKind.i64.wrap (at_ + n_))).bind fun s20 =>
    some (s20, 0)
def L_ref02_Num_1 (y2 : (List UInt8) × Int) (s : Int × Int) : Option ((Int × Int) ⊕ Int) :=
  if s.2 ≥ 0 then
    (idxS y2.1 s.2).bind fun c22 =>
    some (.inl (IntKind.u64.wrap ((IntKind.u64.wrap (256 * s.1)) + (IntKind.u64.wrap c22)), IntKind.i64.wrap (s.2 - 1)))
  else
    some (.inr s.1)
def F_ref02_Num (s_ : List UInt8) (at_ : Int) (n_ : Int) : Option (Int × Int) :=
  (F_ref02_Cut s_ at_ n_).bind fun y2 =>
  (iter (L_ref02_Num_1 y2) NF (0, IntKind.i64.wrap ((y2.1.length : Int) - 1))).bind fun r26 =>
  some (r26, y2.2)
def F_ref02_U16 (s_ : List UInt8) (at_ : Int) : Option (Int) :=
  (F_ref02_Num s_ at_ 2).bind fun y2 =>
  some (IntKind.i64.wrap y2.1)
def F_ref02_U32 (s_ : List UInt8) (at_ : Int) : Option (Int) :=
  (F_ref02_Num s_ at_ 4).bind fun y2 =>
  some (IntKind.i64.wrap y2.1)
end Go.Proofs.YtobhmahlenjheaaM

/- Plain functions that say what the program's functions compute: printed by lift.py. -/
import Derived.Test.YtikkpmmhejjpaaaDoorS8
import GoSem.PinnedTables
set_option linter.unusedSimpArgs false
set_option linter.unusedVariables false
namespace Go.Proofs.YtikkpmmhejjpaaaDoorM
open Go Go.RowKit
structure Gunicode_utf8_acceptRange where
  xlo : Int
  xhi : Int
  deriving DecidableEq, Inhabited
def Gunicode_utf8_acceptRange.cells (x : Gunicode_utf8_acceptRange) : List AV := [.int .u8 x.xlo, .int .u8 x.xhi]
structure GA4_i64 where
  x0 : Int
  x1 : Int
  x2 : Int
  x3 : Int
  deriving DecidableEq, Inhabited
def GA4_i64.cells (x : GA4_i64) : List AV := [.int .i64 x.x0, .int .i64 x.x1, .int .i64 x.x2, .int .i64 x.x3]
structure GA3_i64 where
  x0 : Int
  x1 : Int
  x2 : Int
  deriving DecidableEq, Inhabited
def GA3_i64.cells (x : GA3_i64) : List AV := [.int .i64 x.x0, .int .i64 x.x1, .int .i64 x.x2]
def gv_0 : List Int := Go.Pinned.utf8FirstZ.map Int.ofNat
def gv_1 : List Gunicode_utf8_acceptRange := [⟨128, 191⟩, ⟨160, 191⟩, ⟨128, 159⟩, ⟨144, 191⟩, ⟨128, 143⟩, ⟨0, 0⟩, ⟨0, 0⟩, ⟨0, 0⟩, ⟨0, 0⟩, ⟨0, 0⟩, ⟨0, 0⟩, ⟨0, 0⟩, ⟨0, 0⟩, ⟨0, 0⟩, ⟨0, 0⟩, ⟨0, 0⟩]
/-- What the package variables hold. -/
def GVL : List (Nat × List AV) := [(0, (gv_0.map (cellI .u8)).flatten), (1, (gv_1.map Gunicode_utf8_acceptRange.cells).flatten)]
def GL (h : AH) : Prop := ∀ p ∈ GVL, GV h p.1 p.2
theorem GL.keep0 {h0 h : AH} {L : List Ent} (S : Sep h0 [] h L) (hG : GL h0) : GL h := fun p hp => (hG p hp).keep S (by simp)
theorem GL.keepA {h0 h : AH} {A L : List Ent} (S : Sep h0 (A.flatMap Ent.ids) h L) (hok : ∀ e ∈ A, e.ok h0) (hG : GL h0) : GL h := fun p hp => (hG p hp).keep S ((hG p hp).lent hok)
theorem gl_0 {h : AH} (hG : GL h) : GV h 0 ((gv_0.map (cellI .u8)).flatten) := hG (0, _) (List.mem_cons_self ..)
theorem gl_1 {h : AH} (hG : GL h) : GV h 1 ((gv_1.map Gunicode_utf8_acceptRange.cells).flatten) := hG (1, _) (List.mem_cons_of_mem _ (List.mem_cons_self ..))
def F_unicode_utf8_decodeRuneInStringSlow (s_ : List UInt8) : Option (Int × Int) :=
  if (s_.length : Int) < 1 then
    some (65533, 0)
  else
    (idxS s_ 0).bind fun c9 =>
    (idxL gv_0 c9).bind fun x11 =>
    if x11 ≥ 240 then
      (shlI .i32 (IntKind.i32.wrap x11) 31).bind fun y26 =>
      (shrI y26 .i32 31).bind fun y27 =>
      some (orI .i32 (andNotI .i32 (IntKind.i32.wrap c9) y27) (andI .i32 65533 y27), 1)
    else
      (shrI x11 .u8 4).bind fun y34 =>
      (idxL gv_1 y34).bind fun x35 =>
      if (s_.length : Int) < (IntKind.i64.wrap (andI .u8 x11 7)) then
        some (65533, 1)
      else
        (idxS s_ 1).bind fun c54 =>
        ((
          if c54 < x35.xlo then
            some true
          else
            some (decide (x35.xhi < c54)) : Option (Bool))).bind fun j61 =>
        if (j61) = true then
          some (65533, 1)
        else
          if (IntKind.i64.wrap (andI .u8 x11 7)) ≤ 2 then
            (shlI .i32 (IntKind.i32.wrap (andI .u8 c9 31)) 6).bind fun y76 =>
            some (orI .i32 y76 (IntKind.i32.wrap (andI .u8 c54 63)), 2)
          else
            (idxS s_ 2).bind fun c79 =>
            ((
              if c79 < 128 then
                some true
              else
                some (decide (191 < c79)) : Option (Bool))).bind fun j84 =>
            if (j84) = true then
              some (65533, 1)
            else
              if (IntKind.i64.wrap (andI .u8 x11 7)) ≤ 3 then
                (shlI .i32 (IntKind.i32.wrap (andI .u8 c9 15)) 12).bind fun y101 =>
                (shlI .i32 (IntKind.i32.wrap (andI .u8 c54 63)) 6).bind fun y103 =>
                some (orI .i32 (orI .i32 y101 y103) (IntKind.i32.wrap (andI .u8 c79 63)), 3)
              else
                (idxS s_ 3).bind fun c106 =>
                ((
                  if c106 < 128 then
                    some true
                  else
                    some (decide (191 < c106)) : Option (Bool))).bind fun j111 =>
                if (j111) = true then
                  some (65533, 1)
                else
                  (shlI .i32 (IntKind.i32.wrap (andI .u8 c9 7)) 18).bind fun y119 =>
                  (shlI .i32 (IntKind.i32.wrap (andI .u8 c54 63)) 12).bind fun y121 =>
                  (shlI .i32 (IntKind.i32.wrap (andI .u8 c79 63)) 6).bind fun y123 =>
                  some (orI .i32 (orI .i32 (orI .i32 y119 y121) y123) (IntKind.i32.wrap (andI .u8 c106 63)), 4)
def F_unicode_utf8_DecodeRuneInString (s_ : List UInt8) : Option (Int × Int) :=
  ((
    if (!(s_ == [])) = true then
      (idxS s_ 0).bind fun c5 =>
      some (decide (c5 < 128))
    else
      some false : Option (Bool))).bind fun j6 =>
  if (j6) = true then
    (idxS s_ 0).bind fun c21 =>
    some (IntKind.i32.wrap c21, 1)
  else
    (F_unicode_utf8_decodeRuneInStringSlow s_).bind fun y24 =>
    some (y24.1, y24.2)
def L_fold_Table_1 (s : (List GA3_i64) × Int) : Option (((List GA3_i64) × Int) ⊕ (List GA3_i64)) :=
  if s.2 < 5 then
    (idxL ([(⟨65, 90, 32, 0⟩ : GA4_i64), (⟨192, 222, 32, 215⟩ : GA4_i64), (⟨913, 937, 32, 930⟩ : GA4_i64), (⟨1024, 1039, 80, 0⟩ : GA4_i64), (⟨1040, 1071, 32, 0⟩ : GA4_i64)] : List GA4_i64) s.2).bind fun x149 =>
    (chkLen [0, 0, 0, 0] 4).bind fun _ =>
    (chkLen [x149.x0, x149.x1, x149.x2, x149.x3] 4).bind fun _ =>
    (chkIdx 4 3).bind fun _ =>
    (idxA 4 [x149.x0, x149.x1, x149.x2, x149.x3] 3).bind fun y171 =>
    if (y171 == 0) = true then
      (chkIdx 4 0).bind fun _ =>
      (idxA 4 [x149.x0, x149.x1, x149.x2, x149.x3] 0).bind fun y204 =>
      (chkIdx 4 1).bind fun _ =>
      (idxA 4 [x149.x0, x149.x1, x149.x2, x149.x3] 1).bind fun y208 =>
      (chkIdx 4 2).bind fun _ =>
      (idxA 4 [x149.x0, x149.x1, x149.x2, x149.x3] 2).bind fun y212 =>
      (app s.1 ([(⟨y204, y208, y212⟩ : GA3_i64)] : List GA3_i64)).bind fun zs219 =>
      some (.inl (zs219, IntKind.i64.wrap (s.2 + 1)))
    else
      (chkIdx 4 0).bind fun _ =>
      (idxA 4 [x149.x0, x149.x1, x149.x2, x149.x3] 0).bind fun y230 =>
      (chkIdx 4 3).bind fun _ =>
      (chkIdx 4 2).bind fun _ =>
      (idxA 4 [x149.x0, x149.x1, x149.x2, x149.x3] 2).bind fun y238 =>
      (chkIdx 4 3).bind fun _ =>
      (chkIdx 4 1).bind fun _ =>
      (idxA 4 [x149.x0, x149.x1, x149.x2, x149.x3] 1).bind fun y246 =>
      (chkIdx 4 2).bind fun _ =>
      (app s.1 ([(⟨y230, IntKind.i64.wrap (y171 - 1), y238⟩ : GA3_i64), (⟨IntKind.i64.wrap (y171 + 1), y246, y238⟩ : GA3_i64)] : List GA3_i64)).bind fun zs257 =>
      some (.inl (zs257, IntKind.i64.wrap (s.2 + 1)))
  else
    some (.inr s.1)
def F_fold_Table : Option ((List GA3_i64)) :=
  (iter (L_fold_Table_1) NF (([] : List GA3_i64), 0)).bind fun r267 =>
  some r267
def F_fold_Small_1 (r_ : List Int) (code : Int) : Option (Int) :=
  match r_ with
  | [r_0, r_1, r_2] =>
  (chkIdx 3 1).bind fun _ =>
  (idxA 3 [r_0, r_1, r_2] 1).bind fun y11 =>
  if y11 < code then
    some (-1)
  else
    (chkIdx 3 0).bind fun _ =>
    (idxA 3 [r_0, r_1, r_2] 0).bind fun y29 =>
    if y29 > code then
      some 1
    else
      some 0
  | _ => none
def L_slices_BinarySearchFunc_3_int_3_int_int_20_1 (x_ : List GA3_i64) (target : Int) (s : Int × Int) : Option ((Int × Int) ⊕ Int) :=
  if s.1 < s.2 then
    (shrI (IntKind.u64.wrap (IntKind.i64.wrap (s.1 + s.2))) .u64 1).bind fun y35 =>
    (idxL x_ (IntKind.i64.wrap y35)).bind fun x38 =>
    (F_fold_Small_1 [x38.x0, x38.x1, x38.x2] target).bind fun y44 =>
    if y44 < 0 then
      some (.inl (IntKind.i64.wrap ((IntKind.i64.wrap y35) + 1), s.2))
    else
      some (.inl (s.1, IntKind.i64.wrap y35))
  else
    some (.inr s.1)
def F_slices_BinarySearchFunc_3_int_3_int_int_20 (x_ : List GA3_i64) (target : Int) : Option (Int × Bool) :=
  (iter (L_slices_BinarySearchFunc_3_int_3_int_int_20_1 x_ target) NF (0, (x_.length : Int))).bind fun r53 =>
  ((
    if r53 < (x_.length : Int) then
      (idxL x_ r53).bind fun x59 =>
      (F_fold_Small_1 [x59.x0, x59.x1, x59.x2] target).bind fun y65 =>
      some (y65 == 0)
    else
      some false : Option (Bool))).bind fun j67 =>
  some (r53, j67)
def F_fold_Small (code : Int) : Option (Int) :=
  F_fold_Table.bind fun y2 =>
  (F_slices_BinarySearchFunc_3_int_3_int_int_20 y2 code).bind fun y11 =>
  if (!y11.2) = true then
    some code
  else
    (idxL y2 y11.1).bind fun x23 =>
    some (IntKind.i64.wrap (code + x23.x2))
def F_unicode_utf8_appendRuneNonASCII (p : List Int) (r_ : Int) : Option ((List Int)) :=
  if (IntKind.u32.wrap r_) ≤ 2047 then
    (shrI r_ .i32 6).bind fun y220 =>
    (app p ([orI .u8 192 (IntKind.u8.wrap y220), orI .u8 128 (andI .u8 (IntKind.u8.wrap r_) 63)] : List Int)).bind fun zs229 =>
    some zs229
  else
    ((
      if (IntKind.u32.wrap r_) < 55296 then
        some (decide ((IntKind.u32.wrap r_) < 55296))
      else
        ((
          if 57343 < (IntKind.u32.wrap r_) then
            some (decide ((IntKind.u32.wrap r_) ≤ 65535))
          else
            some false : Option (Bool))).bind fun j241 =>
        some j241 : Option (Bool))).bind fun j244 =>
    if (j244) = true then
      (shrI r_ .i32 12).bind fun y341 =>
      (shrI r_ .i32 6).bind fun y343 =>
      (app p ([orI .u8 224 (IntKind.u8.wrap y341), orI .u8 128 (andI .u8 (IntKind.u8.wrap y343) 63), orI .u8 128 (andI .u8 (IntKind.u8.wrap r_) 63)] : List Int)).bind fun zs352 =>
      some zs352
    else
      ((
        if (IntKind.u32.wrap r_) > 65535 then
          some (decide ((IntKind.u32.wrap r_) ≤ 1114111))
        else
          some false : Option (Bool))).bind fun j362 =>
      if (j362) = true then
        (shrI r_ .i32 18).bind fun y400 =>
        (shrI r_ .i32 12).bind fun y402 =>
        (shrI r_ .i32 6).bind fun y404 =>
        (app p ([orI .u8 240 (IntKind.u8.wrap y400), orI .u8 128 (andI .u8 (IntKind.u8.wrap y402) 63), orI .u8 128 (andI .u8 (IntKind.u8.wrap y404) 63), orI .u8 128 (andI .u8 (IntKind.u8.wrap r_) 63)] : List Int)).bind fun zs413 =>
        some zs413
      else
        (app p ([239, 191, 189] : List Int)).bind fun zs426 =>
        some zs426
def F_unicode_utf8_AppendRune (p : List Int) (r_ : Int) : Option ((List Int)) :=
  if (IntKind.u32.wrap r_) ≤ 127 then
    (app p ([IntKind.u8.wrap r_] : List Int)).bind fun zs27 =>
    some zs27
  else
    (F_unicode_utf8_appendRuneNonASCII p r_).bind fun y34 =>
    some y34
def L_fold_Fold_1 (s_ : List UInt8) (s : (List UInt8) × Int) : Option (((List UInt8) × Int) ⊕ (List UInt8)) :=
  if s.2 < (s_.length : Int) then
    (subS s_ s.2 s_.length).bind fun s66 =>
    (F_unicode_utf8_DecodeRuneInString s66).bind fun y67 =>
    (F_fold_Small (IntKind.i64.wrap y67.1)).bind fun y75 =>
    ((
      if (y75 != (IntKind.i64.wrap y67.1)) = true then
        (F_unicode_utf8_AppendRune (s.1.map fun b => (b.toNat : Int)) (IntKind.i32.wrap y75)).bind fun y82 =>
        (runeOf s.1 y82).bind fun b83 =>
        some b83
      else
        (subS s_ s.2 (IntKind.i64.wrap (s.2 + y67.2))).bind fun s91 =>
        (app s.1 s91).bind fun b92 =>
        some b92 : Option ((List UInt8)))).bind fun j100 =>
    some (.inl (j100, IntKind.i64.wrap (s.2 + y67.2)))
  else
    some (.inr s.1)
def F_fold_Fold (s_ : List UInt8) : Option ((List UInt8)) :=
  (iter (L_fold_Fold_1 s_) NF (([] : List UInt8), 0)).bind fun r108 =>
  (chkCap r108).bind fun _ =>
  some r108
def F_fold_Alike (a : List UInt8) (b : List UInt8) : Option (Bool) :=
  (F_fold_Fold a).bind fun y2 =>
  (F_fold_Fold b).bind fun y8 =>
  some (y2 == y8)
def F_law14_awake : Option (Bool) :=
  ((
    (F_fold_Fold [65, 195, 169, 47, 195, 137]).bind fun y2 =>
    if (y2 == [97, 195, 169, 47, 195, 169]) = true then
      (F_fold_Small 90).bind fun y11 =>
      if (y11 == 122) = true then
        (F_fold_Alike [65, 66] [97, 98]).bind fun y16 =>
        if (y16) = true then
          (F_fold_Alike [97] [98]).bind fun y25 =>
          if (!y25) = true then
            F_fold_Table.bind fun y34 =>
            some (decide ((y34.length : Int) > 0))
          else
            some false
        else
          some false
      else
        some false
    else
      some false : Option (Bool))).bind fun j43 =>
  some j43
def F_ref13_long (c : Int) : Option (Int × Int) :=
  if c < 128 then
    some (1, IntKind.i64.wrap c)
  else
    ((
      if c ≥ 192 then
        some (decide (c < 224))
      else
        some false : Option (Bool))).bind fun j12 =>
    if (j12) = true then
      some (2, IntKind.i64.wrap ((IntKind.i64.wrap c) - 192))
    else
      ((
        if c ≥ 224 then
          some (decide (c < 240))
        else
          some false : Option (Bool))).bind fun j24 =>
      if (j24) = true then
        some (3, IntKind.i64.wrap ((IntKind.i64.wrap c) - 224))
      else
        ((
          if c ≥ 240 then
            some (decide (c < 248))
          else
            some false : Option (Bool))).bind fun j36 =>
        if (j36) = true then
          some (4, IntKind.i64.wrap ((IntKind.i64.wrap c) - 240))
        else
          some (0, 0)
def L_ref13_Next_1 (y3 : Int × Int) (s_ : List UInt8) (at_ : Int) (s : Int × Int) : Option ((Int × Int) ⊕ (Int ⊕ Unit)) :=
  if s.2 < y3.1 then
    ((
      (idxS s_ (IntKind.i64.wrap (at_ + s.2))).bind fun c44 =>
      if c44 < 128 then
        some true
      else
        some (decide (c44 ≥ 192)) : Option (Bool))).bind fun j49 =>
    if (j49) = true then
      some (.inr (.inr ()))
    else
      (idxS s_ (IntKind.i64.wrap (at_ + s.2))).bind fun c56 =>
      some (.inl (IntKind.i64.wrap ((IntKind.i64.wrap ((IntKind.i64.wrap (64 * s.1)) + (IntKind.i64.wrap c56))) - 128), IntKind.i64.wrap (s.2 + 1)))
  else
    some (.inr (.inl s.1))
def F_ref13_Next (s_ : List UInt8) (at_ : Int) : Option (Int × Int) :=
  (idxS s_ at_).bind fun c2 =>
  (F_ref13_long c2).bind fun y3 =>
  ((
    if (y3.1 == 0) = true then
      some true
    else
      some (decide ((IntKind.i64.wrap (at_ + y3.1)) > (s_.length : Int))) : Option (Bool))).bind fun j10 =>
  if (j10) = true then
    some (0, 0)
  else
    (iter (L_ref13_Next_1 y3 s_ at_) NF (y3.2, 1)).bind fun r60 =>
    sumK r60 (fun t61 =>
      (idxL ([0, 0, 128, 2048, 65536] : List Int) y3.1).bind fun x73 =>
      ((
        if t61 < x73 then
          some true
        else
          if t61 > 1114111 then
            some true
          else
            if t61 ≥ 55296 then
              some (decide (t61 < 57344))
            else
              some false : Option (Bool))).bind fun j89 =>
      if (j89) = true then
        some (0, 0)
      else
        some (t61, y3.1)) fun t64 =>
    some (0, 0)
def F_ref14_Small (c : Int) : Option (Int) :=
  ((
    if c ≥ 65 then
      if c ≤ 90 then
        some true
      else
        if c ≥ 192 then
          if c ≤ 222 then
            if (c != 215) = true then
              some true
            else
              if c ≥ 913 then
                if c ≤ 937 then
                  if (c != 930) = true then
                    some true
                  else
                    if c ≥ 1040 then
                      some (decide (c ≤ 1071))
                    else
                      some false
                else
                  if c ≥ 1040 then
                    some (decide (c ≤ 1071))
                  else
                    some false
              else
                if c ≥ 1040 then
                  some (decide (c ≤ 1071))
                else
                  some false
          else
            if c ≥ 913 then
              if c ≤ 937 then
                if (c != 930) = true then
                  some true
                else
                  if c ≥ 1040 then
                    some (decide (c ≤ 1071))
                  else
                    some false
              else
                if c ≥ 1040 then
                  some (decide (c ≤ 1071))
                else
                  some false
            else
              if c ≥ 1040 then
                some (decide (c ≤ 1071))
              else
                some false
        else
          if c ≥ 913 then
            if c ≤ 937 then
              if (c != 930) = true then
                some true
              else
                if c ≥ 1040 then
                  some (decide (c ≤ 1071))
                else
                  some false
            else
              if c ≥ 1040 then
                some (decide (c ≤ 1071))
              else
                some false
          else
            if c ≥ 1040 then
              some (decide (c ≤ 1071))
            else
              some false
    else
      if c ≥ 192 then
        if c ≤ 222 then
          if (c != 215) = true then
            some true
          else
            if c ≥ 913 then
              if c ≤ 937 then
                if (c != 930) = true then
                  some true
                else
                  if c ≥ 1040 then
                    some (decide (c ≤ 1071))
                  else
                    some false
              else
                if c ≥ 1040 then
                  some (decide (c ≤ 1071))
                else
                  some false
            else
              if c ≥ 1040 then
                some (decide (c ≤ 1071))
              else
                some false
        else
          if c ≥ 913 then
            if c ≤ 937 then
              if (c != 930) = true then
                some true
              else
                if c ≥ 1040 then
                  some (decide (c ≤ 1071))
                else
                  some false
            else
              if c ≥ 1040 then
                some (decide (c ≤ 1071))
              else
                some false
          else
            if c ≥ 1040 then
              some (decide (c ≤ 1071))
            else
              some false
      else
        if c ≥ 913 then
          if c ≤ 937 then
            if (c != 930) = true then
              some true
            else
              if c ≥ 1040 then
                some (decide (c ≤ 1071))
              else
                some false
          else
            if c ≥ 1040 then
              some (decide (c ≤ 1071))
            else
              some false
        else
          if c ≥ 1040 then
            some (decide (c ≤ 1071))
          else
            some false : Option (Bool))).bind fun j134 =>
  if (j134) = true then
    some (IntKind.i64.wrap (c + 32))
  else
    ((
      if c ≥ 1024 then
        some (decide (c ≤ 1039))
      else
        some false : Option (Bool))).bind fun j144 =>
    if (j144) = true then
      some (IntKind.i64.wrap (c + 80))
    else
      some c
def F_ref14_utf8 (c : Int) : Option ((List UInt8)) :=
  if c < 128 then
    some [byt (IntKind.u8.wrap c)]
  else
    (quoI .i64 c 64).bind fun y23 =>
    (remI c 64).bind fun y25 =>
    some [byt (IntKind.u8.wrap (IntKind.i64.wrap (192 + y23))), byt (IntKind.u8.wrap (IntKind.i64.wrap (128 + y25)))]
def L_ref14_Fold_1 (s_ : List UInt8) (s : (List UInt8) × Int) : Option (((List UInt8) × Int) ⊕ (List UInt8)) :=
  if s.2 < (s_.length : Int) then
    (F_ref13_Next s_ s.2).bind fun y47 =>
    if (y47.2 == 0) = true then
      (subS s_ s.2 (IntKind.i64.wrap (s.2 + 1))).bind fun s57 =>
      (cat s.1 s57).bind fun s58 =>
      some (.inl (s58, IntKind.i64.wrap (s.2 + 1)))
    else
      (F_ref14_Small y47.1).bind fun y61 =>
      ((
        if (y61 == y47.1) = true then
          (subS s_ s.2 (IntKind.i64.wrap (s.2 + y47.2))).bind fun s65 =>
          (cat s.1 s65).bind fun s66 =>
          some s66
        else
          (F_ref14_utf8 y61).bind fun y70 =>
          (cat s.1 y70).bind fun s72 =>
          some s72 : Option ((List UInt8)))).bind fun j74 =>
      some (.inl (j74, IntKind.i64.wrap (s.2 + y47.2)))
  else
    some (.inr s.1)
def F_ref14_Fold (s_ : List UInt8) : Option ((List UInt8)) :=
  (iter (L_ref14_Fold_1 s_) NF ([], 0)).bind fun r78 =>
  some r78
def F_law14_FoldTexts (s_ : List UInt8) : Option (Bool) :=
  F_law14_awake.bind fun y2 =>
  if (!y2) = true then
    some false
  else
    if (s_.length : Int) > 200 then
      some true
    else
      (F_fold_Fold s_).bind fun y19 =>
      ((
        (F_ref14_Fold s_).bind fun y26 =>
        if (y19 == y26) = true then
          (F_fold_Fold y19).bind fun y31 =>
          if (y31 == y19) = true then
            (F_fold_Alike s_ y19).bind fun y40 =>
            some y40
          else
            some false
        else
          some false : Option (Bool))).bind fun j46 =>
      some j46
def L_law14_FoldSmall_1 (y24 : (List GA3_i64)) (c : Int) (s : Int × Int × Int) : Option ((Int × Int × Int) ⊕ (Int ⊕ Unit)) :=
  if s.2.2 < (y24.length : Int) then
    (idxL y24 s.2.2).bind fun x125 =>
    (chkLen [0, 0, 0] 3).bind fun _ =>
    (chkLen [x125.x0, x125.x1, x125.x2] 3).bind fun _ =>
    ((
      (chkIdx 3 0).bind fun _ =>
      (idxA 3 [x125.x0, x125.x1, x125.x2] 0).bind fun y147 =>
      if y147 ≤ s.2.1 then
        some true
      else
        (chkIdx 3 1).bind fun _ =>
        (idxA 3 [x125.x0, x125.x1, x125.x2] 1).bind fun y154 =>
        (chkIdx 3 0).bind fun _ =>
        if y154 < y147 then
          some true
        else
          (chkIdx 3 2).bind fun _ =>
          (idxA 3 [x125.x0, x125.x1, x125.x2] 2).bind fun y165 =>
          some (y165 == 0) : Option (Bool))).bind fun j166 =>
    if (j166) = true then
      some (.inr (.inr ()))
    else
      (chkIdx 3 1).bind fun _ =>
      (idxA 3 [x125.x0, x125.x1, x125.x2] 1).bind fun y176 =>
      ((
        (chkIdx 3 0).bind fun _ =>
        (idxA 3 [x125.x0, x125.x1, x125.x2] 0).bind fun y181 =>
        if c ≥ y181 then
          (chkIdx 3 1).bind fun _ =>
          some (decide (c ≤ y176))
        else
          some false : Option (Bool))).bind fun j189 =>
      if (j189) = true then
        (chkIdx 3 2).bind fun _ =>
        (idxA 3 [x125.x0, x125.x1, x125.x2] 2).bind fun y202 =>
        some (.inl (y202, y176, IntKind.i64.wrap (s.2.2 + 1)))
      else
        some (.inl (s.1, y176, IntKind.i64.wrap (s.2.2 + 1)))
  else
    some (.inr (.inl s.1))
def F_law14_FoldSmall (c : Int) : Option (Bool) :=
  F_law14_awake.bind fun y2 =>
  if (!y2) = true then
    some false
  else
    (F_fold_Small c).bind fun y13 =>
    (F_ref14_Small c).bind fun y16 =>
    if (y13 != y16) = true then
      some false
    else
      F_fold_Table.bind fun y24 =>
      (iter (L_law14_FoldSmall_1 y24 c) NF (0, (-1), 0)).bind fun r206 =>
      sumK r206 (fun t207 =>
        some ((IntKind.i64.wrap (y13 - c)) == t207)) fun t210 =>
      some false
def F_law14_FoldJoined (a : List UInt8) (b : List UInt8) : Option (Bool) :=
  F_law14_awake.bind fun y2 =>
  if (!y2) = true then
    some false
  else
    ((
      if (a.length : Int) > 100 then
        some true
      else
        some (decide ((b.length : Int) > 100)) : Option (Bool))).bind fun j18 =>
    if (j18) = true then
      some true
    else
      (F_fold_Alike a b).bind fun y25 =>
      (F_ref14_Fold a).bind fun y31 =>
      (F_ref14_Fold b).bind fun y33 =>
      if (!(y25 == (y31 == y33))) = true then
        some false
      else
        (cat b [47]).bind fun s40 =>
        (cat s40 a).bind fun s41 =>
        (F_fold_Fold b).bind fun y42 =>
        (cat y42 [47]).bind fun s48 =>
        (F_fold_Fold a).bind fun y49 =>
        (cat s48 y49).bind fun s55 =>
        (F_fold_Alike s41 s55).bind fun y56 =>
        some y56
end Go.Proofs.YtikkpmmhejjpaaaDoorM

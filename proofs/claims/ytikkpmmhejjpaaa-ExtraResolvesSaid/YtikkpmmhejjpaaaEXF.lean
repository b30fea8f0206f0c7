/- Plain functions that say what the program's functions compute: printed by lift.py. -/
import Derived.Test.YtikkpmmhejjpaaaBL
set_option linter.unusedSimpArgs false
set_option linter.unusedVariables false
namespace Go.Proofs.YtikkpmmhejjpaaaM
open Go Go.RowKit
structure Gapi_Extra where
  xID : Int
  xData : List UInt8
  deriving DecidableEq, Inhabited
def Gapi_Extra.cells (x : Gapi_Extra) : List AV := [.int .i64 x.xID, .str x.xData]
def F_field_Cut (s_ : List UInt8) (at_ : Int) (n_ : Int) : Option ((List UInt8) × Int) :=
  ((
    if at_ < 0 then
      some true
    else
      if n_ < 0 then
        some true
      else
        if at_ > (s_.length : Int) then
          some true
        else
          some (decide (n_ > (IntKind.i64.wrap ((s_.length : Int) - at_)))) : Option (Bool))).bind fun j13 =>
  if (j13) = true then
    some ([], 3)
  else
    (subS s_ at_ (IntKind.i64.wrap (at_ + n_))).bind fun s20 =>
    some (s20, 0)
def L_field_number_1 (y2 : (List UInt8) × Int) (s : Int × Int) : Option ((Int × Int) ⊕ Int) :=
  if s.2 < (y2.1.length : Int) then
    (idxS y2.1 s.2).bind fun c25 =>
    (shlI .u64 (IntKind.u64.wrap c25) (IntKind.i64.wrap (8 * s.2))).bind fun y27 =>
    some (.inl (orI .u64 s.1 y27, IntKind.i64.wrap (s.2 + 1)))
  else
    some (.inr s.1)
def F_field_number (s_ : List UInt8) (at_ : Int) (n_ : Int) : Option (Int × Int) :=
  (F_field_Cut s_ at_ n_).bind fun y2 =>
  (iter (L_field_number_1 y2) NF (0, 0)).bind fun r30 =>
  some (r30, y2.2)
def F_field_U32 (s_ : List UInt8) (at_ : Int) : Option (Int × Int) :=
  (F_field_number s_ at_ 4).bind fun y2 =>
  some (IntKind.i64.wrap y2.1, y2.2)
def L_field_put_1 (zs2 : List Int) (v : Int) (s : (List Int) × Int) : Option (((List Int) × Int) ⊕ (List Int)) :=
  if s.2 < (zs2.length : Int) then
    (shrI v .u64 (IntKind.i64.wrap (8 * s.2))).bind fun y38 =>
    (idxL s.1 s.2).bind fun x40 =>
    (setL s.1 s.2 (IntKind.u8.wrap y38)).bind fun y48 =>
    some (.inl (y48, IntKind.i64.wrap (s.2 + 1)))
  else
    some (.inr s.1)
def F_field_put (v : Int) (n_ : Int) : Option ((List UInt8)) :=
  (mkL (0 : Int) n_).bind fun zs2 =>
  (iter (L_field_put_1 zs2 v) NF (zs2, 0)).bind fun r52 =>
  some (r52.map byt)
def F_field_P32 (n_ : Int) : Option ((List UInt8)) :=
  (F_field_put (IntKind.u64.wrap n_) 4).bind fun y3 =>
  some y3
def F_ref02_Cut (s_ : List UInt8) (at_ : Int) (n_ : Int) : Option ((List UInt8) × Int) :=
  ((
    if at_ < 0 then
      some true
    else
      if n_ < 0 then
        some true
      else
        if at_ > (s_.length : Int) then
          some true
        else
          some (decide (n_ > (IntKind.i64.wrap ((s_.length : Int) - at_)))) : Option (Bool))).bind fun j13 =>
  if (j13) = true then
    some ([], 3)
  else
    (subS s_ at_ (IntKind.i64.wrap (at_ + n_))).bind fun s20 =>
    some (s20, 0)
def L_ref02_Num_1 (y2 : (List UInt8) × Int) (s : Int × Int) : Option ((Int × Int) ⊕ Int) :=
  if s.2 ≥ 0 then
    (idxS y2.1 s.2).bind fun c22 =>
    some (.inl (IntKind.u64.wrap ((IntKind.u64.wrap (256 * s.1)) + (IntKind.u64.wrap c22)), IntKind.i64.wrap (s.2 - 1)))
  else
    some (.inr s.1)
def F_ref02_Num (s_ : List UInt8) (at_ : Int) (n_ : Int) : Option (Int × Int) :=
  (F_ref02_Cut s_ at_ n_).bind fun y2 =>
  (iter (L_ref02_Num_1 y2) NF (0, IntKind.i64.wrap ((y2.1.length : Int) - 1))).bind fun r26 =>
  some (r26, y2.2)
def F_ref02_U16 (s_ : List UInt8) (at_ : Int) : Option (Int) :=
  (F_ref02_Num s_ at_ 2).bind fun y2 =>
  some (IntKind.i64.wrap y2.1)
def F_ref02_U32 (s_ : List UInt8) (at_ : Int) : Option (Int) :=
  (F_ref02_Num s_ at_ 4).bind fun y2 =>
  some (IntKind.i64.wrap y2.1)
def F_field_P64 (n_ : Int) : Option ((List UInt8)) :=
  (F_field_put n_ 8).bind fun y2 =>
  some y2
def L_extra_Wide_1 (n_ : List Int) (s : (List UInt8) × Int) : Option (((List UInt8) × Int) ⊕ (List UInt8)) :=
  if s.2 < (n_.length : Int) then
    (idxL n_ s.2).bind fun x50 =>
    (F_field_P64 (IntKind.u64.wrap x50)).bind fun y58 =>
    (app s.1 y58).bind fun b60 =>
    some (.inl (b60, IntKind.i64.wrap (s.2 + 1)))
  else
    some (.inr s.1)
def F_extra_Wide (n_ : List Int) : Option (Gapi_Extra) :=
  (iter (L_extra_Wide_1 n_) NF (([] : List UInt8), 0)).bind fun r71 =>
  (chkCap r71).bind fun _ =>
  some (⟨1, r71⟩ : Gapi_Extra)
def F_field_P16 (n_ : Int) : Option ((List UInt8)) :=
  (F_field_put (IntKind.u64.wrap n_) 2).bind fun y3 =>
  some y3
def L_extra_Put_1 (l : List Gapi_Extra) (s : (List UInt8) × Int) : Option (((List UInt8) × Int) ⊕ ((List UInt8) ⊕ Unit)) :=
  if s.2 < (l.length : Int) then
    (idxL l s.2).bind fun x78 =>
    ((
      if x78.xID < 0 then
        some true
      else
        if x78.xID > 65535 then
          some true
        else
          some (decide ((x78.xData.length : Int) > 65535)) : Option (Bool))).bind fun j105 =>
    if (j105) = true then
      some (.inr (.inr ()))
    else
      (F_field_P16 x78.xID).bind fun y113 =>
      (F_field_P16 (x78.xData.length : Int)).bind fun y117 =>
      (cat y113 y117).bind fun s119 =>
      (cat s119 x78.xData).bind fun s121 =>
      (app s.1 s121).bind fun b122 =>
      some (.inl (b122, IntKind.i64.wrap (s.2 + 1)))
  else
    some (.inr (.inl s.1))
def F_extra_Put (l : List Gapi_Extra) : Option ((List UInt8) × Int) :=
  (iter (L_extra_Put_1 l) NF (([] : List UInt8), 0)).bind fun r133 =>
  sumK r133 (fun t134 =>
    if (t134.length : Int) > 65535 then
      some ([], 7)
    else
      (chkCap t134).bind fun _ =>
      some (t134, 0)) fun t139 =>
  some ([], 1)
def F_field_U16 (s_ : List UInt8) (at_ : Int) : Option (Int × Int) :=
  (F_field_number s_ at_ 2).bind fun y2 =>
  some (IntKind.i64.wrap y2.1, y2.2)
def L_extra_Parse_1 (s_ : List UInt8) (s : (List Gapi_Extra) × Int) : Option (((List Gapi_Extra) × Int) ⊕ ((List Gapi_Extra) ⊕ Unit)) :=
  if s.2 < (s_.length : Int) then
    (F_field_U16 s_ s.2).bind fun y57 =>
    (F_field_U16 s_ (IntKind.i64.wrap (s.2 + 2))).bind fun y60 =>
    (F_field_Cut s_ (IntKind.i64.wrap (s.2 + 4)) y60.1).bind fun y63 =>
    ((
      if (y60.2 != 0) = true then
        some true
      else
        some (y63.2 != 0) : Option (Bool))).bind fun j69 =>
    if (j69) = true then
      some (.inr (.inr ()))
    else
      (app s.1 ([(⟨y57.1, y63.1⟩ : Gapi_Extra)] : List Gapi_Extra)).bind fun zs82 =>
      some (.inl (zs82, IntKind.i64.wrap (s.2 + (IntKind.i64.wrap (4 + y60.1)))))
  else
    some (.inr (.inl s.1))
def F_extra_Parse (s_ : List UInt8) : Option ((List Gapi_Extra) × Int) :=
  (iter (L_extra_Parse_1 s_) NF (([] : List Gapi_Extra), 0)).bind fun r92 =>
  sumK r92 (fun t93 =>
    some (t93, 0)) fun t97 =>
  some (([] : List Gapi_Extra), 2)
def L_extra_Find_1 (l : List Gapi_Extra) (id_ : Int) (s : Int) : Option (Int ⊕ (Unit ⊕ (List UInt8))) :=
  if s < (l.length : Int) then
    (idxL l s).bind fun x40 =>
    if (x40.xID == id_) = true then
      some (.inr (.inr x40.xData))
    else
      some (.inl (IntKind.i64.wrap (s + 1)))
  else
    some (.inr (.inl ()))
def F_extra_Find (l : List Gapi_Extra) (id_ : Int) : Option ((List UInt8) × Bool) :=
  (iter (L_extra_Find_1 l id_) NF 0).bind fun r66 =>
  sumK r66 (fun t67 =>
    some ([], false)) fun t70 =>
  some (t70, true)
def F_field_U64 (s_ : List UInt8) (at_ : Int) : Option (Int × Int) :=
  (F_field_number s_ at_ 8).bind fun y2 =>
  some (y2.1, y2.2)
def L_extra_Resolve_1 (n_0 : Int) (n_1 : Int) (n_2 : Int) (y14 : (List UInt8) × Bool) (s : (List Int) × Int × Int × Int) : Option (((List Int) × Int × Int × Int) ⊕ (((List Int) × Int) ⊕ Unit)) :=
  if s.2.2.2 < 3 then
    (chkIdx 3 s.2.2.2).bind fun _ =>
    (idxA 3 [n_0, n_1, n_2] s.2.2.2).bind fun y99 =>
    if (y99 != 4294967295) = true then
      some (.inl (s.1, s.2.1, s.2.2.1, IntKind.i64.wrap (s.2.2.2 + 1)))
    else
      (F_field_U64 y14.1 s.2.1).bind fun y105 =>
      if (y105.2 != 0) = true then
        (chkLen [0, 0, 0] 3).bind fun _ =>
        (chkLen [0, 0, 0] 3).bind fun _ =>
        some (.inr (.inr ()))
      else
        ((
          if y105.1 > 1099511627776 then
            some 7
          else
            some s.2.2.1 : Option (Int))).bind fun j128 =>
        (chkIdx 3 s.2.2.2).bind fun _ =>
        (setA 3 s.1 s.2.2.2 (IntKind.i64.wrap y105.1)).bind fun y137 =>
        some (.inl (y137, IntKind.i64.wrap (s.2.1 + 8), j128, IntKind.i64.wrap (s.2.2.2 + 1)))
  else
    some (.inr (.inl (s.1, s.2.2.1)))
def F_extra_Resolve (l : List Gapi_Extra) (n_ : List Int) : Option ((List Int) × Int) :=
  match n_ with
  | [n_0, n_1, n_2] =>
  (F_extra_Find l 1).bind fun y14 =>
  (chkLen [n_0, n_1, n_2] 3).bind fun _ =>
  (chkLen [0, 0, 0] 3).bind fun _ =>
  (chkLen [n_0, n_1, n_2] 3).bind fun _ =>
  (iter (L_extra_Resolve_1 n_0 n_1 n_2 y14) NF ([n_0, n_1, n_2], 0, 0, 0)).bind fun r142 =>
  sumK r142 (fun t143 =>
    if (t143.2 != 0) = true then
      (chkLen [0, 0, 0] 3).bind fun _ =>
      (chkLen [0, 0, 0] 3).bind fun _ =>
      (chkLen [0, 0, 0] 3).bind fun _ =>
      some ([0, 0, 0], t143.2)
    else
      (chkLen t143.1 3).bind fun _ =>
      (chkLen [0, 0, 0] 3).bind fun _ =>
      (chkLen t143.1 3).bind fun _ =>
      (chkLen t143.1 3).bind fun _ =>
      some (t143.1, 0)) fun t146 =>
  (chkLen [0, 0, 0] 3).bind fun _ =>
  some ([0, 0, 0], 2)
  | _ => none
def F_law17_awake : Option (Bool) :=
  (F_extra_Wide ([5, 6] : List Int)).bind fun y8 =>
  (F_extra_Put ([(⟨9, [120]⟩ : Gapi_Extra), y8] : List Gapi_Extra)).bind fun y21 =>
  (F_extra_Parse y21.1).bind fun y28 =>
  (F_extra_Resolve y28.1 [4294967295, 7, 4294967295]).bind fun y37 =>
  (chkLen [0, 0, 0] 3).bind fun _ =>
  (chkLen y37.1 3).bind fun _ =>
  (F_extra_Parse [1]).bind fun y56 =>
  ((
    if (y21.2 == 0) = true then
      if ((y21.1.length : Int) == 25) = true then
        if (y28.2 == 0) = true then
          if ((y28.1.length : Int) == 2) = true then
            (chkLen y37.1 3).bind fun _ =>
            (lit3 y37.1).bind fun l80 =>
            if ((l80.1 == 5 && (l80.2.1 == 7 && (l80.2.2 == 6)))) = true then
              if (y37.2 == 0) = true then
                some (y56.2 == 2)
              else
                some false
            else
              some false
          else
            some false
        else
          some false
      else
        some false
    else
      some false : Option (Bool))).bind fun j88 =>
  some j88
def L_ref02_Put_1 (n_ : Int) (s : Int × (List Int) × Int) : Option ((Int × (List Int) × Int) ⊕ (List Int)) :=
  if s.2.2 < n_ then
    (remI s.1 256).bind fun y40 =>
    (app s.2.1 ([IntKind.u8.wrap y40] : List Int)).bind fun zs48 =>
    (quoI .u64 s.1 256).bind fun y55 =>
    some (.inl (y55, zs48, IntKind.i64.wrap (s.2.2 + 1)))
  else
    some (.inr s.2.1)
def F_ref02_Put (v : Int) (n_ : Int) : Option ((List UInt8)) :=
  (iter (L_ref02_Put_1 n_) NF (v, ([] : List Int), 0)).bind fun r60 =>
  some (r60.map byt)
def L_ref17_Put_1 (l : List Gapi_Extra) (s : (List UInt8) × Int) : Option (((List UInt8) × Int) ⊕ ((List UInt8) ⊕ Unit)) :=
  if s.2 < (l.length : Int) then
    ((
      (idxL l s.2).bind fun x78 =>
      if x78.xID < 0 then
        some true
      else
        if x78.xID > 65535 then
          some true
        else
          some (decide ((x78.xData.length : Int) > 65535)) : Option (Bool))).bind fun j103 =>
    if (j103) = true then
      some (.inr (.inr ()))
    else
      (idxL l s.2).bind fun x110 =>
      (F_ref02_Put (IntKind.u64.wrap x110.xID) 2).bind fun y117 =>
      (cat s.1 y117).bind fun s119 =>
      (F_ref02_Put (IntKind.u64.wrap (x110.xData.length : Int)) 2).bind fun y128 =>
      (cat s119 y128).bind fun s130 =>
      (cat s130 x110.xData).bind fun s137 =>
      some (.inl (s137, IntKind.i64.wrap (s.2 + 1)))
  else
    some (.inr (.inl s.1))
def F_ref17_Put (l : List Gapi_Extra) : Option ((List UInt8) × Int) :=
  (iter (L_ref17_Put_1 l) NF ([], 0)).bind fun r140 =>
  sumK r140 (fun t141 =>
    if (t141.length : Int) > 65535 then
      some ([], 7)
    else
      some (t141, 0)) fun t144 =>
  some ([], 1)
def L_law17_same_1 (a : List Gapi_Extra) (b : List Gapi_Extra) (s : Int) : Option (Int ⊕ (Unit ⊕ Unit)) :=
  if s < (a.length : Int) then
    (idxL a s).bind fun x41 =>
    (idxL b s).bind fun x47 =>
    if (!(x41.xID == x47.xID && (x41.xData == x47.xData))) = true then
      some (.inr (.inr ()))
    else
      some (.inl (IntKind.i64.wrap (s + 1)))
  else
    some (.inr (.inl ()))
def F_law17_same (a : List Gapi_Extra) (b : List Gapi_Extra) : Option (Bool) :=
  if ((a.length : Int) != (b.length : Int)) = true then
    some false
  else
    (iter (L_law17_same_1 a b) NF 0).bind fun r59 =>
    sumK r59 (fun t60 =>
      some true) fun t63 =>
    some false
def L_law17_ExtraBack_1 (l : List Gapi_Extra) (s : Int) : Option (Int ⊕ (Unit ⊕ Unit)) :=
  if s < (l.length : Int) then
    (idxL l s).bind fun x56 =>
    if (x56.xData.length : Int) > 100 then
      some (.inr (.inr ()))
    else
      some (.inl (IntKind.i64.wrap (s + 1)))
  else
    some (.inr (.inl ()))
def F_law17_ExtraBack (l : List Gapi_Extra) : Option (Bool) :=
  F_law17_awake.bind fun y2 =>
  if (!y2) = true then
    some false
  else
    if (l.length : Int) > 20 then
      some true
    else
      (iter (L_law17_ExtraBack_1 l) NF 0).bind fun r81 =>
      sumK r81 (fun t82 =>
        (F_extra_Put l).bind fun y88 =>
        (F_ref17_Put l).bind fun y95 =>
        ((
          if (!(y88.1 == y95.1)) = true then
            some true
          else
            some (y88.2 != y95.2) : Option (Bool))).bind fun j105 =>
        if (j105) = true then
          some false
        else
          if (y95.2 != 0) = true then
            some true
          else
            (F_extra_Parse y88.1).bind fun y117 =>
            ((
              if (y117.2 == 0) = true then
                (F_law17_same y117.1 l).bind fun y129 =>
                some y129
              else
                some false : Option (Bool))).bind fun j135 =>
            some j135) fun t85 =>
      some true
def L_ref17_Find_1 (l : List Gapi_Extra) (id_ : Int) (s : Int) : Option (Int ⊕ (Unit ⊕ (List UInt8))) :=
  if s < (l.length : Int) then
    (idxL l s).bind fun x39 =>
    if (x39.xID == id_) = true then
      some (.inr (.inr x39.xData))
    else
      some (.inl (IntKind.i64.wrap (s + 1)))
  else
    some (.inr (.inl ()))
def F_ref17_Find (l : List Gapi_Extra) (id_ : Int) : Option ((List UInt8) × Bool) :=
  (iter (L_ref17_Find_1 l id_) NF 0).bind fun r63 =>
  sumK r63 (fun t64 =>
    some ([], false)) fun t67 =>
  some (t67, true)
def L_ref17_Resolve_1 (y14 : (List UInt8) × Bool) (s : (List Int) × Int × Bool × Int) : Option (((List Int) × Int × Bool × Int) ⊕ (((List Int) × Bool) ⊕ Unit)) :=
  if s.2.2.2 < 3 then
    (chkIdx 3 s.2.2.2).bind fun _ =>
    (idxA 3 s.1 s.2.2.2).bind fun y77 =>
    if (y77 != 4294967295) = true then
      some (.inl (s.1, s.2.1, s.2.2.1, IntKind.i64.wrap (s.2.2.2 + 1)))
    else
      (F_ref02_Num y14.1 s.2.1 8).bind fun y83 =>
      if (y83.2 != 0) = true then
        (chkLen [0, 0, 0] 3).bind fun _ =>
        (chkLen [0, 0, 0] 3).bind fun _ =>
        some (.inr (.inr ()))
      else
        ((
          if (s.2.2.1) = true then
            some true
          else
            some (decide (y83.1 > 1099511627776)) : Option (Bool))).bind fun j107 =>
        (chkIdx 3 s.2.2.2).bind fun _ =>
        (setA 3 s.1 s.2.2.2 (IntKind.i64.wrap y83.1)).bind fun y116 =>
        some (.inl (y116, IntKind.i64.wrap (s.2.1 + 8), j107, IntKind.i64.wrap (s.2.2.2 + 1)))
  else
    some (.inr (.inl (s.1, s.2.2.1)))
def F_ref17_Resolve (l : List Gapi_Extra) (n_ : List Int) : Option ((List Int) × Int) :=
  match n_ with
  | [n_0, n_1, n_2] =>
  (F_ref17_Find l 1).bind fun y14 =>
  (iter (L_ref17_Resolve_1 y14) NF ([n_0, n_1, n_2], 0, false, 0)).bind fun r120 =>
  sumK r120 (fun t121 =>
    if (t121.2) = true then
      (chkLen [0, 0, 0] 3).bind fun _ =>
      (chkLen [0, 0, 0] 3).bind fun _ =>
      (chkLen [0, 0, 0] 3).bind fun _ =>
      some ([0, 0, 0], 7)
    else
      (chkLen t121.1 3).bind fun _ =>
      (chkLen [0, 0, 0] 3).bind fun _ =>
      (chkLen t121.1 3).bind fun _ =>
      (chkLen t121.1 3).bind fun _ =>
      some (t121.1, 0)) fun t124 =>
  (chkLen [0, 0, 0] 3).bind fun _ =>
  some ([0, 0, 0], 2)
  | _ => none
def L_ref17_Wide_1 (n_ : List Int) (s : (List UInt8) × Int) : Option (((List UInt8) × Int) ⊕ (List UInt8)) :=
  if s.2 < (n_.length : Int) then
    (idxL n_ s.2).bind fun x34 =>
    (F_ref02_Put (IntKind.u64.wrap x34) 8).bind fun y41 =>
    (cat s.1 y41).bind fun s43 =>
    some (.inl (s43, IntKind.i64.wrap (s.2 + 1)))
  else
    some (.inr s.1)
def F_ref17_Wide (n_ : List Int) : Option (Gapi_Extra) :=
  (iter (L_ref17_Wide_1 n_) NF ([], 0)).bind fun r46 =>
  some (⟨1, r46⟩ : Gapi_Extra)
def L_law17_ExtraResolves_1 (l : List Gapi_Extra) (s : Int) : Option (Int ⊕ (Unit ⊕ Unit)) :=
  if s < (l.length : Int) then
    (idxL l s).bind fun x68 =>
    if (x68.xData.length : Int) > 100 then
      some (.inr (.inr ()))
    else
      some (.inl (IntKind.i64.wrap (s + 1)))
  else
    some (.inr (.inl ()))
def F_law17_ExtraResolves (l : List Gapi_Extra) (n_ : List Int) (v : List Int) : Option (Bool) :=
  match n_ with
  | [n_0, n_1, n_2] =>
  F_law17_awake.bind fun y8 =>
  if (!y8) = true then
    some false
  else
    ((
      if (l.length : Int) > 10 then
        some true
      else
        some (decide ((v.length : Int) > 5)) : Option (Bool))).bind fun j24 =>
    if (j24) = true then
      some true
    else
      (iter (L_law17_ExtraResolves_1 l) NF 0).bind fun r93 =>
      sumK r93 (fun t94 =>
        (chkIdx 3 0).bind fun _ =>
        (idxA 3 [n_0, n_1, n_2] 0).bind fun y103 =>
        (chkIdx 3 1).bind fun _ =>
        (idxA 3 [n_0, n_1, n_2] 1).bind fun y108 =>
        (chkIdx 3 2).bind fun _ =>
        (idxA 3 [n_0, n_1, n_2] 2).bind fun y113 =>
        (chkLen [0, 0, 0] 3).bind fun _ =>
        (chkLen [IntKind.i64.wrap y103, IntKind.i64.wrap y108, IntKind.i64.wrap y113] 3).bind fun _ =>
        (chkLen [IntKind.i64.wrap y103, IntKind.i64.wrap y108, IntKind.i64.wrap y113] 3).bind fun _ =>
        (F_extra_Resolve l [IntKind.i64.wrap y103, IntKind.i64.wrap y108, IntKind.i64.wrap y113]).bind fun y129 =>
        (chkLen [0, 0, 0] 3).bind fun _ =>
        (chkLen y129.1 3).bind fun _ =>
        (chkLen [IntKind.i64.wrap y103, IntKind.i64.wrap y108, IntKind.i64.wrap y113] 3).bind fun _ =>
        (F_ref17_Resolve l [IntKind.i64.wrap y103, IntKind.i64.wrap y108, IntKind.i64.wrap y113]).bind fun y149 =>
        (chkLen [0, 0, 0] 3).bind fun _ =>
        (chkLen y149.1 3).bind fun _ =>
        ((
          (chkLen y129.1 3).bind fun _ =>
          (chkLen y149.1 3).bind fun _ =>
          (lit3 y129.1).bind fun l170 =>
          (lit3 y149.1).bind fun l171 =>
          if ((l170.1 == l171.1 && (l170.2.1 == l171.2.1 && (l170.2.2 == l171.2.2)))) = true then
            if (y129.2 == y149.2) = true then
              (F_extra_Wide v).bind fun y179 =>
              (F_ref17_Wide v).bind fun y185 =>
              some (y179.xID == y185.xID && (y179.xData == y185.xData))
            else
              some false
          else
            some false : Option (Bool))).bind fun j191 =>
        some j191) fun t97 =>
      some true
  | _ => none
end Go.Proofs.YtikkpmmhejjpaaaM

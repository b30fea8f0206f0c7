/- Plain functions that say what the program's functions compute: printed by lift.py. -/
import Derived.Test.YtikkpmmhejjpaaaS6
set_option linter.unusedSimpArgs false
set_option linter.unusedVariables false
namespace Go.Proofs.YtikkpmmhejjpaaaM
open Go Go.RowKit
structure Gdelta_maker where
  xold : List UInt8
  xto : List UInt8
  xout : List UInt8
  xsaid : Int
  xblocks : GMap (List UInt8) Int
  deriving DecidableEq, Inhabited
structure Gdelta_reader where
  xs : List UInt8
  xat : Int
  xe : Int
  deriving DecidableEq, Inhabited
def Gdelta_reader.cells (x : Gdelta_reader) : List AV := [.str x.xs, .int .i64 x.xat, .int .i64 x.xe]
def F_field_Cut (s_ : List UInt8) (at_ : Int) (n_ : Int) : Option ((List UInt8) × Int) :=
  ((
    if at_ < 0 then
      some true
    else
      if n_ < 0 then
        some true
      else
        if at_ > (s_.length : Int) then
          some true
        else
          some (decide (n_ > (IntKind.i64.wrap ((s_.length : Int) - at_)))) : Option (Bool))).bind fun j13 =>
  if (j13) = true then
    some ([], 3)
  else
    (subS s_ at_ (IntKind.i64.wrap (at_ + n_))).bind fun s20 =>
    some (s20, 0)
def L_field_number_1 (y2 : (List UInt8) × Int) (s : Int × Int) : Option ((Int × Int) ⊕ Int) :=
  if s.2 < (y2.1.length : Int) then
    (idxS y2.1 s.2).bind fun c25 =>
    (shlI .u64 (IntKind.u64.wrap c25) (IntKind.i64.wrap (8 * s.2))).bind fun y27 =>
    some (.inl (orI .u64 s.1 y27, IntKind.i64.wrap (s.2 + 1)))
  else
    some (.inr s.1)
def F_field_number (s_ : List UInt8) (at_ : Int) (n_ : Int) : Option (Int × Int) :=
  (F_field_Cut s_ at_ n_).bind fun y2 =>
  (iter (L_field_number_1 y2) NF (0, 0)).bind fun r30 =>
  some (r30, y2.2)
def F_field_U16 (s_ : List UInt8) (at_ : Int) : Option (Int × Int) :=
  (F_field_number s_ at_ 2).bind fun y2 =>
  some (IntKind.i64.wrap y2.1, y2.2)
def F_field_U32 (s_ : List UInt8) (at_ : Int) : Option (Int × Int) :=
  (F_field_number s_ at_ 4).bind fun y2 =>
  some (IntKind.i64.wrap y2.1, y2.2)
def F_field_U64 (s_ : List UInt8) (at_ : Int) : Option (Int × Int) :=
  (F_field_number s_ at_ 8).bind fun y2 =>
  some (y2.1, y2.2)
def L_field_put_1 (zs2 : List Int) (v : Int) (s : (List Int) × Int) : Option (((List Int) × Int) ⊕ (List Int)) :=
  if s.2 < (zs2.length : Int) then
    (shrI v .u64 (IntKind.i64.wrap (8 * s.2))).bind fun y38 =>
    (idxL s.1 s.2).bind fun x40 =>
    (setL s.1 s.2 (IntKind.u8.wrap y38)).bind fun y48 =>
    some (.inl (y48, IntKind.i64.wrap (s.2 + 1)))
  else
    some (.inr s.1)
def F_field_put (v : Int) (n_ : Int) : Option ((List UInt8)) :=
  (mkL (0 : Int) n_).bind fun zs2 =>
  (iter (L_field_put_1 zs2 v) NF (zs2, 0)).bind fun r52 =>
  some (r52.map byt)
def F_field_P16 (n_ : Int) : Option ((List UInt8)) :=
  (F_field_put (IntKind.u64.wrap n_) 2).bind fun y3 =>
  some y3
def F_field_P32 (n_ : Int) : Option ((List UInt8)) :=
  (F_field_put (IntKind.u64.wrap n_) 4).bind fun y3 =>
  some y3
def F_field_P64 (n_ : Int) : Option ((List UInt8)) :=
  (F_field_put n_ 8).bind fun y2 =>
  some y2
def F_ref02_Cut (s_ : List UInt8) (at_ : Int) (n_ : Int) : Option ((List UInt8) × Int) :=
  ((
    if at_ < 0 then
      some true
    else
      if n_ < 0 then
        some true
      else
        if at_ > (s_.length : Int) then
          some true
        else
          some (decide (n_ > (IntKind.i64.wrap ((s_.length : Int) - at_)))) : Option (Bool))).bind fun j13 =>
  if (j13) = true then
    some ([], 3)
  else
    (subS s_ at_ (IntKind.i64.wrap (at_ + n_))).bind fun s20 =>
    some (s20, 0)
def L_ref02_Num_1 (y2 : (List UInt8) × Int) (s : Int × Int) : Option ((Int × Int) ⊕ Int) :=
  if s.2 ≥ 0 then
    (idxS y2.1 s.2).bind fun c22 =>
    some (.inl (IntKind.u64.wrap ((IntKind.u64.wrap (256 * s.1)) + (IntKind.u64.wrap c22)), IntKind.i64.wrap (s.2 - 1)))
  else
    some (.inr s.1)
def F_ref02_Num (s_ : List UInt8) (at_ : Int) (n_ : Int) : Option (Int × Int) :=
  (F_ref02_Cut s_ at_ n_).bind fun y2 =>
  (iter (L_ref02_Num_1 y2) NF (0, IntKind.i64.wrap ((y2.1.length : Int) - 1))).bind fun r26 =>
  some (r26, y2.2)
def F_ref02_U16 (s_ : List UInt8) (at_ : Int) : Option (Int) :=
  (F_ref02_Num s_ at_ 2).bind fun y2 =>
  some (IntKind.i64.wrap y2.1)
def F_ref02_U32 (s_ : List UInt8) (at_ : Int) : Option (Int) :=
  (F_ref02_Num s_ at_ 4).bind fun y2 =>
  some (IntKind.i64.wrap y2.1)
def L_ref02_Put_1 (n_ : Int) (s : Int × (List Int) × Int) : Option ((Int × (List Int) × Int) ⊕ (List Int)) :=
  if s.2.2 < n_ then
    (remI s.1 256).bind fun y40 =>
    (app s.2.1 ([IntKind.u8.wrap y40] : List Int)).bind fun zs48 =>
    (quoI .u64 s.1 256).bind fun y55 =>
    some (.inl (y55, zs48, IntKind.i64.wrap (s.2.2 + 1)))
  else
    some (.inr s.2.1)
def F_ref02_Put (v : Int) (n_ : Int) : Option ((List UInt8)) :=
  (iter (L_ref02_Put_1 n_) NF (v, ([] : List Int), 0)).bind fun r60 =>
  some (r60.map byt)
def L_delta_number_1 (s : Int × (List Int)) : Option ((Int × (List Int)) ⊕ (Int × (List Int))) :=
  if s.1 > 127 then
    (app s.2 ([orI .u8 (IntKind.u8.wrap s.1) 128] : List Int)).bind fun zs44 =>
    (shrI s.1 .i64 7).bind fun y51 =>
    some (.inl (y51, zs44))
  else
    some (.inr (s.1, s.2))
def F_delta_number (n_ : Int) : Option ((List UInt8)) :=
  (iter (L_delta_number_1) NF (n_, ([] : List Int))).bind fun r55 =>
  (app r55.2 ([IntKind.u8.wrap r55.1] : List Int)).bind fun zs66 =>
  some (zs66.map byt)
def L_delta_maker_index_1 (m_ : Gdelta_maker) (s : (GMap (List UInt8) Int) × Int) : Option (((GMap (List UInt8) Int) × Int) ⊕ (GMap (List UInt8) Int)) :=
  if (IntKind.i64.wrap (s.2 + 16)) ≤ (m_.xold.length : Int) then
    (subS m_.xold s.2 (IntKind.i64.wrap (s.2 + 16))).bind fun s44 =>
    if (!((mget s.1 s44).isSome)) = true then
      some (.inl (mset s.1 s44 s.2, IntKind.i64.wrap (s.2 + 16)))
    else
      some (.inl (s.1, IntKind.i64.wrap (s.2 + 16)))
  else
    some (.inr s.1)
def F_delta_maker_index (m_ : Gdelta_maker) : Option (Gdelta_maker) :=
  (iter (L_delta_maker_index_1 m_) NF (m_.xblocks, 0)).bind fun r68 =>
  some (⟨m_.xold, m_.xto, m_.xout, m_.xsaid, r68⟩ : Gdelta_maker)
def L_delta_maker_found_1 (m_ : Gdelta_maker) (s4 : List UInt8) (at_ : Int) (s : Int) : Option (Int ⊕ Int) :=
  ((
    if s < (minI ((mget m_.xblocks s4).getD 0) (IntKind.i64.wrap (at_ - m_.xsaid))) then
      (idxS m_.xold (IntKind.i64.wrap ((IntKind.i64.wrap (((mget m_.xblocks s4).getD 0) - s)) - 1))).bind fun c36 =>
      (idxS m_.xto (IntKind.i64.wrap ((IntKind.i64.wrap (at_ - s)) - 1))).bind fun c38 =>
      some (c36 == c38)
    else
      some false : Option (Bool))).bind fun j39 =>
  if (j39) = true then
    some (.inl (IntKind.i64.wrap (s + 1)))
  else
    some (.inr s)
def L_delta_maker_found_2 (m_ : Gdelta_maker) (s4 : List UInt8) (at_ : Int) (s : Int) : Option (Int ⊕ Int) :=
  ((
    if (IntKind.i64.wrap (((mget m_.xblocks s4).getD 0) + s)) < (m_.xold.length : Int) then
      if (IntKind.i64.wrap (at_ + s)) < (m_.xto.length : Int) then
        (idxS m_.xold (IntKind.i64.wrap (((mget m_.xblocks s4).getD 0) + s))).bind fun c84 =>
        (idxS m_.xto (IntKind.i64.wrap (at_ + s))).bind fun c86 =>
        some (c84 == c86)
      else
        some false
    else
      some false : Option (Bool))).bind fun j87 =>
  if (j87) = true then
    some (.inl (IntKind.i64.wrap (s + 1)))
  else
    some (.inr s)
def F_delta_maker_found (m_ : Gdelta_maker) (at_ : Int) : Option (Gdelta_maker × Int × Int × Int) :=
  (subS m_.xto at_ (IntKind.i64.wrap (at_ + 16))).bind fun s4 =>
  if (!((mget m_.xblocks s4).isSome)) = true then
    some (m_, 0, 0, 0)
  else
    (iter (L_delta_maker_found_1 m_ s4 at_) NF 0).bind fun r45 =>
    (iter (L_delta_maker_found_2 m_ s4 at_) NF 16).bind fun r93 =>
    some (m_, (mget m_.xblocks s4).getD 0, r45, r93)
def F_delta_maker_give (m_ : Gdelta_maker) (at_ : Int) : Option (Gdelta_maker) :=
  if (IntKind.i64.wrap (at_ - m_.xsaid)) > 0 then
    (F_delta_number (IntKind.i64.wrap ((IntKind.i64.wrap (2 * (IntKind.i64.wrap (at_ - m_.xsaid)))) + 1))).bind fun y27 =>
    (subS m_.xto m_.xsaid at_).bind fun s31 =>
    (cat y27 s31).bind fun s32 =>
    (app m_.xout s32).bind fun b34 =>
    some (⟨m_.xold, m_.xto, b34, at_, m_.xblocks⟩ : Gdelta_maker)
  else
    some m_
def F_delta_maker_copied (m_ : Gdelta_maker) (from_ : Int) (n_ : Int) : Option (Gdelta_maker) :=
  (F_delta_number (IntKind.i64.wrap (2 * n_))).bind fun y1 =>
  (F_delta_number from_).bind fun y3 =>
  (cat y1 y3).bind fun s5 =>
  (app m_.xout s5).bind fun b7 =>
  some (⟨m_.xold, m_.xto, b7, IntKind.i64.wrap (m_.xsaid + n_), m_.xblocks⟩ : Gdelta_maker)
def L_delta_maker_steps_1 (s : (List UInt8) × (List UInt8) × (List UInt8) × Int × (GMap (List UInt8) Int) × Int) : Option (((List UInt8) × (List UInt8) × (List UInt8) × Int × (GMap (List UInt8) Int) × Int) ⊕ ((List UInt8) × (List UInt8) × (List UInt8) × Int × (GMap (List UInt8) Int))) :=
  if (IntKind.i64.wrap (s.2.2.2.2.2 + 16)) ≤ (s.2.1.length : Int) then
    (F_delta_maker_found (⟨s.1, s.2.1, s.2.2.1, s.2.2.2.1, s.2.2.2.2.1⟩ : Gdelta_maker) s.2.2.2.2.2).bind fun y56 =>
    if (IntKind.i64.wrap (y56.2.2.1 + y56.2.2.2)) < 24 then
      some (.inl (y56.1.xold, y56.1.xto, y56.1.xout, y56.1.xsaid, y56.1.xblocks, IntKind.i64.wrap (s.2.2.2.2.2 + 1)))
    else
      (F_delta_maker_give y56.1 (IntKind.i64.wrap (s.2.2.2.2.2 - y56.2.2.1))).bind fun y70 =>
      (F_delta_maker_copied y70 (IntKind.i64.wrap (y56.2.1 - y56.2.2.1)) (IntKind.i64.wrap (y56.2.2.1 + y56.2.2.2))).bind fun y79 =>
      some (.inl (y79.xold, y79.xto, y79.xout, y79.xsaid, y79.xblocks, y79.xsaid))
  else
    some (.inr (s.1, s.2.1, s.2.2.1, s.2.2.2.1, s.2.2.2.2.1))
def F_delta_maker_steps (m_ : Gdelta_maker) : Option (Gdelta_maker) :=
  (iter (L_delta_maker_steps_1) NF (m_.xold, m_.xto, m_.xout, m_.xsaid, m_.xblocks, 0)).bind fun r93 =>
  (F_delta_maker_give (⟨r93.1, r93.2.1, r93.2.2.1, r93.2.2.2.1, r93.2.2.2.2⟩ : Gdelta_maker) (r93.2.1.length : Int)).bind fun y101 =>
  some y101
def F_delta_Make (old_ : List UInt8) (to_ : List UInt8) : Option ((List UInt8) × Int) :=
  if (maxI (old_.length : Int) (to_.length : Int)) > 4194304 then
    some ([], 7)
  else
    (F_delta_number (old_.length : Int)).bind fun y10 =>
    (F_delta_number (to_.length : Int)).bind fun y13 =>
    (cat y10 y13).bind fun s15 =>
    if (old_ == to_) = true then
      if (to_ == []) = true then
        some (s15, 0)
      else
        (F_delta_number (IntKind.i64.wrap (2 * (to_.length : Int)))).bind fun y39 =>
        (cat s15 y39).bind fun s41 =>
        (F_delta_number 0).bind fun y42 =>
        (cat s41 y42).bind fun s44 =>
        some (s44, 0)
    else
      (F_delta_maker_index (⟨old_, to_, ([] : List UInt8), 0, (mnew : GMap (List UInt8) Int)⟩ : Gdelta_maker)).bind fun y62 =>
      (F_delta_maker_steps y62).bind fun y71 =>
      (F_delta_number (IntKind.i64.wrap ((IntKind.i64.wrap (2 * (to_.length : Int))) + 1))).bind fun y81 =>
      (cat y81 to_).bind fun s83 =>
      ((
        if (!(to_ == [])) = true then
          some (decide ((y71.xout.length : Int) > (s83.length : Int)))
        else
          some false : Option (Bool))).bind fun j91 =>
      if (j91) = true then
        (cat s15 s83).bind fun s98 =>
        some (s98, 0)
      else
        (chkCap y71.xout).bind fun _ =>
        (cat s15 y71.xout).bind fun s107 =>
        some (s107, 0)
def L_delta_Next_1 (at_ : Int) (s_ : List UInt8) (s : Int × Int) : Option ((Int × Int) ⊕ (Unit ⊕ (Int × Int × Int))) :=
  if s.2 < 4 then
    if (IntKind.i64.wrap (at_ + s.2)) ≥ (s_.length : Int) then
      some (.inr (.inr (0, 0, 3)))
    else
      (idxS s_ (IntKind.i64.wrap (at_ + s.2))).bind fun c66 =>
      (shlI .i64 (IntKind.i64.wrap (andI .u8 c66 127)) (IntKind.i64.wrap (7 * s.2))).bind fun y69 =>
      if c66 < 128 then
        ((
          if (c66 == 0) = true then
            some (decide (s.2 > 0))
          else
            some false : Option (Bool))).bind fun j86 =>
        if (j86) = true then
          some (.inr (.inl ()))
        else
          some (.inr (.inr (orI .i64 s.1 y69, IntKind.i64.wrap ((IntKind.i64.wrap (at_ + s.2)) + 1), 0)))
      else
        some (.inl (orI .i64 s.1 y69, IntKind.i64.wrap (s.2 + 1)))
  else
    some (.inr (.inl ()))
def F_delta_Next (s_ : List UInt8) (at_ : Int) : Option (Int × Int × Int) :=
  ((
    if at_ < 0 then
      some true
    else
      some (decide (at_ ≥ (s_.length : Int))) : Option (Bool))).bind fun j6 =>
  if (j6) = true then
    some (0, 0, 3)
  else
    (iter (L_delta_Next_1 at_ s_) NF (0, 0)).bind fun r93 =>
    sumK r93 (fun t94 =>
      some (0, 0, 2)) fun t97 =>
    some (t97.1, t97.2.1, t97.2.2)
def F_delta_reader_next (r_ : Gdelta_reader) : Option (Gdelta_reader × Int) :=
  if (r_.xe != 0) = true then
    some (r_, 0)
  else
    (F_delta_Next r_.xs r_.xat).bind fun y10 =>
    ((
      if (y10.2.2 == 0) = true then
        some y10.2.1
      else
        some r_.xat : Option (Int))).bind fun j25 =>
    some ((⟨r_.xs, j25, y10.2.2⟩ : Gdelta_reader), y10.1)
def F_delta_reader_step (r_ : Gdelta_reader) (old_ : List UInt8) : Option (Gdelta_reader × (List UInt8) × Int) :=
  (F_delta_reader_next r_).bind fun y2 =>
  ((
    if y2.2 > 0 then
      (remI y2.2 2).bind fun y13 =>
      some (y13 == 0)
    else
      some false : Option (Bool))).bind fun j14 =>
  ((
    if (j14) = true then
      (F_delta_reader_next y2.1).bind fun y18 =>
      some (y18.1.xs, y18.1.xat, y18.1.xe, y18.2)
    else
      some (y2.1.xs, y2.1.xat, y2.1.xe, 0) : Option ((List UInt8) × Int × Int × Int))).bind fun j25 =>
  if (j25.2.2.1 != 0) = true then
    some ((⟨j25.1, j25.2.1, j25.2.2.1⟩ : Gdelta_reader), [], j25.2.2.1)
  else
    if y2.2 < 2 then
      some ((⟨j25.1, j25.2.1, j25.2.2.1⟩ : Gdelta_reader), [], 2)
    else
      (remI y2.2 2).bind fun y82 =>
      if (y82 == 0) = true then
        (quoI .i64 y2.2 2).bind fun y90 =>
        (F_field_Cut old_ j25.2.2.2 y90).bind fun y91 =>
        some ((⟨j25.1, j25.2.1, j25.2.2.1⟩ : Gdelta_reader), y91.1, y91.2)
      else
        (quoI .i64 y2.2 2).bind fun y96 =>
        (F_field_Cut j25.1 j25.2.1 y96).bind fun y97 =>
        some ((⟨j25.1, IntKind.i64.wrap (j25.2.1 + y96), j25.2.2.1⟩ : Gdelta_reader), y97.1, y97.2)
def L_delta_Apply_1 (delta : List UInt8) (old_ : List UInt8) (y15 : Gdelta_reader × Int) (s : (List UInt8) × Int × Int × (List UInt8)) : Option (((List UInt8) × Int × Int × (List UInt8)) ⊕ ((List UInt8) ⊕ Int)) :=
  if s.2.1 < (delta.length : Int) then
    (F_delta_reader_step (⟨s.1, s.2.1, s.2.2.1⟩ : Gdelta_reader) old_).bind fun y121 =>
    if (y121.2.2 != 0) = true then
      some (.inr (.inr y121.2.2))
    else
      if (IntKind.i64.wrap ((s.2.2.2.length : Int) + (y121.2.1.length : Int))) > y15.2 then
        some (.inr (.inr 7))
      else
        (app s.2.2.2 y121.2.1).bind fun b147 =>
        some (.inl (y121.1.xs, y121.1.xat, y121.1.xe, b147))
  else
    some (.inr (.inl s.2.2.2))
def F_delta_Apply (old_ : List UInt8) (delta : List UInt8) : Option ((List UInt8) × Int) :=
  (F_delta_reader_next (⟨delta, 0, 0⟩ : Gdelta_reader)).bind fun y9 =>
  (F_delta_reader_next y9.1).bind fun y15 =>
  if (y15.1.xe != 0) = true then
    some ([], y15.1.xe)
  else
    if (y9.2 != (old_.length : Int)) = true then
      some ([], 4)
    else
      if y15.2 > 4194304 then
        some ([], 7)
      else
        (iter (L_delta_Apply_1 delta old_ y15) NF (y15.1.xs, y15.1.xat, y15.1.xe, ([] : List UInt8))).bind fun r157 =>
        sumK r157 (fun t158 =>
          if (t158.length : Int) < y15.2 then
            some ([], 4)
          else
            (chkCap t158).bind fun _ =>
            some (t158, 0)) fun t163 =>
        some ([], t163)
def F_delta_Number (n_ : Int) : Option ((List UInt8) × Int) :=
  ((
    if n_ < 0 then
      some true
    else
      some (decide (n_ > 268435455)) : Option (Bool))).bind fun j5 =>
  if (j5) = true then
    some ([], 1)
  else
    (F_delta_number n_).bind fun y12 =>
    some (y12, 0)
def F_law40_awake : Option (Bool) :=
  (F_delta_Make [115, 111, 109, 101, 32, 111, 108, 100, 32, 99, 111, 110, 116, 101, 110, 116, 115] [115, 111, 109, 101, 32, 110, 101, 119, 32, 99, 111, 110, 116, 101, 110, 116, 115]).bind fun y2 =>
  (F_delta_Apply [115, 111, 109, 101, 32, 111, 108, 100, 32, 99, 111, 110, 116, 101, 110, 116, 115] y2.1).bind fun y5 =>
  (F_delta_Number 300).bind fun y8 =>
  (F_delta_Next y8.1 0).bind fun y11 =>
  ((
    if (y2.2 == 0) = true then
      if (y5.1 == [115, 111, 109, 101, 32, 110, 101, 119, 32, 99, 111, 110, 116, 101, 110, 116, 115]) = true then
        if (y5.2 == 0) = true then
          if (y8.1 == [172, 2]) = true then
            if (y8.2 == 0) = true then
              if (y11.1 == 300) = true then
                if (y11.2.1 == 2) = true then
                  some (y11.2.2 == 0)
                else
                  some false
              else
                some false
            else
              some false
          else
            some false
        else
          some false
      else
        some false
    else
      some false : Option (Bool))).bind fun j35 =>
  some j35
def L_ref40_Next_1 (at_ : Int) (s_ : List UInt8) (s : Int × Int × Int) : Option ((Int × Int × Int) ⊕ (Unit ⊕ (Int × Int × Int))) :=
  if s.2.2 < 4 then
    ((
      if (IntKind.i64.wrap (at_ + s.2.2)) < at_ then
        some true
      else
        some (decide ((IntKind.i64.wrap (at_ + s.2.2)) ≥ (s_.length : Int))) : Option (Bool))).bind fun j67 =>
    if (j67) = true then
      some (.inr (.inr (0, 0, 3)))
    else
      (idxS s_ (IntKind.i64.wrap (at_ + s.2.2))).bind fun c74 =>
      (remI (IntKind.i64.wrap c74) 128).bind fun y77 =>
      if (IntKind.i64.wrap c74) < 128 then
        ((
          if ((IntKind.i64.wrap c74) == 0) = true then
            some (decide (s.2.2 > 0))
          else
            some false : Option (Bool))).bind fun j96 =>
        if (j96) = true then
          some (.inr (.inr (0, 0, 2)))
        else
          some (.inr (.inr (IntKind.i64.wrap (s.1 + (IntKind.i64.wrap (y77 * s.2.1))), IntKind.i64.wrap ((IntKind.i64.wrap (at_ + s.2.2)) + 1), 0)))
      else
        some (.inl (IntKind.i64.wrap (s.1 + (IntKind.i64.wrap (y77 * s.2.1))), IntKind.i64.wrap (128 * s.2.1), IntKind.i64.wrap (s.2.2 + 1)))
  else
    some (.inr (.inl ()))
def F_ref40_Next (s_ : List UInt8) (at_ : Int) : Option (Int × Int × Int) :=
  if at_ < 0 then
    some (0, 0, 3)
  else
    (iter (L_ref40_Next_1 at_ s_) NF (0, 1, 0)).bind fun r106 =>
    sumK r106 (fun t107 =>
      some (0, 0, 2)) fun t110 =>
    some (t110.1, t110.2.1, t110.2.2)
def L_ref40_Apply_1 (delta : List UInt8) (old_ : List UInt8) (y10 : Int × Int × Int) (s : Int × (List UInt8)) : Option ((Int × (List UInt8)) ⊕ ((List UInt8) ⊕ Int)) :=
  if s.1 < (delta.length : Int) then
    (F_ref40_Next delta s.1).bind fun y112 =>
    if (y112.2.2 != 0) = true then
      some (.inr (.inr y112.2.2))
    else
      ((
        (remI y112.1 2).bind fun y121 =>
        if (y121 == 0) = true then
          some (decide (y112.1 > 0))
        else
          some false : Option (Bool))).bind fun j125 =>
      ((
        if (j125) = true then
          (F_ref40_Next delta y112.2.1).bind fun y129 =>
          if (y129.2.2 != 0) = true then
            some (.inr (.inr (.inr y129.2.2)))
          else
            some (.inl (y129.2.1, y129.1))
        else
          some (.inl (y112.2.1, 0)) : Option ((Int × Int) ⊕ ((Int × (List UInt8)) ⊕ ((List UInt8) ⊕ Int))))).bind fun j139 =>
      sumK j139 (fun cj139 =>
        if y112.1 < 2 then
          some (.inr (.inr 2))
        else
          (quoI .i64 y112.1 2).bind fun y147 =>
          (remI y112.1 2).bind fun y150 =>
          ((
            if (y150 == 1) = true then
              some (IntKind.i64.wrap (cj139.1 + y147), cj139.1, delta)
            else
              some (cj139.1, cj139.2, old_) : Option (Int × Int × (List UInt8)))).bind fun j156 =>
          ((
            if j156.2.1 > (j156.2.2.length : Int) then
              some true
            else
              some (decide (y147 > (IntKind.i64.wrap ((j156.2.2.length : Int) - j156.2.1)))) : Option (Bool))).bind fun j164 =>
          if (j164) = true then
            some (.inr (.inr 3))
          else
            if (IntKind.i64.wrap ((s.2.length : Int) + y147)) > y10.1 then
              some (.inr (.inr 7))
            else
              (subS j156.2.2 j156.2.1 (IntKind.i64.wrap (j156.2.1 + y147))).bind fun s177 =>
              (cat s.2 s177).bind fun s178 =>
              some (.inl (j156.1, s178)))
        (fun o => some o)
  else
    some (.inr (.inl s.2))
def F_ref40_Apply (old_ : List UInt8) (delta : List UInt8) : Option ((List UInt8) × Int) :=
  (F_ref40_Next delta 0).bind fun y2 =>
  if (y2.2.2 != 0) = true then
    some ([], y2.2.2)
  else
    (F_ref40_Next delta y2.2.1).bind fun y10 =>
    if (y10.2.2 != 0) = true then
      some ([], y10.2.2)
    else
      if (y2.1 != (old_.length : Int)) = true then
        some ([], 4)
      else
        if y10.1 > 4194304 then
          some ([], 7)
        else
          (iter (L_ref40_Apply_1 delta old_ y10) NF (y10.2.1, [])).bind fun r181 =>
          sumK r181 (fun t182 =>
            if (t182.length : Int) < y10.1 then
              some ([], 4)
            else
              some (t182, 0)) fun t185 =>
          some ([], t185)
def F_law40_DeltaMakes (old_ : List UInt8) (to_ : List UInt8) : Option (Bool) :=
  F_law40_awake.bind fun y2 =>
  if (!y2) = true then
    some false
  else
    ((
      if (old_.length : Int) > 600 then
        some true
      else
        some (decide ((to_.length : Int) > 600)) : Option (Bool))).bind fun j18 =>
    if (j18) = true then
      some true
    else
      (F_delta_Make old_ to_).bind fun y25 =>
      (F_delta_Apply old_ y25.1).bind fun y28 =>
      (F_ref40_Apply old_ y25.1).bind fun y31 =>
      ((
        if (y25.2 == 0) = true then
          if (y28.2 == 0) = true then
            if (y28.1 == to_) = true then
              if (y31.2 == 0) = true then
                if (y31.1 == to_) = true then
                  if (y25.1.length : Int) ≤ (IntKind.i64.wrap (16 + (to_.length : Int))) then
                    if (!(old_ == to_)) = true then
                      some true
                    else
                      some (decide ((y25.1.length : Int) ≤ 16))
                  else
                    some false
                else
                  some false
              else
                some false
            else
              some false
          else
            some false
        else
          some false : Option (Bool))).bind fun j58 =>
      some j58
def F_law40_DeltaApplies (old_ : List UInt8) (d : List UInt8) : Option (Bool) :=
  F_law40_awake.bind fun y2 =>
  if (!y2) = true then
    some false
  else
    ((
      if (old_.length : Int) > 100 then
        some true
      else
        some (decide ((d.length : Int) > 100)) : Option (Bool))).bind fun j18 =>
    if (j18) = true then
      some true
    else
      (F_delta_Apply old_ d).bind fun y25 =>
      (F_ref40_Apply old_ d).bind fun y28 =>
      ((
        if (y25.1 == y28.1) = true then
          some (y25.2 == y28.2)
        else
          some false : Option (Bool))).bind fun j34 =>
      some j34
end Go.Proofs.YtikkpmmhejjpaaaM

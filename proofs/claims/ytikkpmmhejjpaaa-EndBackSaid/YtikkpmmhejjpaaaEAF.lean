/- Plain functions that say what the program's functions compute: printed by lift.py. -/
import Derived.Test.YtikkpmmhejjpaaaBL
set_option linter.unusedSimpArgs false
set_option linter.unusedVariables false
namespace Go.Proofs.YtikkpmmhejjpaaaM
open Go Go.RowKit
structure Gapi_End where
  xAt : Int
  xCount : Int
  xSize : Int
  xOffset : Int
  xComment : List UInt8
  xWide : Bool
  deriving DecidableEq
def Gapi_End.cells (x : Gapi_End) : List AV := [.int .i64 x.xAt, .int .i64 x.xCount, .int .i64 x.xSize, .int .i64 x.xOffset, .str x.xComment, .bool x.xWide]
structure Gend_numbers where
  xs : List UInt8
  deriving DecidableEq
def Gend_numbers.cells (x : Gend_numbers) : List AV := [.str x.xs]
def F_end_fits (n_ : Int) (most_ : Int) : Option (Bool) :=
  ((
    if n_ ≥ 0 then
      some (decide (n_ ≤ most_))
    else
      some false : Option (Bool))).bind fun j5 =>
  some j5
def F_end_right (e_ : Gapi_End) : Option (Bool) :=
  ((
    if (e_.xWide) = true then
      some (1099511627776, 1099511627776)
    else
      some (65534, 4294967294) : Option (Int × Int))).bind fun j13 =>
  ((
    (F_end_fits e_.xCount j13.1).bind fun y17 =>
    if (y17) = true then
      (F_end_fits e_.xSize j13.2).bind fun y23 =>
      if (y23) = true then
        (F_end_fits e_.xOffset j13.2).bind fun y29 =>
        if (y29) = true then
          if (e_.xAt == (IntKind.i64.wrap (e_.xOffset + e_.xSize))) = true then
            some (decide ((e_.xComment.length : Int) ≤ 65535))
          else
            some false
        else
          some false
      else
        some false
    else
      some false : Option (Bool))).bind fun j42 =>
  some j42
def L_field_put_1 (zs2 : List Int) (v : Int) (s : (List Int) × Int) : Option (((List Int) × Int) ⊕ (List Int)) :=
  if s.2 < (zs2.length : Int) then
    (shrI v .u64 (IntKind.i64.wrap (8 * s.2))).bind fun y38 =>
    (idxL s.1 s.2).bind fun x40 =>
    (setL s.1 s.2 (IntKind.u8.wrap y38)).bind fun y48 =>
    some (.inl (y48, IntKind.i64.wrap (s.2 + 1)))
  else
    some (.inr s.1)
def F_field_put (v : Int) (n_ : Int) : Option ((List UInt8)) :=
  (mkL (0 : Int) n_).bind fun zs2 =>
  (iter (L_field_put_1 zs2 v) NF (zs2, 0)).bind fun r52 =>
  some (r52.map byt)
def F_field_P32 (n_ : Int) : Option ((List UInt8)) :=
  (F_field_put (IntKind.u64.wrap n_) 4).bind fun y3 =>
  some y3
def F_field_P64 (n_ : Int) : Option ((List UInt8)) :=
  (F_field_put n_ 8).bind fun y2 =>
  some y2
def L_end_p64_1 (l : List Int) (s : (List UInt8) × Int) : Option (((List UInt8) × Int) ⊕ (List UInt8)) :=
  if s.2 < (l.length : Int) then
    (idxL l s.2).bind fun x28 =>
    (F_field_P64 (IntKind.u64.wrap x28)).bind fun y36 =>
    (cat s.1 y36).bind fun s38 =>
    some (.inl (s38, IntKind.i64.wrap (s.2 + 1)))
  else
    some (.inr s.1)
def F_end_p64 (l : List Int) : Option ((List UInt8)) :=
  (iter (L_end_p64_1 l) NF ([], 0)).bind fun r41 =>
  some r41
def F_field_P16 (n_ : Int) : Option ((List UInt8)) :=
  (F_field_put (IntKind.u64.wrap n_) 2).bind fun y3 =>
  some y3
def F_end_Put (e_ : Gapi_End) : Option ((List UInt8) × Int) :=
  (F_end_right e_).bind fun y9 =>
  if (!y9) = true then
    some ([], 1)
  else
    ((
      if (e_.xWide) = true then
        (F_field_P32 101075792).bind fun y23 =>
        (F_end_p64 ([44] : List Int)).bind fun y31 =>
        (cat y23 y31).bind fun s37 =>
        (F_field_P16 45).bind fun y38 =>
        (cat s37 y38).bind fun s40 =>
        (cat s40 y38).bind fun s43 =>
        (F_end_p64 ([0, e_.xCount, e_.xCount, e_.xSize, e_.xOffset] : List Int)).bind fun y50 =>
        (cat s43 y50).bind fun s56 =>
        (F_field_P32 117853008).bind fun y58 =>
        (F_field_P32 0).bind fun y60 =>
        (cat y58 y60).bind fun s62 =>
        (F_end_p64 ([e_.xAt] : List Int)).bind fun y70 =>
        (cat s62 y70).bind fun s76 =>
        (F_field_P32 1).bind fun y77 =>
        (cat s76 y77).bind fun s79 =>
        (cat s56 s79).bind fun s80 =>
        some (s80, 65535, 4294967295, 4294967295)
      else
        some ([], e_.xCount, e_.xSize, e_.xOffset) : Option ((List UInt8) × Int × Int × Int))).bind fun j83 =>
    (F_field_P32 101010256).bind fun y86 =>
    (cat j83.1 y86).bind fun s88 =>
    (F_field_P32 0).bind fun y89 =>
    (cat s88 y89).bind fun s91 =>
    (F_field_P16 j83.2.1).bind fun y92 =>
    (cat s91 y92).bind fun s94 =>
    (cat s94 y92).bind fun s97 =>
    (F_field_P32 j83.2.2.1).bind fun y98 =>
    (cat s97 y98).bind fun s100 =>
    (F_field_P32 j83.2.2.2).bind fun y101 =>
    (cat s100 y101).bind fun s103 =>
    (F_field_P16 (e_.xComment.length : Int)).bind fun y106 =>
    (cat s103 y106).bind fun s108 =>
    (cat s108 e_.xComment).bind fun s110 =>
    some (s110, 0)
def F_field_Cut (s_ : List UInt8) (at_ : Int) (n_ : Int) : Option ((List UInt8) × Int) :=
  ((
    if at_ < 0 then
      some true
    else
      if n_ < 0 then
        some true
      else
        if at_ > (s_.length : Int) then
          some true
        else
          some (decide (n_ > (IntKind.i64.wrap ((s_.length : Int) - at_)))) : Option (Bool))).bind fun j13 =>
  if (j13) = true then
    some ([], 3)
  else
    (subS s_ at_ (IntKind.i64.wrap (at_ + n_))).bind fun s20 =>
    some (s20, 0)
def L_field_number_1 (y2 : (List UInt8) × Int) (s : Int × Int) : Option ((Int × Int) ⊕ Int) :=
  if s.2 < (y2.1.length : Int) then
    (idxS y2.1 s.2).bind fun c25 =>
    (shlI .u64 (IntKind.u64.wrap c25) (IntKind.i64.wrap (8 * s.2))).bind fun y27 =>
    some (.inl (orI .u64 s.1 y27, IntKind.i64.wrap (s.2 + 1)))
  else
    some (.inr s.1)
def F_field_number (s_ : List UInt8) (at_ : Int) (n_ : Int) : Option (Int × Int) :=
  (F_field_Cut s_ at_ n_).bind fun y2 =>
  (iter (L_field_number_1 y2) NF (0, 0)).bind fun r30 =>
  some (r30, y2.2)
def F_field_U32 (s_ : List UInt8) (at_ : Int) : Option (Int × Int) :=
  (F_field_number s_ at_ 4).bind fun y2 =>
  some (IntKind.i64.wrap y2.1, y2.2)
def F_end_numbers_u32 (x_ : Gend_numbers) (at_ : Int) : Option (Int) :=
  (F_field_U32 x_.xs at_).bind fun y9 =>
  some y9.1
def F_field_U16 (s_ : List UInt8) (at_ : Int) : Option (Int × Int) :=
  (F_field_number s_ at_ 2).bind fun y2 =>
  some (IntKind.i64.wrap y2.1, y2.2)
def F_end_numbers_u16 (x_ : Gend_numbers) (at_ : Int) : Option (Int) :=
  (F_field_U16 x_.xs at_).bind fun y9 =>
  some y9.1
def L_end_last_1 (s_ : List UInt8) (s : Int) : Option (Int ⊕ (Unit ⊕ Int)) :=
  ((
    if s ≥ 0 then
      some (decide (s ≥ (IntKind.i64.wrap ((IntKind.i64.wrap ((s_.length : Int) - 22)) - 65535))))
    else
      some false : Option (Bool))).bind fun j54 =>
  if (j54) = true then
    ((
      (idxS s_ s).bind fun c59 =>
      if (c59 == 80) = true then
        (F_end_numbers_u32 (⟨s_⟩ : Gend_numbers) s).bind fun y64 =>
        if (y64 == 101010256) = true then
          (F_end_numbers_u16 (⟨s_⟩ : Gend_numbers) (IntKind.i64.wrap (s + 20))).bind fun y70 =>
          some ((IntKind.i64.wrap ((IntKind.i64.wrap (s + 22)) + y70)) == (s_.length : Int))
        else
          some false
      else
        some false : Option (Bool))).bind fun j73 =>
    if (j73) = true then
      some (.inr (.inr s))
    else
      some (.inl (IntKind.i64.wrap (s - 1)))
  else
    some (.inr (.inl ()))
def F_end_last (s_ : List UInt8) : Option (Int × Bool) :=
  (iter (L_end_last_1 s_) NF (IntKind.i64.wrap ((s_.length : Int) - 22))).bind fun r81 =>
  sumK r81 (fun t82 =>
    some (0, false)) fun t85 =>
  some (t85, true)
def F_field_U64 (s_ : List UInt8) (at_ : Int) : Option (Int × Int) :=
  (F_field_number s_ at_ 8).bind fun y2 =>
  some (y2.1, y2.2)
def F_end_numbers_u64 (x_ : Gend_numbers) (at_ : Int) : Option (Int) :=
  (F_field_U64 x_.xs at_).bind fun y9 =>
  some y9.1
def F_end_located (s_ : List UInt8) (at_ : Int) : Option (Bool) :=
  (subS s_ (IntKind.i64.wrap (at_ - 20)) at_).bind fun s2 =>
  ((
    (F_end_numbers_u32 (⟨s2⟩ : Gend_numbers) 0).bind fun y15 =>
    if (y15 == 117853008) = true then
      (F_end_numbers_u32 (⟨s2⟩ : Gend_numbers) 4).bind fun y21 =>
      if (y21 == 0) = true then
        (F_end_numbers_u64 (⟨s2⟩ : Gend_numbers) 8).bind fun y27 =>
        if (y27 == (IntKind.u64.wrap (IntKind.i64.wrap ((IntKind.i64.wrap (at_ - 20)) - 56)))) = true then
          (F_end_numbers_u32 (⟨s2⟩ : Gend_numbers) 16).bind fun y34 =>
          some (y34 == 1)
        else
          some false
      else
        some false
    else
      some false : Option (Bool))).bind fun j36 =>
  some j36
def F_end_ahead (s_ : List UInt8) (at_ : Int) : Option (Gapi_End × Int) :=
  ((
    if (IntKind.i64.wrap ((IntKind.i64.wrap (at_ - 20)) - 56)) < 0 then
      some true
    else
      (F_end_located s_ at_).bind fun y12 =>
      some !y12 : Option (Bool))).bind fun j14 =>
  if (j14) = true then
    some ((⟨0, 0, 0, 0, [], false⟩ : Gapi_End), 2)
  else
    (subS s_ (IntKind.i64.wrap ((IntKind.i64.wrap (at_ - 20)) - 56)) (IntKind.i64.wrap ((IntKind.i64.wrap ((IntKind.i64.wrap (at_ - 20)) - 56)) + 56))).bind fun s31 =>
    (F_end_numbers_u64 (⟨s31⟩ : Gend_numbers) 24).bind fun y44 =>
    (F_end_numbers_u64 (⟨s31⟩ : Gend_numbers) 40).bind fun y47 =>
    (F_end_numbers_u64 (⟨s31⟩ : Gend_numbers) 48).bind fun y50 =>
    ((
      (F_end_numbers_u32 (⟨s31⟩ : Gend_numbers) 0).bind fun y54 =>
      if (y54 != 101075792) = true then
        some true
      else
        (F_end_numbers_u64 (⟨s31⟩ : Gend_numbers) 4).bind fun y60 =>
        if (y60 != 44) = true then
          some true
        else
          (F_end_numbers_u32 (⟨s31⟩ : Gend_numbers) 16).bind fun y66 =>
          if (y66 != 0) = true then
            some true
          else
            (F_end_numbers_u32 (⟨s31⟩ : Gend_numbers) 20).bind fun y72 =>
            if (y72 != 0) = true then
              some true
            else
              (F_end_numbers_u64 (⟨s31⟩ : Gend_numbers) 32).bind fun y78 =>
              some (y44 != y78) : Option (Bool))).bind fun j80 =>
    if (j80) = true then
      some ((⟨0, 0, 0, 0, [], false⟩ : Gapi_End), 2)
    else
      if (maxI (maxI y44 y47) y50) > 1099511627776 then
        some ((⟨0, 0, 0, 0, [], false⟩ : Gapi_End), 7)
      else
        some ((⟨IntKind.i64.wrap ((IntKind.i64.wrap (at_ - 20)) - 56), IntKind.i64.wrap y44, IntKind.i64.wrap y47, IntKind.i64.wrap y50, [], true⟩ : Gapi_End), 0)
def F_end_Find (s_ : List UInt8) : Option (Gapi_End × Int) :=
  (F_end_last s_).bind fun y8 =>
  if (!y8.2) = true then
    some ((⟨0, 0, 0, 0, [], false⟩ : Gapi_End), 8)
  else
    (subS s_ y8.1 s_.length).bind fun s26 =>
    ((
      (F_end_numbers_u16 (⟨s26⟩ : Gend_numbers) 4).bind fun y39 =>
      if (y39 != 0) = true then
        some true
      else
        (F_end_numbers_u16 (⟨s26⟩ : Gend_numbers) 6).bind fun y45 =>
        if (y45 != 0) = true then
          some true
        else
          (F_end_numbers_u16 (⟨s26⟩ : Gend_numbers) 8).bind fun y51 =>
          (F_end_numbers_u16 (⟨s26⟩ : Gend_numbers) 10).bind fun y54 =>
          some (y51 != y54) : Option (Bool))).bind fun j56 =>
    if (j56) = true then
      some ((⟨0, 0, 0, 0, [], false⟩ : Gapi_End), 2)
    else
      (F_end_numbers_u16 (⟨s26⟩ : Gend_numbers) 8).bind fun y74 =>
      (F_end_numbers_u32 (⟨s26⟩ : Gend_numbers) 12).bind fun y77 =>
      (F_end_numbers_u32 (⟨s26⟩ : Gend_numbers) 16).bind fun y80 =>
      ((
        if (y74 == 65535) = true then
          some true
        else
          if (y77 == 4294967295) = true then
            some true
          else
            some (y80 == 4294967295) : Option (Bool))).bind fun j102 =>
      ((
        if (j102) = true then
          (F_end_ahead s_ y8.1).bind fun y106 =>
          if (y106.2 != 0) = true then
            some (.inr ((⟨0, 0, 0, 0, [], false⟩ : Gapi_End), y106.2))
          else
            some (.inl (y106.1.xAt, y106.1.xCount, y106.1.xSize, y106.1.xOffset, y106.1.xComment, y106.1.xWide))
        else
          some (.inl (y8.1, y74, y77, y80, [], false)) : Option ((Int × Int × Int × Int × (List UInt8) × Bool) ⊕ (Gapi_End × Int)))).bind fun j140 =>
      sumK j140 (fun cj140 =>
        if ((IntKind.i64.wrap (cj140.2.2.2.1 + cj140.2.2.1)) != cj140.1) = true then
          some ((⟨0, 0, 0, 0, [], false⟩ : Gapi_End), 2)
        else
          (subS s_ (IntKind.i64.wrap (y8.1 + 22)) s_.length).bind fun s161 =>
          some ((⟨cj140.1, cj140.2.1, cj140.2.2.1, cj140.2.2.2.1, s161, cj140.2.2.2.2.2⟩ : Gapi_End), 0))
        (fun o => some o)
def F_law19_awake : Option (Bool) :=
  (F_end_Put (⟨0, 0, 0, 0, [99], false⟩ : Gapi_End)).bind fun y2 =>
  (F_end_Find y2.1).bind fun y5 =>
  (F_end_Put (⟨3, 0, 0, 3, [], true⟩ : Gapi_End)).bind fun y18 =>
  (cat [97, 98, 99] y18.1).bind fun s21 =>
  (F_end_Find s21).bind fun y22 =>
  (F_end_Find []).bind fun y35 =>
  ((
    if (y2.2 == 0) = true then
      if ((y2.1.length : Int) == 23) = true then
        if (y5.2 == 0) = true then
          if (y5.1.xComment == [99]) = true then
            if (y18.2 == 0) = true then
              if ((y18.1.length : Int) == 98) = true then
                if (y22.2 == 0) = true then
                  if (y22.1.xWide) = true then
                    if (y22.1.xAt == 3) = true then
                      some (y35.2 == 8)
                    else
                      some false
                  else
                    some false
                else
                  some false
              else
                some false
            else
              some false
          else
            some false
        else
          some false
      else
        some false
    else
      some false : Option (Bool))).bind fun j80 =>
  some j80
def F_ref02_Cut (s_ : List UInt8) (at_ : Int) (n_ : Int) : Option ((List UInt8) × Int) :=
  ((
    if at_ < 0 then
      some true
    else
      if n_ < 0 then
        some true
      else
        if at_ > (s_.length : Int) then
          some true
        else
          some (decide (n_ > (IntKind.i64.wrap ((s_.length : Int) - at_)))) : Option (Bool))).bind fun j13 =>
  if (j13) = true then
    some ([], 3)
  else
    (subS s_ at_ (IntKind.i64.wrap (at_ + n_))).bind fun s20 =>
    some (s20, 0)
def L_ref02_Num_1 (y2 : (List UInt8) × Int) (s : Int × Int) : Option ((Int × Int) ⊕ Int) :=
  if s.2 ≥ 0 then
    (idxS y2.1 s.2).bind fun c22 =>
    some (.inl (IntKind.u64.wrap ((IntKind.u64.wrap (256 * s.1)) + (IntKind.u64.wrap c22)), IntKind.i64.wrap (s.2 - 1)))
  else
    some (.inr s.1)
def F_ref02_Num (s_ : List UInt8) (at_ : Int) (n_ : Int) : Option (Int × Int) :=
  (F_ref02_Cut s_ at_ n_).bind fun y2 =>
  (iter (L_ref02_Num_1 y2) NF (0, IntKind.i64.wrap ((y2.1.length : Int) - 1))).bind fun r26 =>
  some (r26, y2.2)
def F_ref02_U32 (s_ : List UInt8) (at_ : Int) : Option (Int) :=
  (F_ref02_Num s_ at_ 4).bind fun y2 =>
  some (IntKind.i64.wrap y2.1)
def F_ref02_U16 (s_ : List UInt8) (at_ : Int) : Option (Int) :=
  (F_ref02_Num s_ at_ 2).bind fun y2 =>
  some (IntKind.i64.wrap y2.1)
def L_ref19_record_1 (s_ : List UInt8) (s : Int) : Option (Int ⊕ (Unit ⊕ Int)) :=
  if s ≥ 0 then
    ((
      (F_ref02_U32 s_ s).bind fun y30 =>
      if (y30 == 101010256) = true then
        (F_ref02_U16 s_ (IntKind.i64.wrap (s + 20))).bind fun y35 =>
        some ((IntKind.i64.wrap ((IntKind.i64.wrap (s + 22)) + y35)) == (s_.length : Int))
      else
        some false : Option (Bool))).bind fun j38 =>
    if (j38) = true then
      some (.inr (.inr s))
    else
      some (.inl (IntKind.i64.wrap (s - 1)))
  else
    some (.inr (.inl ()))
def F_ref19_record (s_ : List UInt8) : Option (Int) :=
  (iter (L_ref19_record_1 s_) NF (IntKind.i64.wrap ((s_.length : Int) - 22))).bind fun r46 =>
  sumK r46 (fun t47 =>
    some (-1)) fun t50 =>
  some t50
def F_ref19_long (s_ : List UInt8) (at_ : Int) : Option (Int) :=
  (F_ref02_Num s_ at_ 8).bind fun y2 =>
  some y2.1
def F_ref19_wide (s_ : List UInt8) (at_ : Int) : Option (Gapi_End × Int) :=
  if at_ < 76 then
    some ((⟨0, 0, 0, 0, [], false⟩ : Gapi_End), 2)
  else
    (subS s_ (IntKind.i64.wrap (at_ - 20)) at_).bind fun s23 =>
    (subS s_ (IntKind.i64.wrap (at_ - 76)) (IntKind.i64.wrap (at_ - 20))).bind fun s25 =>
    ((
      (F_ref02_U32 s23 0).bind fun y27 =>
      if (y27 != 117853008) = true then
        some true
      else
        (F_ref02_U32 s23 4).bind fun y32 =>
        if (y32 != 0) = true then
          some true
        else
          (F_ref19_long s23 8).bind fun y37 =>
          if (y37 != (IntKind.u64.wrap (IntKind.i64.wrap (at_ - 76)))) = true then
            some true
          else
            (F_ref02_U32 s23 16).bind fun y43 =>
            some (y43 != 1) : Option (Bool))).bind fun j45 =>
    if (j45) = true then
      some ((⟨0, 0, 0, 0, [], false⟩ : Gapi_End), 2)
    else
      ((
        (F_ref02_U32 s25 0).bind fun y62 =>
        if (y62 != 101075792) = true then
          some true
        else
          (F_ref19_long s25 4).bind fun y67 =>
          if (y67 != 44) = true then
            some true
          else
            (F_ref02_U32 s25 16).bind fun y72 =>
            if (y72 != 0) = true then
              some true
            else
              (F_ref02_U32 s25 20).bind fun y77 =>
              if (y77 != 0) = true then
                some true
              else
                (F_ref19_long s25 24).bind fun y82 =>
                (F_ref19_long s25 32).bind fun y84 =>
                some (y82 != y84) : Option (Bool))).bind fun j86 =>
      if (j86) = true then
        some ((⟨0, 0, 0, 0, [], false⟩ : Gapi_End), 2)
      else
        (F_ref19_long s25 24).bind fun y103 =>
        (F_ref19_long s25 40).bind fun y105 =>
        (F_ref19_long s25 48).bind fun y107 =>
        if (maxI (maxI y103 y105) y107) > 1099511627776 then
          some ((⟨0, 0, 0, 0, [], false⟩ : Gapi_End), 7)
        else
          some ((⟨IntKind.i64.wrap (at_ - 76), IntKind.i64.wrap y103, IntKind.i64.wrap y105, IntKind.i64.wrap y107, [], true⟩ : Gapi_End), 0)
def F_ref19_Find (s_ : List UInt8) : Option (Gapi_End × Int) :=
  (F_ref19_record s_).bind fun y8 =>
  if y8 < 0 then
    some ((⟨0, 0, 0, 0, [], false⟩ : Gapi_End), 8)
  else
    ((
      (F_ref02_U16 s_ (IntKind.i64.wrap (y8 + 4))).bind fun y26 =>
      if (y26 != 0) = true then
        some true
      else
        (F_ref02_U16 s_ (IntKind.i64.wrap (y8 + 6))).bind fun y31 =>
        if (y31 != 0) = true then
          some true
        else
          (F_ref02_U16 s_ (IntKind.i64.wrap (y8 + 8))).bind fun y36 =>
          (F_ref02_U16 s_ (IntKind.i64.wrap (y8 + 10))).bind fun y38 =>
          some (y36 != y38) : Option (Bool))).bind fun j40 =>
    if (j40) = true then
      some ((⟨0, 0, 0, 0, [], false⟩ : Gapi_End), 2)
    else
      (F_ref02_U16 s_ (IntKind.i64.wrap (y8 + 8))).bind fun y57 =>
      (F_ref02_U32 s_ (IntKind.i64.wrap (y8 + 12))).bind fun y59 =>
      (F_ref02_U32 s_ (IntKind.i64.wrap (y8 + 16))).bind fun y61 =>
      ((
        if (y57 == 65535) = true then
          some true
        else
          if (y59 == 4294967295) = true then
            some true
          else
            some (y61 == 4294967295) : Option (Bool))).bind fun j83 =>
      ((
        if (j83) = true then
          (F_ref19_wide s_ y8).bind fun y87 =>
          if (y87.2 != 0) = true then
            some (.inr ((⟨0, 0, 0, 0, [], false⟩ : Gapi_End), y87.2))
          else
            some (.inl (y87.1.xAt, y87.1.xCount, y87.1.xSize, y87.1.xOffset, y87.1.xComment, y87.1.xWide))
        else
          some (.inl (y8, y57, y59, y61, [], false)) : Option ((Int × Int × Int × Int × (List UInt8) × Bool) ⊕ (Gapi_End × Int)))).bind fun j121 =>
      sumK j121 (fun cj121 =>
        if ((IntKind.i64.wrap (cj121.2.2.2.1 + cj121.2.2.1)) != cj121.1) = true then
          some ((⟨0, 0, 0, 0, [], false⟩ : Gapi_End), 2)
        else
          (subS s_ (IntKind.i64.wrap (y8 + 22)) s_.length).bind fun s142 =>
          some ((⟨cj121.1, cj121.2.1, cj121.2.2.1, cj121.2.2.2.1, s142, cj121.2.2.2.2.2⟩ : Gapi_End), 0))
        (fun o => some o)
def F_law19_EndAny (s_ : List UInt8) : Option (Bool) :=
  F_law19_awake.bind fun y2 =>
  if (!y2) = true then
    some false
  else
    if (s_.length : Int) > 300 then
      some true
    else
      (F_end_Find s_).bind fun y19 =>
      (F_ref19_Find s_).bind fun y32 =>
      ((
        if ((y19.1.xAt == y32.1.xAt && (y19.1.xCount == y32.1.xCount && (y19.1.xSize == y32.1.xSize && (y19.1.xOffset == y32.1.xOffset && (y19.1.xComment == y32.1.xComment && (y19.1.xWide == y32.1.xWide))))))) = true then
          some (y19.2 == y32.2)
        else
          some false : Option (Bool))).bind fun j50 =>
      some j50
def F_ref19_in (n_ : Int) (most_ : Int) : Option (Bool) :=
  ((
    if n_ ≥ 0 then
      some (decide (n_ ≤ most_))
    else
      some false : Option (Bool))).bind fun j5 =>
  some j5
def L_ref02_Put_1 (n_ : Int) (s : Int × (List Int) × Int) : Option ((Int × (List Int) × Int) ⊕ (List Int)) :=
  if s.2.2 < n_ then
    (remI s.1 256).bind fun y40 =>
    (app s.2.1 ([IntKind.u8.wrap y40] : List Int)).bind fun zs48 =>
    (quoI .u64 s.1 256).bind fun y55 =>
    some (.inl (y55, zs48, IntKind.i64.wrap (s.2.2 + 1)))
  else
    some (.inr s.2.1)
def F_ref02_Put (v : Int) (n_ : Int) : Option ((List UInt8)) :=
  (iter (L_ref02_Put_1 n_) NF (v, ([] : List Int), 0)).bind fun r60 =>
  some (r60.map byt)
def F_ref19_Put (e_ : Gapi_End) : Option ((List UInt8) × Int) :=
  ((
    if (e_.xWide) = true then
      some (1099511627776, 1099511627776)
    else
      some (65534, 4294967294) : Option (Int × Int))).bind fun j15 =>
  ((
    (F_ref19_in e_.xCount j15.1).bind fun y19 =>
    if (!y19) = true then
      some true
    else
      (F_ref19_in e_.xSize j15.2).bind fun y25 =>
      if (!y25) = true then
        some true
      else
        (F_ref19_in e_.xOffset j15.2).bind fun y31 =>
        if (!y31) = true then
          some true
        else
          if (e_.xAt != (IntKind.i64.wrap (e_.xOffset + e_.xSize))) = true then
            some true
          else
            some (decide ((e_.xComment.length : Int) > 65535)) : Option (Bool))).bind fun j44 =>
  if (j44) = true then
    some ([], 1)
  else
    ((
      if (e_.xWide) = true then
        (F_ref02_Put 101075792 4).bind fun y61 =>
        (F_ref02_Put 44 8).bind fun y63 =>
        (cat y61 y63).bind fun s65 =>
        (F_ref02_Put 45 2).bind fun y66 =>
        (cat s65 y66).bind fun s68 =>
        (cat s68 y66).bind fun s71 =>
        (F_ref02_Put 0 8).bind fun y72 =>
        (cat s71 y72).bind fun s74 =>
        (F_ref02_Put (IntKind.u64.wrap e_.xCount) 8).bind fun y76 =>
        (cat s74 y76).bind fun s78 =>
        (cat s78 y76).bind fun s82 =>
        (F_ref02_Put (IntKind.u64.wrap e_.xSize) 8).bind fun y84 =>
        (cat s82 y84).bind fun s86 =>
        (F_ref02_Put (IntKind.u64.wrap e_.xOffset) 8).bind fun y88 =>
        (cat s86 y88).bind fun s90 =>
        (F_ref02_Put 117853008 4).bind fun y92 =>
        (cat s90 y92).bind fun s94 =>
        (F_ref02_Put 0 4).bind fun y95 =>
        (cat s94 y95).bind fun s97 =>
        (F_ref02_Put (IntKind.u64.wrap e_.xAt) 8).bind fun y100 =>
        (cat s97 y100).bind fun s102 =>
        (F_ref02_Put 1 4).bind fun y103 =>
        (cat s102 y103).bind fun s105 =>
        some (s105, 65535, 4294967295, 4294967295)
      else
        some ([], e_.xCount, e_.xSize, e_.xOffset) : Option ((List UInt8) × Int × Int × Int))).bind fun j110 =>
    (F_ref02_Put 101010256 4).bind fun y113 =>
    (cat j110.1 y113).bind fun s115 =>
    (F_ref02_Put 0 4).bind fun y116 =>
    (cat s115 y116).bind fun s118 =>
    (F_ref02_Put (IntKind.u64.wrap j110.2.1) 2).bind fun y120 =>
    (cat s118 y120).bind fun s122 =>
    (cat s122 y120).bind fun s126 =>
    (F_ref02_Put (IntKind.u64.wrap j110.2.2.1) 4).bind fun y128 =>
    (cat s126 y128).bind fun s130 =>
    (F_ref02_Put (IntKind.u64.wrap j110.2.2.2) 4).bind fun y132 =>
    (cat s130 y132).bind fun s134 =>
    (F_ref02_Put (IntKind.u64.wrap (e_.xComment.length : Int)) 2).bind fun y138 =>
    (cat s134 y138).bind fun s140 =>
    (cat s140 e_.xComment).bind fun s142 =>
    some (s142, 0)
def L_law19_EndBack_1 (x_ : Gapi_End) (s : Int) : Option (Int ⊕ (Unit ⊕ Unit)) :=
  if (IntKind.i64.wrap (s + 4)) ≤ (x_.xComment.length : Int) then
    (subS x_.xComment s (IntKind.i64.wrap (s + 4))).bind fun s138 =>
    if (s138 == [80, 75, 5, 6]) = true then
      some (.inr (.inr ()))
    else
      some (.inl (IntKind.i64.wrap (s + 1)))
  else
    some (.inr (.inl ()))
def F_law19_EndBack (x_ : Gapi_End) : Option (Bool) :=
  F_law19_awake.bind fun y8 =>
  if (!y8) = true then
    some false
  else
    if (x_.xComment.length : Int) > 100 then
      some true
    else
      (F_end_Put x_).bind fun y27 =>
      (F_ref19_Put x_).bind fun y31 =>
      ((
        if (y27.2 != y31.2) = true then
          some true
        else
          some (!(y27.1 == y31.1)) : Option (Bool))).bind fun j37 =>
      if (j37) = true then
        some false
      else
        ((
          if (y31.2 != 0) = true then
            some true
          else
            some (decide (x_.xAt > 200)) : Option (Bool))).bind fun j48 =>
        if (j48) = true then
          ((
            if (y31.2 == 0) = true then
              some true
            else
              some (y27.1 == []) : Option (Bool))).bind fun j62 =>
          some j62
        else
          (mkL (0 : Int) x_.xAt).bind fun zs66 =>
          (cat (zs66.map byt) y27.1).bind fun s74 =>
          (F_end_Find s74).bind fun y76 =>
          (F_ref19_Find s74).bind fun y89 =>
          ((
            if (!(y76.1.xAt == y89.1.xAt && (y76.1.xCount == y89.1.xCount && (y76.1.xSize == y89.1.xSize && (y76.1.xOffset == y89.1.xOffset && (y76.1.xComment == y89.1.xComment && (y76.1.xWide == y89.1.xWide))))))) = true then
              some true
            else
              some (y76.2 != y89.2) : Option (Bool))).bind fun j107 =>
          if (j107) = true then
            some false
          else
            (iter (L_law19_EndBack_1 x_) NF 0).bind fun r145 =>
            sumK r145 (fun t146 =>
              ((
                if (y76.2 == 0) = true then
                  some (y76.1.xAt == x_.xAt && (y76.1.xCount == x_.xCount && (y76.1.xSize == x_.xSize && (y76.1.xOffset == x_.xOffset && (y76.1.xComment == x_.xComment && (y76.1.xWide == x_.xWide))))))
                else
                  some false : Option (Bool))).bind fun j157 =>
              some j157) fun t149 =>
            some true
end Go.Proofs.YtikkpmmhejjpaaaM

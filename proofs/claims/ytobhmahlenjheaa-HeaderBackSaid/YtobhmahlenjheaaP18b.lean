/- Layer 18 in plain terms: headers put. -/
import Derived.Test.YtobhmahlenjheaaP18a
set_option linter.unusedSimpArgs false
set_option linter.unusedVariables false
namespace Go.Proofs.YtobhmahlenjheaaM
open Go Go.RowKit

theorem vJ {α β γ : Type} {a : α} {f : α → Option γ} {g : β → Option γ} : sumK (.inl a) f g = f a := Eq.trans (Eq.refl _) (Eq.refl _)
theorem vK {α β γ : Type} {b : β} {f : α → Option γ} {g : β → Option γ} : sumK (.inr b) f g = g b := Eq.trans (Eq.refl _) (Eq.refl _)
/-- A loop that asks all of a list. -/
theorem iter_ok {l : List Int} (hl : l.length ≤ 900000) (ok : Int → Bool) {step : Int × Unit → Option ((Int × Unit) ⊕ (Unit ⊕ Unit))}
    (hs : ∀ i (hi : i < l.length), step ((i : Int), ()) = if ok l[i] = true then some (.inl (((i + 1 : Nat) : Int), ())) else some (.inr (.inl ()))) (he : step ((l.length : Int), ()) = some (.inr (.inr ()))) :
    iter step NF (0, ()) = some (if l.all ok = true then .inr () else .inl ()) := by
  refine iter_takeI l hl (fun i _ => ((i : Int), ())) (fun p => p.all ok = true) rfl _ (fun i hi hI => ?_) (fun hI => ?_)
  · rw [hs i hi]
    by_cases h : ok l[i] = true
    · rw [if_pos h]
      exact .inl ⟨rfl, by rw [List.all_append, hI]; simp [h]⟩
    · rw [if_neg h, if_neg (fun hall => h (List.all_eq_true.1 hall _ (List.getElem_mem hi)))]
      exact .inr rfl
  · rw [he, if_pos hI]
/-- A loop that puts texts one behind the other. -/
theorem iter_cats {α τ : Type} {l : List α} (hl : l.length ≤ 900000) (f : α → List UInt8) (u : τ) {step : List UInt8 × Int × Unit → Option ((List UInt8 × Int × Unit) ⊕ (List UInt8 × τ))}
    (hs : ∀ i (hi : i < l.length), step ((l.take i).flatMap f, ((i : Int), ())) = some (.inl ((l.take i).flatMap f ++ f l[i], (((i + 1 : Nat) : Int), ())))) (he : step (l.flatMap f, ((l.length : Int), ())) = some (.inr (l.flatMap f, u))) :
    iter step NF ([], (0, ())) = some (l.flatMap f, u) :=
  iter_take l hl (fun i p => (p.flatMap f, ((i : Int), ()))) _ (fun i hi => by rw [hs i hi, List.flatMap_append, List.flatMap_cons, List.flatMap_nil, List.append_nil]) he
theorem putl_len {l : List Int} {k : Nat} : (l.flatMap fun v => put v k).length = k * l.length := by
  induction l with
  | nil => rfl
  | cons v l ih => rw [List.flatMap_cons, List.length_append, put_len, ih, List.length_cons, Nat.mul_add]; omega
theorem catE {a b : List UInt8} (h : a.length + b.length ≤ 100000) : cat a b = some (a ++ b) := cat_eq a b (by omega)

def okS (m : Int) (l : List Int) : Bool := l.all fun n => decide (0 ≤ n ∧ n ≤ m)
theorem ok_step {n m : Int} {α : Type} {x y : α} : (bif decide (n < 0) then y else (bif decide (n > m) then y else x)) = if decide (0 ≤ n ∧ n ≤ m) = true then x else y := by
  by_cases h1 : n < 0
  · simp [h1, show ¬ (0 ≤ n) by omega]
  · by_cases h2 : n > m
    · simp [h1, h2, show ¬ (n ≤ m) by omega]
    · simp [h1, h2, show 0 ≤ n by omega, show n ≤ m by omega]
theorem ok_end {b : Bool} : (sumK (if b = true then (Sum.inr () : Unit ⊕ Unit) else .inl ()) (fun _ => some (false, ())) (fun _ => some (true, ()))) = some (b, ()) := by cases b <;> rfl
theorem fit_eq (m : Int) (l : List Int) (hl : l.length ≤ 100) : F_header_fit m l = some (okS m l, ()) := by
  unfold F_header_fit
  refine vB (iter_ok (l := l) (by omega) (fun n => decide (0 ≤ n ∧ n ≤ m)) (fun i hi => ?_) ?_) ok_end
  · simp only [lt_c hi, vT, idxL_nat hi, vS, w1 (show i ≤ 1000000 by omega)]
    exact ok_step
  · simp only [ge_c (Nat.lt_irrefl _), vF]
theorem short_eq (l : List Int) (hl : l.length ≤ 100) : F_ref18_short l = some (okS 65535 l, ()) := by
  unfold F_ref18_short
  refine vB (iter_ok (l := l) (by omega) (fun n => decide (0 ≤ n ∧ n ≤ 65535)) (fun i hi => ?_) ?_) ok_end
  · simp only [lt_c hi, vT, idxL_nat hi, vS, w1 (show i ≤ 1000000 by omega)]
    exact ok_step
  · simp only [ge_c (Nat.lt_irrefl _), vF]
theorem long_eq (l : List Int) (m : Int) (hl : l.length ≤ 100) : F_ref18_long l m = some (okS m l, ()) := by
  unfold F_ref18_long
  refine vB (iter_ok (l := l) (by omega) (fun n => decide (0 ≤ n ∧ n ≤ m)) (fun i hi => ?_) ?_) ok_end
  · simp only [lt_c hi, vT, idxL_nat hi, vS, w1 (show i ≤ 1000000 by omega)]
    exact ok_step
  · simp only [ge_c (Nat.lt_irrefl _), vF]

theorem putl_take {l : List Int} {k i : Nat} (hk : k ≤ 8) (hl : l.length ≤ 100) : ((l.take i).flatMap fun v => put v k).length ≤ 800 := by
  rw [putl_len]
  have h1 : (l.take i).length ≤ 100 := by simp; omega
  have h2 : k * (l.take i).length ≤ 8 * 100 := Nat.mul_le_mul hk h1
  omega
theorem p16_eq (l : List Int) (hl : l.length ≤ 100) : F_header_p16 l = some (l.flatMap (fun v => put v 2), ()) := by
  unfold F_header_p16
  refine vB (iter_cats (l := l) (by omega) (fun v => put v 2) () (fun i hi => ?_) ?_) rfl
  · have := putl_take (l := l) (k := 2) (i := i) (by omega) hl
    simp only [lt_c hi, vT, idxL_nat hi, vS, P16_eq, catE (show ((l.take i).flatMap fun v => put v 2).length + (put l[i] 2).length ≤ 100000 by rw [put_len]; omega), w1 (show i ≤ 1000000 by omega)]
  · simp only [ge_c (Nat.lt_irrefl _), vF]
theorem p32_eq (l : List Int) (hl : l.length ≤ 100) : F_header_p32 l = some (l.flatMap (fun v => put v 4), ()) := by
  unfold F_header_p32
  refine vB (iter_cats (l := l) (by omega) (fun v => put v 4) () (fun i hi => ?_) ?_) rfl
  · have := putl_take (l := l) (k := 4) (i := i) (by omega) hl
    simp only [lt_c hi, vT, idxL_nat hi, vS, P32_eq, catE (show ((l.take i).flatMap fun v => put v 4).length + (put l[i] 4).length ≤ 100000 by rw [put_len]; omega), w1 (show i ≤ 1000000 by omega)]
  · simp only [ge_c (Nat.lt_irrefl _), vF]
theorem p2_eq (l : List Int) (hl : l.length ≤ 100) : F_ref18_p2 l = some (l.flatMap (fun v => put v 2), ()) := by
  unfold F_ref18_p2
  refine vB (iter_cats (l := l) (by omega) (fun v => put v 2) () (fun i hi => ?_) ?_) rfl
  · have := putl_take (l := l) (k := 2) (i := i) (by omega) hl
    simp only [lt_c hi, vT, idxL_nat hi, vS, RPut2, catE (show ((l.take i).flatMap fun v => put v 2).length + (put l[i] 2).length ≤ 100000 by rw [put_len]; omega), w1 (show i ≤ 1000000 by omega)]
  · simp only [ge_c (Nat.lt_irrefl _), vF]
theorem p4_eq (l : List Int) (hl : l.length ≤ 100) : F_ref18_p4 l = some (l.flatMap (fun v => put v 4), ()) := by
  unfold F_ref18_p4
  refine vB (iter_cats (l := l) (by omega) (fun v => put v 4) () (fun i hi => ?_) ?_) rfl
  · have := putl_take (l := l) (k := 4) (i := i) (by omega) hl
    simp only [lt_c hi, vT, idxL_nat hi, vS, RPut4, catE (show ((l.take i).flatMap fun v => put v 4).length + (put l[i] 4).length ≤ 100000 by rw [put_len]; omega), w1 (show i ≤ 1000000 by omega)]
  · simp only [ge_c (Nat.lt_irrefl _), vF]

/-! ### A field of numbers -/
def wideB (n : List Int) : List UInt8 := n.flatMap fun v => put v 8
theorem wide_len {n : List Int} (hn : n.length ≤ 100) : (wideB n).length ≤ 800 := by
  have := putl_len (l := n) (k := 8)
  unfold wideB
  omega
theorem ints_len (s : List UInt8) : (oInts s).length = s.length := by simp
theorem byt_ints (s : List UInt8) : (oInts s).map byt = s := by
  rw [List.map_map]
  conv => rhs; rw [← List.map_id s]
  apply List.map_congr_left
  intro b _
  simp [byt]
theorem str_ints {s : List UInt8} (h0 : s ≠ []) (hs : s.length ≤ 100000) : F_strings_Builder_String (oInts s) = some (s, ()) := by
  unfold F_strings_Builder_String
  have h1 : chkNe (oInts s) = some () := by
    unfold chkNe
    cases s with
    | nil => exact absurd rfl h0
    | cons a s => rfl
  have h2 : usT (oInts s) ((oInts s).length : Int) = some s := by
    unfold usT
    have : 0 < s.length := List.length_pos_iff.2 h0
    rw [if_pos ⟨by rw [ints_len]; omega, by omega, by rw [ints_len]; omega⟩, Int.toNat_natCast, List.take_length, byt_ints]
  rw [h1, vS, h2, vS]
theorem ws_first (s : List UInt8) (hs : s.length ≤ 100000) : F_strings_Builder_WriteString s = some ((s.length : Int), (oInts s, ())) := by
  unfold F_strings_Builder_WriteString F_strings_Builder_copyCheck F_id0
  rw [vS, vS, app_of [] (oInts s) (by rw [ints_len]; simp; omega), vS]
  rfl
theorem ws_more (s : List UInt8) (a : List UInt8) (hs : s.length + a.length ≤ 100000) : F_strings_Builder_WriteString_2 s (oInts a) = some ((s.length : Int), (oInts (a ++ s), ())) := by
  unfold F_strings_Builder_WriteString_2 F_strings_Builder_copyCheck_2
  rw [vS]
  show (app (oInts a) (oInts s)).bind _ = _
  rw [app_of (oInts a) (oInts s) (by rw [ints_len, ints_len]; omega), vS, ← List.map_append]
theorem Wide_eq (n : List Int) (h0 : 0 < n.length) (hn : n.length ≤ 100) : F_extra_Wide n = some ((1, (wideB n, ())), ()) := by
  unfold F_extra_Wide
  have hl8 : ∀ i, ((n.take i).flatMap fun v => put v 8).length ≤ 800 := fun i => putl_take (by omega) hn
  have i0 : idxL n (0 : Int) = some n[0] := idxL_nat h0
  have w : IntKind.i64.wrap (0 + 1) = ((1 : Nat) : Int) := by decide +kernel
  rw [decide_eq_true (show (0 : Int) < (n.length : Int) by omega), vT, i0, vS, P64_eq, vS, ws_first _ (by rw [put_len]; omega), vS, w]
  have e0 : put n[0] 8 = (n.take 1).flatMap fun v => put v 8 := by
    rw [List.take_one]
    cases n with
    | nil => simp at h0
    | cons a n => simp
  rw [show (put n[0] 8, ()).1 = (n.take 1).flatMap fun v => put v 8 from e0]
  refine vB (iter_nat (fun i => ((i : Int), ((0 : Int), (([] : List UInt8), (oInts ((n.take i).flatMap fun v => put v 8), ()))))) (r := ((0 : Int), (([] : List UInt8), (oInts (wideB n), ())))) n.length ?_ (n.length - 1) 1 NF (by omega) (fun i h1 h2 => ?_) (by rw [NF_eq]; omega)) ?_
  · simp only [ge_c (Nat.lt_irrefl _), vF, List.take_length]; rfl
  · simp only [lt_c h2, vT, idxL_nat h2, vS, P64_eq, ws_more _ _ (show (put n[i] 8).length + ((n.take i).flatMap fun v => put v 8).length ≤ 100000 by have := hl8 i; rw [put_len]; omega), w1 (show i ≤ 1000000 by omega)]
    congr 5
    rw [List.take_succ_eq_append_getElem h2, List.flatMap_append]; simp
  · rw [str_ints (fun h => by
      have := putl_len (l := n) (k := 8)
      unfold wideB at h
      rw [h] at this; simp at this; omega) (by have := wide_len hn; omega), vS]
theorem RWide_eq (n : List Int) (hn : n.length ≤ 100) : F_ref17_Wide n = some ((1, (wideB n, ())), ()) := by
  unfold F_ref17_Wide
  have hl8 : ∀ i, ((n.take i).flatMap fun v => put v 8).length ≤ 800 := fun i => putl_take (by omega) hn
  refine vB (iter_take n (by omega) (fun i p => (p.flatMap fun v => put v 8, ((i : Int), ((0 : Int), (([] : List UInt8), ()))))) (r := (wideB n, ((0 : Int), (([] : List UInt8), ())))) (fun i hi => ?_) ?_) rfl
  · simp only [lt_c hi, vT, idxL_nat hi, vS, RPut8, catE (show ((n.take i).flatMap fun v => put v 8).length + (put n[i] 8).length ≤ 100000 by have := hl8 i; rw [put_len]; omega), w1 (show i ≤ 1000000 by omega)]
    simp only [List.flatMap_append, List.flatMap_cons, List.flatMap_nil, List.append_nil]
  · simp only [ge_c (Nat.lt_irrefl _), vF]; rfl

/-- The bytes of a field. -/
def encF (id : Int) (d : List UInt8) : List UInt8 := put id 2 ++ put d.length 2 ++ d
theorem encF_len (id : Int) (d : List UInt8) : (encF id d).length = 4 + d.length := by unfold encF; simp [put_len]; omega
theorem Put1_eq (d : List UInt8) (hd : d.length ≤ 1000) : F_extra_Put [(1, (d, ()))] = some (encF 1 d, (0, ())) := by
  unfold F_extra_Put
  have i0 : idxL [((1 : Int), (d, ()))] (0 : Int) = some (1, (d, ())) := rfl
  have c0 : decide ((0 : Int) < (([((1 : Int), (d, ()))].length : Nat) : Int)) = true := rfl
  have c1 : decide ((1 : Int) < 0) = false := rfl
  have c2 : decide ((1 : Int) > 65535) = false := rfl
  have c3 : decide ((d.length : Int) > 65535) = false := decide_eq_false (by omega)
  have w : IntKind.i64.wrap (0 + 1) = 1 := by decide +kernel
  have h1 : cat (put 1 2) (put d.length 2) = some (put 1 2 ++ put d.length 2) := catE (by rw [put_len, put_len]; omega)
  have h2 : cat (put 1 2 ++ put d.length 2) d = some (encF 1 d) := catE (by rw [List.length_append, put_len, put_len]; omega)
  have hlen := encF_len 1 d
  simp only [c0, vT, i0, vS, c1, vF, c2, c3, P16_eq, h1, h2, ws_first (encF 1 d) (by omega), w]
  have key : iter (fun v6 : Int × List Int × Unit => bif decide (v6.1 < (([((1 : Int), (d, ()))].length : Nat) : Int)) then ((idxL [((1 : Int), (d, ()))] v6.1).bind fun v7 => bif decide (v7.1 < 0) then (some (.inr (.inl ((([] : (List UInt8)) : List UInt8), ((1 : Int), ()))))) else (bif decide (v7.1 > 65535) then (some (.inr (.inl ((([] : (List UInt8)) : List UInt8), ((1 : Int), ()))))) else (bif decide ((v7.2.1.length : Int) > 65535) then (some (.inr (.inl ((([] : (List UInt8)) : List UInt8), ((1 : Int), ()))))) else ((F_field_P16 v7.1).bind fun v8 => (F_field_P16 (v7.2.1.length : Int)).bind fun v9 => (cat v8.1 v9.1).bind fun v10 => (cat v10 v7.2.1).bind fun v11 => (F_strings_Builder_WriteString_2 v11 v6.2.1).bind fun v12 => some (.inl (IntKind.i64.wrap (v6.1 + 1), v12.2)))))) else (some (.inr (.inr v6.2) : (Int × List Int × Unit) ⊕ ((List UInt8 × Int × Unit) ⊕ (List Int × Unit))))) NF (1, (oInts (encF 1 d), ())) = some (.inr (oInts (encF 1 d), ())) := by
    rw [NF_eq]; exact iter_inr rfl
  refine vB key ?_
  rw [vK]
  unfold F_strings_Builder_Len
  rw [vS]
  have c4 : decide (((oInts (encF 1 d)).length : Int) > 65535) = false := decide_eq_false (by rw [ints_len]; omega)
  simp only [c4, vF, str_ints (s := encF 1 d) (fun h => by rw [h] at hlen; simp at hlen; omega) (by omega), vS]
theorem RPut1_eq (d : List UInt8) (hd : d.length ≤ 1000) : F_ref17_Put [(1, (d, ()))] = some (encF 1 d, (0, ())) := by
  unfold F_ref17_Put
  have i0 : idxL [((1 : Int), (d, ()))] ((0 : Nat) : Int) = some (1, (d, ())) := rfl
  have c0 : decide (((0 : Nat) : Int) < (([((1 : Int), (d, ()))].length : Nat) : Int)) = true := rfl
  have c1 : decide ((1 : Int) < 0) = false := rfl
  have c2 : decide ((1 : Int) > 65535) = false := rfl
  have c3 : decide ((d.length : Int) > 65535) = false := decide_eq_false (by omega)
  have hlen := encF_len 1 d
  have h0 : cat ([] : List UInt8) (put 1 2) = some (put 1 2) := catE (by rw [put_len]; simp)
  have h1 : cat (put 1 2) (put d.length 2) = some (put 1 2 ++ put d.length 2) := catE (by rw [put_len, put_len]; omega)
  have h2 : cat (put 1 2 ++ put d.length 2) d = some (encF 1 d) := catE (by rw [List.length_append, put_len, put_len]; omega)
  refine vB (iter_take [((1 : Int), (d, ()))] (by simp) (fun i p => (p.flatMap fun x => encF x.1 x.2.1, ((i : Int), ()))) (r := .inr (encF 1 d, ())) (fun i hi => ?_) ?_) ?_
  · obtain rfl : i = 0 := by simpa using hi
    simp only [c0, vT, i0, vS, c1, vF, c2, c3, List.take_zero, List.flatMap_nil, RPut2, h0, h1, h2, w1 (show 0 ≤ 1000000 by omega)]
    simp
  · simp only [ge_c (Nat.lt_irrefl _), vF]; simp
  · have c4 : decide (((encF 1 d).length : Int) > 65535) = false := decide_eq_false (by omega)
    simp only [vK, c4, vF]

/-! ### How numbers stand -/
def sizesS (n : List Int) (x : List UInt8) (w : Bool) : List Int × List UInt8 × Int :=
  if w = true then (if okS 1099511627776 n = true then (n.map fun _ => 4294967295, encF 1 (wideB n) ++ x, 0) else ([], [], 1)) else if okS 4294967294 n = true then (n, x, 0) else ([], [], 1)
theorem sizes_len {n : List Int} {x : List UInt8} {w : Bool} (hn : n.length ≤ 10) (hx : x.length ≤ 60) : (sizesS n x w).2.1.length ≤ 1000 := by
  have := putl_len (l := n) (k := 8)
  have h2 : (wideB n).length ≤ 80 := by unfold wideB; omega
  unfold sizesS
  split
  · split
    · simp only [List.length_append, encF_len]; omega
    · simp
  · split
    · simp only; omega
    · simp
theorem RSizes_eq (n : List Int) (x : List UInt8) (w : Bool) (hn : n.length ≤ 10) (hx : x.length ≤ 60) : F_ref18_sizes n x w = some ((sizesS n x w).1, ((sizesS n x w).2.1, ((sizesS n x w).2.2, ()))) := by
  have h2 : (wideB n).length ≤ 80 := by have := putl_len (l := n) (k := 8); unfold wideB; omega
  have c1 : decide ((x.length : Int) > 65535) = false := decide_eq_false (by omega)
  unfold F_ref18_sizes sizesS
  cases w with
  | false =>
    simp only [vF, vS, long_eq n _ (by omega : n.length ≤ 100), Bool.false_eq_true, if_false]
    cases h : okS 4294967294 n with
    | false => simp only [Bool.not_false, vT, Bool.false_eq_true, if_false]
    | true => simp only [Bool.not_true, vF, c1, Bool.not_false, vT, if_true]
  | true =>
    simp only [vT, vS, long_eq n _ (by omega : n.length ≤ 100), if_true]
    cases h : okS 1099511627776 n with
    | false => simp only [Bool.not_false, vT, Bool.false_eq_true, if_false]
    | true =>
      simp only [Bool.not_true, vF, c1, if_true, RWide_eq n (by omega), vS, RPut1_eq (wideB n) (by omega), catE (show (encF 1 (wideB n)).length + x.length ≤ 100000 by rw [encF_len]; omega)]
      refine vB (iter_take n (by omega) (fun i p => ((i : Int), (p.map (fun _ => (4294967295 : Int)), ()))) (r := (n.map (fun _ => (4294967295 : Int)), ())) (fun i hi => ?_) ?_) ?_
      · simp only [lt_c hi, vT, app1 (show ((n.take i).map fun _ => (4294967295 : Int)).length ≤ 1000000 by simp; omega), vS, w1 (show i ≤ 1000000 by omega)]
        simp only [List.map_append, List.map_cons, List.map_nil]
      · simp only [ge_c (Nat.lt_irrefl _), vF]
      · have c2 : decide (((encF 1 (wideB n) ++ x).length : Int) > 65535) = false := decide_eq_false (by rw [List.length_append, encF_len]; omega)
        simp only [c2, vF]
/-- As an array of three. -/
def arr3 (n : List Int) : Int × Int × Int × Unit := (n.headD 0, (n.tail.headD 0, (n.tail.tail.headD 0, ())))
theorem Standing_eq (n : List Int) (x : List UInt8) (w : Bool) (h0 : 0 < n.length) (hn : n.length ≤ 3) (hx : x.length ≤ 60) : ∃ a : Int × Int × Int × Unit, F_header_standing x w n = some ((a, ((sizesS n x w).2.1, ())), ((sizesS n x w).2.2, ())) ∧
    ((sizesS n x w).2.2 = 0 → ∀ i (hi : i < (sizesS n x w).1.length), (i = 0 → a.1 = (sizesS n x w).1[i]) ∧ (i = 1 → a.2.1 = (sizesS n x w).1[i]) ∧ (i = 2 → a.2.2.1 = (sizesS n x w).1[i])) := by
  have h2 : (wideB n).length ≤ 80 := by have := putl_len (l := n) (k := 8); unfold wideB; omega
  have ck : chkCp n.length 3 = some () := by unfold chkCp; rw [if_pos ⟨h0, hn⟩]
  unfold F_header_standing sizesS
  rw [ck, vS]
  cases w with
  | false =>
    simp only [Bool.not_false, vT, fit_eq _ n (by omega : n.length ≤ 100), vS, Bool.false_eq_true, if_false]
    cases h : okS 4294967294 n with
    | false =>
      simp only [Bool.not_false, vT, Bool.false_eq_true, if_false]
      exact ⟨_, rfl, fun e => by simp at e⟩
    | true =>
      simp only [Bool.not_true, vF, if_true]
      refine ⟨arr3 n, rfl, fun _ i hi => ⟨fun e => ?_, fun e => ?_, fun e => ?_⟩⟩
      · subst e; cases n with | nil => simp at hi | cons a n => rfl
      · subst e; cases n with | nil => simp at hi | cons a n => cases n with | nil => simp at hi | cons b n => rfl
      · subst e; cases n with | nil => simp at hi | cons a n => cases n with | nil => simp at hi | cons b n => cases n with | nil => simp at hi | cons c n => rfl
  | true =>
    simp only [Bool.not_true, vF, fit_eq _ n (by omega : n.length ≤ 100), vS, if_true]
    cases h : okS 1099511627776 n with
    | false =>
      simp only [Bool.not_false, vT, Bool.false_eq_true, if_false]
      exact ⟨_, rfl, fun e => by simp at e⟩
    | true =>
      have c2 : decide (((encF 1 (wideB n) ++ x).length : Int) > 65535) = false := decide_eq_false (by rw [List.length_append, encF_len]; omega)
      simp only [Bool.not_true, vF, if_true, Wide_eq n h0 (by omega), vS, Put1_eq (wideB n) (by omega), catE (show (encF 1 (wideB n)).length + x.length ≤ 100000 by rw [encF_len]; omega), c2]
      refine ⟨_, rfl, fun _ i hi => ⟨fun e => ?_, fun e => ?_, fun e => ?_⟩⟩ <;> simp
end Go.Proofs.YtobhmahlenjheaaM

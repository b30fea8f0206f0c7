/- Layer 18 in plain terms: the bytes of headers; HeaderPuts. -/
import Derived.Test.YtobhmahlenjheaaP18b
import Derived.KernelRfl
set_option linter.unusedSimpArgs false
set_option linter.unusedVariables false
namespace Go.Proofs.YtobhmahlenjheaaM
open Go Go.RowKit

abbrev HdT : Type := Int × Int × Int × Int × Int × Int × Int × Int × Int × Int × Int × List UInt8 × List UInt8 × List UInt8 × Unit
def b16 (l : List Int) : List UInt8 := l.flatMap fun v => put v 2
def b32 (l : List Int) : List UInt8 := l.flatMap fun v => put v 4
theorem b16_len (l : List Int) : (b16 l).length = 2 * l.length := putl_len
theorem b32_len (l : List Int) : (b32 l).length = 4 * l.length := putl_len
/-- A central header's bytes. -/
def cenB (made need flags method time crc inner outer n0 n1 n2 : Int) (name x comment : List UInt8) : List UInt8 :=
  b32 [33639248] ++ b16 [made, need, flags, method] ++ b32 [time, crc, n1, n0] ++ b16 [name.length, x.length, comment.length, 0, inner] ++ b32 [outer, n2] ++ name ++ x ++ comment
def locB (need flags method time crc n0 n1 : Int) (name x : List UInt8) : List UInt8 :=
  b32 [67324752] ++ b16 [need, flags, method] ++ b32 [time, crc, n1, n0] ++ b16 [name.length, x.length] ++ name ++ x
def putC (made need flags method time crc packed size inner outer offset : Int) (name extra comment : List UInt8) (w : Bool) : List UInt8 × Int :=
  if okS 65535 [made, need, flags, method, inner, name.length, comment.length] = true ∧ okS 4294967295 [time, crc, outer] = true then
    if (sizesS [size, packed, offset] extra w).2.2 = 0 then
      (cenB made need flags method time crc inner outer ((sizesS [size, packed, offset] extra w).1.getD 0 0) ((sizesS [size, packed, offset] extra w).1.getD 1 0) ((sizesS [size, packed, offset] extra w).1.getD 2 0) name (sizesS [size, packed, offset] extra w).2.1 comment, 0)
    else ([], (sizesS [size, packed, offset] extra w).2.2)
  else ([], 1)
def putL (need flags method time crc packed size : Int) (name extra : List UInt8) (w : Bool) : List UInt8 × Int :=
  if okS 65535 [need, flags, method, name.length] = true ∧ okS 4294967295 [time, crc] = true then
    if (sizesS [size, packed] extra w).2.2 = 0 then
      (locB need flags method time crc ((sizesS [size, packed] extra w).1.getD 0 0) ((sizesS [size, packed] extra w).1.getD 1 0) name (sizesS [size, packed] extra w).2.1, 0)
    else ([], (sizesS [size, packed] extra w).2.2)
  else ([], 1)

theorem okS_app (m : Int) (a b : List Int) : okS m (a ++ b) = (okS m a && okS m b) := List.all_append
theorem okS_ex {a b : List Int} {x : List UInt8} (hx : x.length ≤ 60) : okS 65535 (a ++ (x.length : Int) :: b) = okS 65535 (a ++ b) := by
  have : okS 65535 ((x.length : Int) :: b) = okS 65535 b := by
    unfold okS
    rw [List.all_cons, decide_eq_true (show 0 ≤ (x.length : Int) ∧ (x.length : Int) ≤ 65535 by omega), Bool.true_and]
  rw [okS_app, okS_app, this]
theorem sizes_n {n : List Int} {x : List UInt8} {w : Bool} (h : (sizesS n x w).2.2 = 0) : (sizesS n x w).1.length = n.length := by
  unfold sizesS at *
  split
  · rename_i hw; rw [if_pos hw] at h
    split
    · simp
    · rename_i hk; rw [if_neg hk] at h; cases h
  · rename_i hw; rw [if_neg hw] at h
    split
    · rfl
    · rename_i hk; rw [if_neg hk] at h; cases h
theorem ne_c {a : Int} (h : a = 0) : (a != 0) = false := by rw [h]; rfl
theorem ne_t {a : Int} (h : ¬ a = 0) : (a != 0) = true := by simpa using h
theorem idx_getD {l : List Int} {i : Nat} (hi : i < l.length) : idxL l (i : Int) = some (l.getD i 0) := by
  rw [idxL_nat hi, List.getD_eq_getElem?_getD, List.getElem?_eq_getElem hi]; rfl

theorem PutCentral_eq (made need flags method time crc packed size inner outer offset : Int) (name extra comment : List UInt8) (w : Bool) (h1 : name.length ≤ 60) (h2 : extra.length ≤ 60) (h3 : comment.length ≤ 60) :
    F_header_PutCentral (made, need, flags, method, time, crc, packed, size, inner, outer, offset, name, extra, comment, ()) w = some ((putC made need flags method time crc packed size inner outer offset name extra comment w).1, ((putC made need flags method time crc packed size inner outer offset name extra comment w).2, ())) := by
  have hx := sizes_len (n := [size, packed, offset]) (w := w) (by simp) h2
  have hsn := sizes_n (n := [size, packed, offset]) (x := extra) (w := w)
  obtain ⟨a, ha, hb⟩ := Standing_eq [size, packed, offset] extra w (by simp) (by simp) h2
  unfold F_header_PutCentral putC
  refine vB (fit_eq _ _ (by simp)) ?_
  have e8 : okS 65535 [made, need, flags, method, inner, (name.length : Int), (extra.length : Int), (comment.length : Int)] = okS 65535 [made, need, flags, method, inner, (name.length : Int), (comment.length : Int)] := okS_ex (a := [made, need, flags, method, inner, (name.length : Int)]) h2
  simp only [e8]
  cases k1 : okS 65535 [made, need, flags, method, inner, (name.length : Int), (comment.length : Int)] with
  | false => simp only [Bool.not_false, vT, Bool.false_eq_true, false_and, if_false]
  | true =>
    simp only [Bool.not_true, vF, true_and]
    refine vB (fit_eq _ _ (by simp)) ?_
    cases k2 : okS 4294967295 [time, crc, outer] with
    | false => simp only [Bool.not_false, vT, Bool.false_eq_true, if_false]
    | true =>
      simp only [Bool.not_true, vF, if_true]
      refine vB ha ?_
      by_cases hz : (sizesS [size, packed, offset] extra w).2.2 = 0
      · have hsn := hsn hz
        have g0 := (hb hz 0 (by rw [hsn]; simp)).1 rfl
        have g1 := (hb hz 1 (by rw [hsn]; simp)).2.1 rfl
        have g2 := (hb hz 2 (by rw [hsn]; simp)).2.2 rfl
        simp only [ne_c hz, vF, if_pos hz]
        have gd : ∀ i (hi : i < (sizesS [size, packed, offset] extra w).1.length), (sizesS [size, packed, offset] extra w).1.getD i 0 = (sizesS [size, packed, offset] extra w).1[i] := fun i hi => by rw [List.getD_eq_getElem?_getD, List.getElem?_eq_getElem hi]; rfl
        rw [gd 0 (by rw [hsn]; simp), gd 1 (by rw [hsn]; simp), gd 2 (by rw [hsn]; simp), ← g0, ← g1, ← g2]
        generalize (sizesS [size, packed, offset] extra w).2.1 = x at hx
        refine vB (p32_eq _ (by simp)) (vB (p16_eq _ (by simp)) (vB (p32_eq _ (by simp)) (vB (p16_eq _ (by simp)) (vB (p32_eq _ (by simp)) ?_))))
        simp only []
        refine vB (catE ?_) (vB (catE ?_) (vB (catE ?_) (vB (catE ?_) (vB (catE ?_) (vB (catE ?_) (vB (catE ?_) rfl))))))
        all_goals simp only [List.length_append, putl_len, List.length_cons, List.length_nil]
        all_goals omega
      · simp only [ne_t hz, vT, if_neg hz]
theorem RPutCentral_eq (made need flags method time crc packed size inner outer offset : Int) (name extra comment : List UInt8) (w : Bool) (h1 : name.length ≤ 60) (h2 : extra.length ≤ 60) (h3 : comment.length ≤ 60) :
    F_ref18_PutCentral (made, need, flags, method, time, crc, packed, size, inner, outer, offset, name, extra, comment, ()) w = some ((putC made need flags method time crc packed size inner outer offset name extra comment w).1, ((putC made need flags method time crc packed size inner outer offset name extra comment w).2, ())) := by
  have hx := sizes_len (n := [size, packed, offset]) (w := w) (by simp) h2
  have hsn := sizes_n (n := [size, packed, offset]) (x := extra) (w := w)
  unfold F_ref18_PutCentral putC
  refine vB (short_eq _ (by simp)) ?_
  simp only []
  cases k1 : okS 65535 [made, need, flags, method, inner, (name.length : Int), (comment.length : Int)] with
  | false => simp only [Bool.not_false, vT, Bool.false_eq_true, false_and, if_false]
  | true =>
    simp only [Bool.not_true, vF, true_and]
    refine vB (long_eq _ _ (by simp)) ?_
    cases k2 : okS 4294967295 [time, crc, outer] with
    | false => simp only [Bool.not_false, vT, Bool.false_eq_true, if_false]
    | true =>
      simp only [Bool.not_true, vF, if_true]
      refine vB (RSizes_eq _ _ _ (by simp) h2) ?_
      by_cases hz : (sizesS [size, packed, offset] extra w).2.2 = 0
      · have hsn := hsn hz
        simp only [ne_c hz, vF, if_pos hz]
        generalize (sizesS [size, packed, offset] extra w).2.1 = x at hx
        generalize (sizesS [size, packed, offset] extra w).1 = n at hsn
        refine vB (p4_eq _ (by simp)) (vB (p2_eq _ (by simp)) (vB (idx_getD (i := 1) (by rw [hsn]; simp)) (vB (idx_getD (i := 0) (by rw [hsn]; simp)) (vB (p4_eq _ (by simp)) (vB (p2_eq _ (by simp)) (vB (idx_getD (i := 2) (by rw [hsn]; simp)) (vB (p4_eq _ (by simp)) ?_)))))))
        simp only []
        refine vB (catE ?_) (vB (catE ?_) (vB (catE ?_) (vB (catE ?_) (vB (catE ?_) (vB (catE ?_) (vB (catE ?_) rfl))))))
        all_goals simp only [List.length_append, putl_len, List.length_cons, List.length_nil]
        all_goals omega
      · simp only [ne_t hz, vT, if_neg hz]
theorem PutLocal_eq (made need flags method time crc packed size inner outer offset : Int) (name extra comment : List UInt8) (w : Bool) (h1 : name.length ≤ 60) (h2 : extra.length ≤ 60) :
    F_header_PutLocal (made, need, flags, method, time, crc, packed, size, inner, outer, offset, name, extra, comment, ()) w = some ((putL need flags method time crc packed size name extra w).1, ((putL need flags method time crc packed size name extra w).2, ())) := by
  have hx := sizes_len (n := [size, packed]) (w := w) (by simp) h2
  have hsn := sizes_n (n := [size, packed]) (x := extra) (w := w)
  obtain ⟨a, ha, hb⟩ := Standing_eq [size, packed] extra w (by simp) (by simp) h2
  unfold F_header_PutLocal putL
  refine vB (fit_eq _ _ (by simp)) ?_
  have e8 : okS 65535 [need, flags, method, (name.length : Int), (extra.length : Int)] = okS 65535 [need, flags, method, (name.length : Int)] := okS_ex (a := [need, flags, method, (name.length : Int)]) (b := []) h2
  simp only [e8]
  cases k1 : okS 65535 [need, flags, method, (name.length : Int)] with
  | false => simp only [Bool.not_false, vT, Bool.false_eq_true, false_and, if_false]
  | true =>
    simp only [Bool.not_true, vF, true_and]
    refine vB (fit_eq _ _ (by simp)) ?_
    cases k2 : okS 4294967295 [time, crc] with
    | false => simp only [Bool.not_false, vT, Bool.false_eq_true, if_false]
    | true =>
      simp only [Bool.not_true, vF, if_true]
      refine vB ha ?_
      by_cases hz : (sizesS [size, packed] extra w).2.2 = 0
      · have hsn := hsn hz
        have g0 := (hb hz 0 (by rw [hsn]; simp)).1 rfl
        have g1 := (hb hz 1 (by rw [hsn]; simp)).2.1 rfl
        simp only [ne_c hz, vF, if_pos hz]
        have gd : ∀ i (hi : i < (sizesS [size, packed] extra w).1.length), (sizesS [size, packed] extra w).1.getD i 0 = (sizesS [size, packed] extra w).1[i] := fun i hi => by rw [List.getD_eq_getElem?_getD, List.getElem?_eq_getElem hi]; rfl
        rw [gd 0 (by rw [hsn]; simp), gd 1 (by rw [hsn]; simp), ← g0, ← g1]
        generalize (sizesS [size, packed] extra w).2.1 = x at hx
        refine vB (p32_eq _ (by simp)) (vB (p16_eq _ (by simp)) (vB (p32_eq _ (by simp)) (vB (p16_eq _ (by simp)) ?_)))
        simp only []
        refine vB (catE ?_) (vB (catE ?_) (vB (catE ?_) (vB (catE ?_) (vB (catE ?_) rfl))))
        all_goals simp only [List.length_append, putl_len, List.length_cons, List.length_nil]
        all_goals omega
      · simp only [ne_t hz, vT, if_neg hz]
theorem RPutLocal_eq (made need flags method time crc packed size inner outer offset : Int) (name extra comment : List UInt8) (w : Bool) (h1 : name.length ≤ 60) (h2 : extra.length ≤ 60) :
    F_ref18_PutLocal (made, need, flags, method, time, crc, packed, size, inner, outer, offset, name, extra, comment, ()) w = some ((putL need flags method time crc packed size name extra w).1, ((putL need flags method time crc packed size name extra w).2, ())) := by
  have hx := sizes_len (n := [size, packed]) (w := w) (by simp) h2
  have hsn := sizes_n (n := [size, packed]) (x := extra) (w := w)
  unfold F_ref18_PutLocal putL
  refine vB (short_eq _ (by simp)) ?_
  simp only []
  cases k1 : okS 65535 [need, flags, method, (name.length : Int)] with
  | false => simp only [Bool.not_false, vT, Bool.false_eq_true, false_and, if_false]
  | true =>
    simp only [Bool.not_true, vF, true_and]
    refine vB (long_eq _ _ (by simp)) ?_
    cases k2 : okS 4294967295 [time, crc] with
    | false => simp only [Bool.not_false, vT, Bool.false_eq_true, if_false]
    | true =>
      simp only [Bool.not_true, vF, if_true]
      refine vB (RSizes_eq _ _ _ (by simp) h2) ?_
      by_cases hz : (sizesS [size, packed] extra w).2.2 = 0
      · have hsn := hsn hz
        simp only [ne_c hz, vF, if_pos hz]
        generalize (sizesS [size, packed] extra w).2.1 = x at hx
        generalize (sizesS [size, packed] extra w).1 = n at hsn
        refine vB (p4_eq _ (by simp)) (vB (p2_eq _ (by simp)) (vB (idx_getD (i := 1) (by rw [hsn]; simp)) (vB (idx_getD (i := 0) (by rw [hsn]; simp)) (vB (p4_eq _ (by simp)) (vB (p2_eq _ (by simp)) ?_)))))
        simp only []
        refine vB (catE ?_) (vB (catE ?_) (vB (catE ?_) (vB (catE ?_) (vB (catE ?_) rfl))))
        all_goals simp only [List.length_append, putl_len, List.length_cons, List.length_nil]
        all_goals omega
      · simp only [ne_t hz, vT, if_neg hz]

theorem awake18 : F_law18_awake = some (true, ()) := by kernel_rfl
theorem true_law18_HeaderPuts (h : HdT) (w : Bool) : F_law18_HeaderPuts h w = some (true, ()) := by
  obtain ⟨made, need, flags, method, time, crc, packed, size, inner, outer, offset, name, extra, comment, ⟨⟩⟩ := h
  unfold F_law18_HeaderPuts
  refine vB awake18 ?_
  simp only [Bool.not_true, vF]
  cases k1 : decide ((name.length : Int) > 60) with
  | true => simp only [vT]
  | false =>
    simp only [vF]
    cases k2 : decide ((extra.length : Int) > 60) with
    | true => simp only [vT]
    | false =>
      simp only [vF]
      cases k3 : decide ((comment.length : Int) > 60) with
      | true => simp only [vT]
      | false =>
        simp only [vF]
        have h1 : name.length ≤ 60 := by have := of_decide_eq_false k1; omega
        have h2 : extra.length ≤ 60 := by have := of_decide_eq_false k2; omega
        have h3 : comment.length ≤ 60 := by have := of_decide_eq_false k3; omega
        refine vB (PutCentral_eq _ _ _ _ _ _ _ _ _ _ _ _ _ _ w h1 h2 h3) (vB (RPutCentral_eq _ _ _ _ _ _ _ _ _ _ _ _ _ _ w h1 h2 h3) (vB (PutLocal_eq _ _ _ _ _ _ _ _ _ _ _ _ _ comment w h1 h2) (vB (RPutLocal_eq _ _ _ _ _ _ _ _ _ _ _ _ _ comment w h1 h2) ?_)))
        simp only [beq_self_eq_true, vT, vS]
end Go.Proofs.YtobhmahlenjheaaM

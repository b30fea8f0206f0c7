/- HeaderBack. -/
import Derived.Test.YtobhmahlenjheaaP18g
set_option linter.unusedSimpArgs false
set_option linter.unusedVariables false
namespace Go.Proofs.YtobhmahlenjheaaM
open Go Go.RowKit

theorem cen_len (made need flags method time crc inner outer n0 n1 n2 : Int) (name x comment : List UInt8) : (cenB made need flags method time crc inner outer n0 n1 n2 name x comment).length = 46 + name.length + x.length + comment.length := by
  unfold cenB
  simp only [List.length_append, b16_len, b32_len, List.length_cons, List.length_nil]
theorem loc_len (need flags method time crc n0 n1 : Int) (name x : List UInt8) : (locB need flags method time crc n0 n1 name x).length = 30 + name.length + x.length := by
  unfold locB
  simp only [List.length_append, b16_len, b32_len, List.length_cons, List.length_nil]
theorem okS_sub {m : Int} {a b : List Int} (h : okS m a = true) (hs : ∀ v ∈ b, v ∈ a) : okS m b = true := List.all_eq_true.2 fun v hv => List.all_eq_true.1 h v (hs v hv)
theorem okS_up {m m' : Int} {a : List Int} (h : okS m a = true) (hm : m ≤ m') : okS m' a = true := List.all_eq_true.2 fun v hv => by
  have := okS_mem h hv
  exact decide_eq_true ⟨this.1, by omega⟩

section
variable (made need flags method time crc packed size inner outer offset : Int) (name extra comment : List UInt8) (h1 : name.length ≤ 60) (h2 : extra.length ≤ 60) (h3 : comment.length ≤ 60) {l : List XT} (hp : pzS extra = some l)
include h1 h2 h3 hp
/-- What is read again of what is put. -/
theorem back_C (w : Bool) (hz : (putC made need flags method time crc packed size inner outer offset name extra comment w).2 = 0) : ∃ a x : List UInt8, putC made need flags method time crc packed size inner outer offset name extra comment w = (a, 0) ∧ a.length ≤ 1000 ∧
    x = (if w = true then encF 1 (wideB [size, packed, offset]) ++ extra else extra) ∧
    F_header_Central (a ++ [109, 111, 114, 101]) 0 = some (((made, need, flags, method, time, crc, packed, size, inner, outer, offset, name, x, comment, ()), ((a.length : Int), (0, ())))) ∧
    ∃ c y : List UInt8, putL need flags method time crc packed size name extra w = (c, 0) ∧ c.length ≤ 1000 ∧ y = (if w = true then encF 1 (wideB [size, packed]) ++ extra else extra) ∧
    F_header_Local (c ++ [109, 111, 114, 101]) 0 = some (((0, need, flags, method, time, crc, packed, size, 0, 0, 0, name, y, [], ()), ((c.length : Int), (0, ())))) := by
  unfold putC at hz ⊢
  by_cases k : okS 65535 [made, need, flags, method, inner, (name.length : Int), (comment.length : Int)] = true ∧ okS 4294967295 [time, crc, outer] = true
  rotate_left
  · rw [if_neg k] at hz; cases hz
  rw [if_pos k] at hz ⊢
  by_cases ks : (sizesS [size, packed, offset] extra w).2.2 = 0
  rotate_left
  · rw [if_neg ks] at hz; exact absurd hz ks
  rw [if_pos ks]
  obtain ⟨k1, k2⟩ := k
  have k3 : okS 65535 [need, flags, method, (name.length : Int)] = true := okS_sub k1 (by simp)
  have k4 : okS 4294967295 [time, crc] = true := okS_sub k2 (by simp)
  unfold putL
  cases w with
  | false =>
    have ho : okS 4294967294 [size, packed, offset] = true := by
      cases h : okS 4294967294 [size, packed, offset] with
      | true => rfl
      | false => unfold sizesS at ks; rw [h] at ks; simp at ks
    have ho2 : okS 4294967294 [size, packed] = true := okS_sub ho (by simp)
    have e1 : sizesS [size, packed, offset] extra false = ([size, packed, offset], extra, 0) := by unfold sizesS; rw [ho]; rfl
    have e2 : sizesS [size, packed] extra false = ([size, packed], extra, 0) := by unfold sizesS; rw [ho2]; rfl
    rw [e1, e2]
    have m := fun v hv => okS_mem ho (v := v) hv
    have hl1 := cen_len made need flags method time crc inner outer size packed offset name extra comment
    have hl2 := loc_len need flags method time crc size packed name extra
    refine ⟨cenB made need flags method time crc inner outer size packed offset name extra comment, extra, rfl, by omega, rfl, ?_, locB need flags method time crc size packed name extra, extra, (by rw [if_pos ⟨k3, k4⟩]; rfl), by omega, rfl, ?_⟩
    · have := cen_back made need flags method time crc inner outer size packed offset name extra comment [109, 111, 114, 101] k1 k2 (okS_up ho (by omega)) (by omega) hp (res_plain _ (m size (by simp)).2 (m packed (by simp)).2 (m offset (by simp)).2)
      have hC := Central_eq (cenB made need flags method time crc inner outer size packed offset name extra comment ++ [109, 111, 114, 101]) (by rw [List.length_append, hl1]; simp; omega) 0 (by rw [List.length_append, hl1]; omega)
      rw [this] at hC
      exact hC
    · have := loc_back need flags method time crc size packed name extra [109, 111, 114, 101] k3 k4 (okS_up ho2 (by omega)) (by omega) hp (res_plain _ (c := 0) (m size (by simp)).2 (m packed (by simp)).2 (by omega)) (by
        have a1 := (m size (by simp)).2
        have a2 := (m packed (by simp)).2
        rw [show (packed == 4294967295) = false by simp; omega, show (size == 4294967295) = false by simp; omega])
      have hC := Local_eq (locB need flags method time crc size packed name extra ++ [109, 111, 114, 101]) (by rw [List.length_append, hl2]; simp; omega) 0 (by rw [List.length_append, hl2]; omega)
      rw [this] at hC
      exact hC
  | true =>
    have ho : okS 1099511627776 [size, packed, offset] = true := by
      cases h : okS 1099511627776 [size, packed, offset] with
      | true => rfl
      | false => unfold sizesS at ks; rw [h] at ks; simp at ks
    have ho2 : okS 1099511627776 [size, packed] = true := okS_sub ho (by simp)
    have e1 : sizesS [size, packed, offset] extra true = ([4294967295, 4294967295, 4294967295], encF 1 (wideB [size, packed, offset]) ++ extra, 0) := by unfold sizesS; rw [ho]; rfl
    have e2 : sizesS [size, packed] extra true = ([4294967295, 4294967295], encF 1 (wideB [size, packed]) ++ extra, 0) := by unfold sizesS; rw [ho2]; rfl
    rw [e1, e2]
    have w3 : (wideB [size, packed, offset]).length = 24 := putl_len
    have w2 : (wideB [size, packed]).length = 16 := putl_len
    have x3 : (encF 1 (wideB [size, packed, offset]) ++ extra).length ≤ 88 := by rw [List.length_append, encF_len]; omega
    have x2 : (encF 1 (wideB [size, packed]) ++ extra).length ≤ 88 := by rw [List.length_append, encF_len]; omega
    have hl1 := cen_len made need flags method time crc inner outer 4294967295 4294967295 4294967295 name (encF 1 (wideB [size, packed, offset]) ++ extra) comment
    have hl2 := loc_len need flags method time crc 4294967295 4294967295 name (encF 1 (wideB [size, packed]) ++ extra)
    have p3 := pz_enc (wideB [size, packed, offset]) extra (by omega)
    have p2 := pz_enc (wideB [size, packed]) extra (by omega)
    rw [hp] at p2 p3
    refine ⟨cenB made need flags method time crc inner outer 4294967295 4294967295 4294967295 name (encF 1 (wideB [size, packed, offset]) ++ extra) comment, _, rfl, by omega, rfl, ?_, locB need flags method time crc 4294967295 4294967295 name (encF 1 (wideB [size, packed]) ++ extra), _, (by rw [if_pos ⟨k3, k4⟩]; rfl), by omega, rfl, ?_⟩
    · have := cen_back made need flags method time crc inner outer 4294967295 4294967295 4294967295 name (encF 1 (wideB [size, packed, offset]) ++ extra) comment [109, 111, 114, 101] k1 k2 (by decide) (by omega) p3 (res_wide3 ho)
      have hC := Central_eq (cenB made need flags method time crc inner outer 4294967295 4294967295 4294967295 name (encF 1 (wideB [size, packed, offset]) ++ extra) comment ++ [109, 111, 114, 101]) (by rw [List.length_append, hl1]; simp only [List.length_cons, List.length_nil]; omega) 0 (by rw [List.length_append, hl1]; omega)
      rw [this] at hC
      exact hC
    · have := loc_back need flags method time crc 4294967295 4294967295 name (encF 1 (wideB [size, packed]) ++ extra) [109, 111, 114, 101] k3 k4 (by decide) (by omega) p2 (res_wide2 ho2) rfl
      have hC := Local_eq (locB need flags method time crc 4294967295 4294967295 name (encF 1 (wideB [size, packed]) ++ extra) ++ [109, 111, 114, 101]) (by rw [List.length_append, hl2]; simp only [List.length_cons, List.length_nil]; omega) 0 (by rw [List.length_append, hl2]; omega)
      rw [this] at hC
      exact hC
end

theorem true_law18_HeaderBack (h : HdT) (w : Bool) : F_law18_HeaderBack h w = some (true, ()) := by
  obtain ⟨made, need, flags, method, time, crc, packed, size, inner, outer, offset, name, extra, comment, ⟨⟩⟩ := h
  unfold F_law18_HeaderBack
  refine vB awake18 ?_
  simp only [Bool.not_true, vF]
  cases k1 : decide ((name.length : Int) > 60) with
  | true => simp only [vT]
  | false =>
  simp only [vF]
  cases k2 : decide ((extra.length : Int) > 60) with
  | true => simp only [vT]
  | false =>
  simp only [vF]
  cases k3 : decide ((comment.length : Int) > 60) with
  | true => simp only [vT]
  | false =>
  simp only [vF]
  have h1 : name.length ≤ 60 := by have := of_decide_eq_false k1; omega
  have h2 : extra.length ≤ 60 := by have := of_decide_eq_false k2; omega
  have h3 : comment.length ≤ 60 := by have := of_decide_eq_false k3; omega
  refine vB (RParse_eq extra (by omega)) ?_
  cases hp : pzS extra with
  | none => rfl
  | some l =>
  simp only [bne_self_eq_false, vF]
  refine vB (PutCentral_eq made need flags method time crc packed size inner outer offset name extra comment w h1 h2 h3) (vB (PutLocal_eq made need flags method time crc packed size inner outer offset name extra comment w h1 h2) ?_)
  simp only []
  by_cases hz : (putC made need flags method time crc packed size inner outer offset name extra comment w).2 = 0
  rotate_left
  · simp only [ne_t hz, vT, vS]
  obtain ⟨a, x, ea, hal, ex, hC, c, y, ec, hcl, ey, hL⟩ := back_C made need flags method time crc packed size inner outer offset name extra comment h1 h2 h3 hp w hz
  simp only [ea, ec, bne_self_eq_false, vF, vS]
  refine vB (catE (by simp only [List.length_cons, List.length_nil]; omega)) (vB hC (vB (catE (by simp only [List.length_cons, List.length_nil]; omega)) (vB hL ?_)))
  simp only [bne_self_eq_false, vF]
  cases w with
  | false =>
    simp only [Bool.false_eq_true, if_false] at ex ey
    subst ex; subst ey
    simp only [vF, vS, vK, beq_self_eq_true, Bool.and_self, vT]
  | true =>
    simp only [if_true] at ex ey
    have w3 : (wideB [size, packed, offset]).length = 24 := putl_len
    have w2 : (wideB [size, packed]).length = 16 := putl_len
    simp only [vT]
    have q1 : cat (encF 1 (wideB [size, packed, offset])) extra = some x := by rw [ex]; exact catE (by rw [encF_len]; omega)
    have q2 : cat (encF 1 (wideB [size, packed])) extra = some y := by rw [ey]; exact catE (by rw [encF_len]; omega)
    simp only [RWide_eq [size, packed, offset] (by simp), RWide_eq [size, packed] (by simp), vS, RPut1_eq (wideB [size, packed, offset]) (by omega), RPut1_eq (wideB [size, packed]) (by omega), q1, q2, beq_self_eq_true, Bool.not_true, vF, vK, Bool.and_self, vT]
end Go.Proofs.YtobhmahlenjheaaM

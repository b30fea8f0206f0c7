/- Layer 18 in plain terms: what is put is read again; HeaderBack. -/
import Derived.Test.YtobhmahlenjheaaP18f
set_option linter.unusedSimpArgs false
set_option linter.unusedVariables false
namespace Go.Proofs.YtobhmahlenjheaaM
open Go Go.RowKit

def fldB (F : List (Int × Nat)) : List UInt8 := F.flatMap fun f => put f.1 f.2
def offs (F : List (Int × Nat)) : Nat := (F.map (·.2)).sum
theorem fld_len (F : List (Int × Nat)) : (fldB F).length = offs F := by
  induction F with
  | nil => rfl
  | cons f F ih =>
    unfold fldB offs at *
    rw [List.flatMap_cons, List.length_append, put_len, ih, List.map_cons, List.sum_cons]
theorem num_at (a b : List UInt8) (v : Int) (k : Nat) : numOf (a ++ (put v k ++ b)) a.length k = ((IntKind.u64.wrap v).toNat % 256 ^ k : Nat) := by
  have hl := put_len v k
  rw [cut_num (by simp; omega), List.drop_left, List.take_append_of_le_length (by omega), List.take_of_length_le (by omega)]
  unfold put
  rw [leNum_leB]
theorem num_fld (F : List (Int × Nat)) (rest : List UInt8) (i : Nat) (hi : i < F.length) {o : Nat} (ho : offs (F.take i) = o) (h0 : 0 ≤ F[i].1) (h1 : F[i].1 < ((256 ^ F[i].2 : Nat) : Int)) (hk : F[i].2 ≤ 8) : numOf (fldB F ++ rest) (o : Int) (F[i].2 : Int) = F[i].1 := by
  have e : fldB F ++ rest = fldB (F.take i) ++ (put F[i].1 F[i].2 ++ (fldB (F.drop (i + 1)) ++ rest)) := by
    conv => lhs; rw [← List.take_append_drop i F, List.drop_eq_getElem_cons hi]
    unfold fldB
    rw [List.flatMap_append, List.flatMap_cons, List.append_assoc, List.append_assoc]
  rw [e, ← ho, ← fld_len, num_at]
  have hp : (256 : Nat) ^ F[i].2 ≤ 256 ^ 8 := Nat.pow_le_pow_right (by omega) hk
  have hw : IntKind.u64.wrap F[i].1 = F[i].1 := by rw [wrap_u64]; omega
  rw [hw, Nat.mod_eq_of_lt (by omega)]
  omega
theorem txs_at : ∀ (ls : List (List UInt8)) (pre rest : List UInt8), txs (pre ++ (ls.flatten ++ rest)) pre.length (ls.map List.length) = some (pre.length + ls.flatten.length, ls)
  | [], pre, rest => by simp [txs]
  | x :: ls, pre, rest => by
    rw [List.map_cons]
    unfold txs
    rw [if_neg (by simp only [List.length_append, List.flatten_cons]; omega)]
    have := txs_at ls (pre ++ x) rest
    rw [List.length_append] at this
    rw [List.flatten_cons, show pre ++ (x ++ ls.flatten ++ rest) = pre ++ x ++ (ls.flatten ++ rest) by simp, this]
    simp [Nat.add_assoc]

theorem okS_mem {m : Int} {l : List Int} (h : okS m l = true) {v : Int} (hv : v ∈ l) : 0 ≤ v ∧ v ≤ m := by
  have := List.all_eq_true.1 h v hv
  exact of_decide_eq_true this

/-- A field ahead of others. -/
theorem pz_enc (d x : List UInt8) (hd : d.length ≤ 65535) : pzS (encF 1 d ++ x) = (pzS x).map fun l => (1, (d, ())) :: l := by
  have hl := encF_len 1 d
  have e1 : (encF 1 d ++ x).take 2 = put 1 2 := by
    unfold encF
    rw [List.append_assoc, List.append_assoc, List.take_append_of_le_length (by rw [put_len]; omega), List.take_of_length_le (by rw [put_len]; omega)]
  have e2 : ((encF 1 d ++ x).drop 2).take 2 = put d.length 2 := by
    unfold encF
    have e := List.drop_left (l₁ := put 1 2) (l₂ := put d.length 2 ++ (d ++ x))
    rw [put_len] at e
    rw [List.append_assoc, List.append_assoc, e, List.take_append_of_le_length (by rw [put_len]; omega), List.take_of_length_le (by rw [put_len]; omega)]
  have e3 : (encF 1 d ++ x).drop 4 = d ++ x := by
    unfold encF
    rw [List.append_assoc, show (4 : Nat) = (put 1 2 ++ put (d.length : Int) 2).length by rw [List.length_append, put_len, put_len], List.drop_left]
  have n1 : leNum (put 1 2) = 1 := by
    unfold put; rw [leNum_leB, wrap_u64]; rfl
  have n2 : leNum (put (d.length : Int) 2) = d.length := by
    unfold put
    rw [leNum_leB, wrap_u64, show ((d.length : Int) % 18446744073709551616).toNat = d.length by omega, Nat.mod_eq_of_lt (by omega)]
  unfold pzS
  conv => lhs; unfold pz
  rw [if_neg (fun h => by have := congrArg List.length h; simp only [List.length_append, hl, List.length_nil] at this; omega), if_neg (by rw [List.length_append]; omega), e1, e2, e3, n1, n2, if_neg (by rw [List.length_append]; omega)]
  rw [List.take_left, show (encF 1 d ++ x).drop (4 + d.length) = x by rw [← hl, List.drop_left], pz_more _ (x.length + 1) x (by rw [List.length_append]; omega) (by omega)]
  rfl
theorem fnd_one (d : List UInt8) (l : List XT) : fnd ((1, (d, ())) :: l) 1 = some d := rfl

theorem wide_num (n : List Int) (i : Nat) (hi : i < n.length) (h0 : 0 ≤ n[i]) (h1 : n[i] ≤ 1099511627776) : numOf (wideB n) ((8 * i : Nat) : Int) 8 = n[i] ∧ (cutOf (wideB n) ((8 * i : Nat) : Int) 8).2 = 0 := by
  have hlen : (wideB n).length = 8 * n.length := putl_len
  refine ⟨?_, ?_⟩
  · have e : wideB n = fldB (n.map fun v => (v, 8)) ++ [] := by
      unfold wideB fldB
      rw [List.append_nil, List.flatMap_map]
    have h := num_fld (n.map fun v => (v, 8)) [] i (by simpa using hi) (o := 8 * i) (by
      unfold offs
      rw [← List.map_take, List.map_map]
      have : ∀ l : List Int, (l.map ((fun f : Int × Nat => f.2) ∘ fun v => (v, 8))).sum = 8 * l.length := by
        intro l; induction l with
        | nil => rfl
        | cons a l ih => rw [List.map_cons, List.sum_cons, ih, List.length_cons]; simp only [Function.comp]; omega
      rw [this, List.length_take]; omega) (by simpa using h0) (by simp; omega) (by simp)
    rw [← e] at h
    simpa using h
  · have := cut_nat (s := wideB n) (i := 8 * i) (k := 8) (by omega)
    simp only [Int.cast_ofNat_Int] at this
    rw [this]
theorem rs1_wide (n : List Int) (i : Nat) (hi : i < n.length) (h0 : 0 ≤ n[i]) (h1 : n[i] ≤ 1099511627776) : rs1 (wideB n) 4294967295 ((8 * i : Nat) : Int) = some (n[i], ((8 * (i + 1) : Nat) : Int), false) := by
  obtain ⟨k1, k2⟩ := wide_num n i hi h0 h1
  rw [rs1_ok rfl (by rw [k2]; rfl), k1, w64 (by omega) (by omega), decide_eq_false (by omega)]
  rw [show ((8 * i : Nat) : Int) + 8 = ((8 * (i + 1) : Nat) : Int) by omega]

theorem ne_long {v m : Int} (h : v ≤ 4294967294) : (v != 4294967295) = true := by simp; omega
theorem res_plain (d : List UInt8) {a b c : Int} (h1 : a ≤ 4294967294) (h2 : b ≤ 4294967294) (h3 : c ≤ 4294967294) : resS d a b c = ((a, b, c, ()), 0) := by
  unfold resS
  rw [rs1_no (ne_long (m := 0) h1)]
  simp only []
  rw [rs1_no (ne_long (m := 0) h2)]
  simp only []
  rw [rs1_no (ne_long (m := 0) h3)]
  rfl
theorem res_wide3 {a b c : Int} (h : okS 1099511627776 [a, b, c] = true) : resS (wideB [a, b, c]) 4294967295 4294967295 4294967295 = ((a, b, c, ()), 0) := by
  have ha := okS_mem h (v := a) (by simp)
  have hb := okS_mem h (v := b) (by simp)
  have hc := okS_mem h (v := c) (by simp)
  have k0 := rs1_wide [a, b, c] 0 (by simp) ha.1 ha.2
  have k1 := rs1_wide [a, b, c] 1 (by simp) hb.1 hb.2
  have k2 := rs1_wide [a, b, c] 2 (by simp) hc.1 hc.2
  unfold resS
  rw [show (0 : Int) = ((8 * 0 : Nat) : Int) from rfl, k0]
  simp only []
  rw [k1]
  simp only []
  rw [k2]
  rfl
theorem res_wide2 {a b : Int} (h : okS 1099511627776 [a, b] = true) : resS (wideB [a, b]) 4294967295 4294967295 0 = ((a, b, 0, ()), 0) := by
  have ha := okS_mem h (v := a) (by simp)
  have hb := okS_mem h (v := b) (by simp)
  have k0 := rs1_wide [a, b] 0 (by simp) ha.1 ha.2
  have k1 := rs1_wide [a, b] 1 (by simp) hb.1 hb.2
  have e0 : rs1 (wideB [a, b]) 4294967295 0 = some (a, ((8 * (0 + 1) : Nat) : Int), false) := k0
  unfold resS
  rw [e0]
  simp only []
  rw [show ((8 * (0 + 1) : Nat) : Int) = ((8 * 1 : Nat) : Int) from rfl, k1]
  simp only []
  rw [rs1_no (show ((0 : Int) != 4294967295) = true from rfl)]
  rfl

/-- What stands in a header of numbers that stand so. -/
theorem fin_back {n : List Int} {x : List UInt8} {w : Bool} (hn : n.length ≤ 10) (hx : x.length ≤ 60) {l : List XT} (hp : pzS x = some l) (hz : (sizesS n x w).2.2 = 0) :
    ∃ l', pzS (sizesS n x w).2.1 = some l' ∧ (w = true → (fnd l' 1).getD [] = wideB n ∧ okS 1099511627776 n = true ∧ (sizesS n x w).1 = n.map fun _ => 4294967295) ∧ (w = false → okS 4294967294 n = true ∧ (sizesS n x w).1 = n) := by
  unfold sizesS at *
  cases w with
  | false =>
    simp only [Bool.false_eq_true, if_false] at hz ⊢
    cases ho : okS 4294967294 n with
    | false => rw [ho] at hz; simp at hz
    | true =>
      simp only [if_true]
      exact ⟨l, hp, fun h => by simp at h, fun _ => ⟨trivial, trivial⟩⟩
  | true =>
    simp only [if_true] at hz ⊢
    cases ho : okS 1099511627776 n with
    | false => rw [ho] at hz; simp at hz
    | true =>
      simp only [if_true]
      have hw : (wideB n).length ≤ 80 := by have := putl_len (l := n) (k := 8); unfold wideB; omega
      rw [pz_enc _ _ (by omega), hp]
      exact ⟨_, rfl, fun _ => ⟨rfl, trivial, trivial⟩, fun h => by simp at h⟩

theorem cen_fld (made need flags method time crc inner outer n0 n1 n2 : Int) (name x comment more : List UInt8) : cenB made need flags method time crc inner outer n0 n1 n2 name x comment ++ more =
    fldB [(33639248, 4), (made, 2), (need, 2), (flags, 2), (method, 2), (time, 4), (crc, 4), (n1, 4), (n0, 4), ((name.length : Int), 2), ((x.length : Int), 2), ((comment.length : Int), 2), (0, 2), (inner, 2), (outer, 4), (n2, 4)] ++ ([name, x, comment].flatten ++ more) := by
  unfold cenB b16 b32 fldB
  simp only [List.flatMap_cons, List.flatMap_nil, List.append_nil, List.append_assoc, List.flatten_cons, List.flatten_nil]
theorem loc_fld (need flags method time crc n0 n1 : Int) (name x more : List UInt8) : locB need flags method time crc n0 n1 name x ++ more =
    fldB [(67324752, 4), (need, 2), (flags, 2), (method, 2), (time, 4), (crc, 4), (n1, 4), (n0, 4), ((name.length : Int), 2), ((x.length : Int), 2)] ++ ([name, x].flatten ++ more) := by
  unfold locB b16 b32 fldB
  simp only [List.flatMap_cons, List.flatMap_nil, List.append_nil, List.append_assoc, List.flatten_cons, List.flatten_nil]

set_option maxHeartbeats 4000000 in
theorem cen_back (made need flags method time crc inner outer n0 n1 n2 : Int) (name x comment more : List UInt8) (h1 : okS 65535 [made, need, flags, method, inner, (name.length : Int), (comment.length : Int)] = true) (h2 : okS 4294967295 [time, crc, outer] = true) (h3 : okS 4294967295 [n0, n1, n2] = true) (hx : x.length ≤ 65535) {r : Int × Int × Int × Unit}
    {l : List XT} (hp : pzS x = some l) (hr : resS ((fnd l 1).getD []) n0 n1 n2 = (r, 0)) :
    cenS (cenB made need flags method time crc inner outer n0 n1 n2 name x comment ++ more) 0 = ((made, need, flags, method, time, crc, r.2.1, r.1, inner, outer, r.2.2.1, name, x, comment, ()), ((cenB made need flags method time crc inner outer n0 n1 n2 name x comment).length : Int), 0) := by
  have m := fun v hv => okS_mem h1 (v := v) hv
  have m2 := fun v hv => okS_mem h2 (v := v) hv
  have m3 := fun v hv => okS_mem h3 (v := v) hv
  have hlen : (cenB made need flags method time crc inner outer n0 n1 n2 name x comment).length = 46 + [name, x, comment].flatten.length := by
    have e := cen_fld made need flags method time crc inner outer n0 n1 n2 name x comment []
    rw [List.append_nil] at e
    rw [e, List.length_append, fld_len]
    simp [offs]
  rw [cen_fld, hlen]
  generalize hF : ([(33639248, 4), (made, 2), (need, 2), (flags, 2), (method, 2), (time, 4), (crc, 4), (n1, 4), (n0, 4), ((name.length : Int), 2), ((x.length : Int), 2), ((comment.length : Int), 2), (0, 2), (inner, 2), (outer, 4), (n2, 4)] : List (Int × Nat)) = F
  have N : ∀ (i o : Nat) (v : Int) (k : Nat), F[i]? = some (v, k) → offs (F.take i) = o → 0 ≤ v → v < ((256 ^ k : Nat) : Int) → k ≤ 8 → numOf (fldB F ++ ([name, x, comment].flatten ++ more)) (o : Int) (k : Int) = v := fun i o v k hi ho h0 h1 hk => by
    obtain ⟨hlt, e⟩ := List.getElem?_eq_some_iff.1 hi
    have := num_fld F ([name, x, comment].flatten ++ more) i hlt ho (by rw [e]; exact h0) (by rw [e]; exact h1) (by rw [e]; exact hk)
    rw [e] at this
    exact this
  have hcl := m (comment.length : Int) (by simp)
  have hnl := m (name.length : Int) (by simp)
  have e0 := N 0 0 33639248 4 (by rw [← hF]; rfl) (by rw [← hF]; rfl) (by omega) (by decide) (by omega)
  have e4 := N 1 4 made 2 (by rw [← hF]; rfl) (by rw [← hF]; rfl) (m made (by simp)).1 (by have := (m made (by simp)).2; omega) (by omega)
  have e6 := N 2 6 need 2 (by rw [← hF]; rfl) (by rw [← hF]; rfl) (m need (by simp)).1 (by have := (m need (by simp)).2; omega) (by omega)
  have e8 := N 3 8 flags 2 (by rw [← hF]; rfl) (by rw [← hF]; rfl) (m flags (by simp)).1 (by have := (m flags (by simp)).2; omega) (by omega)
  have e10 := N 4 10 method 2 (by rw [← hF]; rfl) (by rw [← hF]; rfl) (m method (by simp)).1 (by have := (m method (by simp)).2; omega) (by omega)
  have e12 := N 5 12 time 4 (by rw [← hF]; rfl) (by rw [← hF]; rfl) (m2 time (by simp)).1 (by have := (m2 time (by simp)).2; omega) (by omega)
  have e16 := N 6 16 crc 4 (by rw [← hF]; rfl) (by rw [← hF]; rfl) (m2 crc (by simp)).1 (by have := (m2 crc (by simp)).2; omega) (by omega)
  have e20 := N 7 20 n1 4 (by rw [← hF]; rfl) (by rw [← hF]; rfl) (m3 n1 (by simp)).1 (by have := (m3 n1 (by simp)).2; omega) (by omega)
  have e24 := N 8 24 n0 4 (by rw [← hF]; rfl) (by rw [← hF]; rfl) (m3 n0 (by simp)).1 (by have := (m3 n0 (by simp)).2; omega) (by omega)
  have e28 := N 9 28 name.length 2 (by rw [← hF]; rfl) (by rw [← hF]; rfl) hnl.1 (by have := hnl.2; omega) (by omega)
  have e30 := N 10 30 x.length 2 (by rw [← hF]; rfl) (by rw [← hF]; rfl) (by omega) (by omega) (by omega)
  have e32 := N 11 32 comment.length 2 (by rw [← hF]; rfl) (by rw [← hF]; rfl) hcl.1 (by have := hcl.2; omega) (by omega)
  have e34 := N 12 34 0 2 (by rw [← hF]; rfl) (by rw [← hF]; rfl) (by omega) (by decide) (by omega)
  have e36 := N 13 36 inner 2 (by rw [← hF]; rfl) (by rw [← hF]; rfl) (m inner (by simp)).1 (by have := (m inner (by simp)).2; omega) (by omega)
  have e38 := N 14 38 outer 4 (by rw [← hF]; rfl) (by rw [← hF]; rfl) (m2 outer (by simp)).1 (by have := (m2 outer (by simp)).2; omega) (by omega)
  have e42 := N 15 42 n2 4 (by rw [← hF]; rfl) (by rw [← hF]; rfl) (m3 n2 (by simp)).1 (by have := (m3 n2 (by simp)).2; omega) (by omega)
  have hfl : (fldB F).length = 46 := by rw [fld_len, ← hF]; rfl
  have ht := txs_at [name, x, comment] (fldB F) more
  rw [hfl] at ht
  generalize fldB F ++ ([name, x, comment].flatten ++ more) = s at *
  clear N
  simp only [Int.cast_ofNat_Int] at e0 e4 e6 e8 e10 e12 e16 e20 e24 e28 e30 e32 e34 e36 e38 e42
  unfold cenS
  simp only [Nat.zero_add, Int.cast_ofNat_Int]
  rw [e0, e4, e6, e8, e10, e12, e16, e20, e24, e28, e30, e32, e34, e36, e38, e42, if_neg (by simp)]
  simp only [Int.toNat_natCast]
  simp only [List.map_cons, List.map_nil] at ht
  rw [ht]
  have hf : finS made need flags method time crc n1 n0 inner outer n2 name x comment = ((made, need, flags, method, time, crc, r.2.1, r.1, inner, outer, r.2.2.1, name, x, comment, ()), 0) := by
    unfold finS
    rw [hp]
    simp only [hr, if_true]
  simp only [hf, if_true]
set_option maxHeartbeats 4000000 in
theorem loc_back (need flags method time crc n0 n1 : Int) (name x more : List UInt8) (h1 : okS 65535 [need, flags, method, (name.length : Int)] = true) (h2 : okS 4294967295 [time, crc] = true) (h3 : okS 4294967295 [n0, n1] = true) (hx : x.length ≤ 65535) {r : Int × Int × Int × Unit}
    {l : List XT} (hp : pzS x = some l) (hr : resS ((fnd l 1).getD []) n0 n1 0 = (r, 0)) (hq : (n1 == 4294967295) = (n0 == 4294967295)) :
    locS (locB need flags method time crc n0 n1 name x ++ more) 0 = ((0, need, flags, method, time, crc, r.2.1, r.1, 0, 0, r.2.2.1, name, x, [], ()), ((locB need flags method time crc n0 n1 name x).length : Int), 0) := by
  have m := fun v hv => okS_mem h1 (v := v) hv
  have m2 := fun v hv => okS_mem h2 (v := v) hv
  have m3 := fun v hv => okS_mem h3 (v := v) hv
  have hlen : (locB need flags method time crc n0 n1 name x).length = 30 + [name, x].flatten.length := by
    have e := loc_fld need flags method time crc n0 n1 name x []
    rw [List.append_nil] at e
    rw [e, List.length_append, fld_len]
    simp [offs]
  rw [loc_fld, hlen]
  generalize hF : ([(67324752, 4), (need, 2), (flags, 2), (method, 2), (time, 4), (crc, 4), (n1, 4), (n0, 4), ((name.length : Int), 2), ((x.length : Int), 2)] : List (Int × Nat)) = F
  have N : ∀ (i o : Nat) (v : Int) (k : Nat), F[i]? = some (v, k) → offs (F.take i) = o → 0 ≤ v → v < ((256 ^ k : Nat) : Int) → k ≤ 8 → numOf (fldB F ++ ([name, x].flatten ++ more)) (o : Int) (k : Int) = v := fun i o v k hi ho h0 h1 hk => by
    obtain ⟨hlt, e⟩ := List.getElem?_eq_some_iff.1 hi
    have := num_fld F ([name, x].flatten ++ more) i hlt ho (by rw [e]; exact h0) (by rw [e]; exact h1) (by rw [e]; exact hk)
    rw [e] at this
    exact this
  have hnl := m (name.length : Int) (by simp)
  have e0 := N 0 0 67324752 4 (by rw [← hF]; rfl) (by rw [← hF]; rfl) (by omega) (by decide) (by omega)
  have e4 := N 1 4 need 2 (by rw [← hF]; rfl) (by rw [← hF]; rfl) (m need (by simp)).1 (by have := (m need (by simp)).2; omega) (by omega)
  have e6 := N 2 6 flags 2 (by rw [← hF]; rfl) (by rw [← hF]; rfl) (m flags (by simp)).1 (by have := (m flags (by simp)).2; omega) (by omega)
  have e8 := N 3 8 method 2 (by rw [← hF]; rfl) (by rw [← hF]; rfl) (m method (by simp)).1 (by have := (m method (by simp)).2; omega) (by omega)
  have e10 := N 4 10 time 4 (by rw [← hF]; rfl) (by rw [← hF]; rfl) (m2 time (by simp)).1 (by have := (m2 time (by simp)).2; omega) (by omega)
  have e14 := N 5 14 crc 4 (by rw [← hF]; rfl) (by rw [← hF]; rfl) (m2 crc (by simp)).1 (by have := (m2 crc (by simp)).2; omega) (by omega)
  have e18 := N 6 18 n1 4 (by rw [← hF]; rfl) (by rw [← hF]; rfl) (m3 n1 (by simp)).1 (by have := (m3 n1 (by simp)).2; omega) (by omega)
  have e22 := N 7 22 n0 4 (by rw [← hF]; rfl) (by rw [← hF]; rfl) (m3 n0 (by simp)).1 (by have := (m3 n0 (by simp)).2; omega) (by omega)
  have e26 := N 8 26 name.length 2 (by rw [← hF]; rfl) (by rw [← hF]; rfl) hnl.1 (by have := hnl.2; omega) (by omega)
  have e28 := N 9 28 x.length 2 (by rw [← hF]; rfl) (by rw [← hF]; rfl) (by omega) (by omega) (by omega)
  have hfl : (fldB F).length = 30 := by rw [fld_len, ← hF]; rfl
  have ht := txs_at [name, x] (fldB F) more
  rw [hfl] at ht
  generalize fldB F ++ ([name, x].flatten ++ more) = s at *
  clear N
  simp only [Int.cast_ofNat_Int] at e0 e4 e6 e8 e10 e14 e18 e22 e26 e28
  unfold locS
  simp only [Nat.zero_add, Int.cast_ofNat_Int]
  rw [e0, e4, e6, e8, e10, e14, e18, e22, e26, e28, if_neg (by simp)]
  simp only [Int.toNat_natCast]
  simp only [List.map_cons, List.map_nil] at ht
  rw [ht]
  have hf : finS 0 need flags method time crc n1 n0 0 0 0 name x [] = ((0, need, flags, method, time, crc, r.2.1, r.1, 0, 0, r.2.2.1, name, x, [], ()), 0) := by
    unfold finS
    rw [hp]
    simp only [hr, if_true]
  simp only [hf, hq, if_true]
end Go.Proofs.YtobhmahlenjheaaM

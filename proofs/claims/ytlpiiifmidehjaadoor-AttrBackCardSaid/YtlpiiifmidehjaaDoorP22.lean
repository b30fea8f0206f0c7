/- Names that take away: laws MarkKinds, MarkPaths. -/
import Derived.Test.YtlpiiifmidehjaaDoorP13h
set_option linter.unusedSimpArgs false
set_option linter.unusedVariables false
namespace Go.Proofs.YtlpiiifmidehjaaDoorM
open Go Go.RowKit

theorem indexG {α : Type} (P : α → Option (Bool × Unit)) (f : α → Bool) (l : List α) (hl : l.length ≤ 900000) (h : ∀ x ∈ l, P x = some (f x, ())) :
    ∃ r : (Int × Unit) ⊕ Unit, iter (fun v0 : Int × Unit => bif decide (v0.1 < (l.length : Int)) then ((idxL l v0.1).bind fun v1 => (P v1).bind fun v2 => bif v2.1 then (some (.inr (.inl v0))) else (some (.inl (IntKind.i64.wrap (v0.1 + 1), ())))) else (some (.inr (Sum.inr ())))) NF (0, ()) = some r ∧
      (match r with | .inl x => 0 ≤ x.1 ∧ l.any f = true | .inr _ => l.any f = false) := by
  refine iter_inv (fun st : Int × Unit => ∃ k : Nat, st = ((k : Int), ()) ∧ k ≤ l.length ∧ (l.drop k).any f = l.any f) (fun st => l.length - st.1.toNat)
    (fun r : (Int × Unit) ⊕ Unit => match r with | .inl x => 0 ≤ x.1 ∧ l.any f = true | .inr _ => l.any f = false) (by
      rintro _ ⟨k, rfl, h1, h3⟩
      by_cases hk : k < l.length
      · have c1 : decide ((k : Int) < (l.length : Int)) = true := decide_eq_true (by omega)
        simp only [c1, cond_true, idxL_nat hk, Option.bind_some, h _ (List.getElem_mem hk)]
        rw [List.drop_eq_getElem_cons hk, List.any_cons] at h3
        cases hb : f l[k] with
        | true =>
          right
          exact ⟨.inl ((k : Int), ()), by simp, by simp, by rw [← h3, hb]; rfl⟩
        | false =>
          left
          rw [w64 (by omega) (by omega)]
          refine ⟨((k : Int) + 1, ()), by simp, ⟨k + 1, by simp, by omega, ?_⟩, by simp only; omega⟩
          rw [← h3, hb, Bool.false_or]
      · right
        have c1 : decide ((k : Int) < (l.length : Int)) = false := decide_eq_false (by omega)
        refine ⟨.inr (), by simp only [c1, cond_false], ?_⟩
        rw [List.drop_of_length_le (by omega)] at h3
        rw [← h3]; rfl) NF (0, ()) ⟨0, rfl, Nat.zero_le _, rfl⟩ (by rw [NF_eq]; simp; omega)

/-! ### Paths, again -/
def dirO (p : Txt) : Txt := (par p).getD []
theorem slash_unique {a b x y : Txt} (h : a ++ 47 :: x = b ++ 47 :: y) (hx : 47 ∉ x) (hy : 47 ∉ y) : a = b ∧ x = y := by
  have h1 := congrArg sp h
  rw [sp_join, sp_join, sp_no hx, sp_no hy] at h1
  obtain ⟨h2, h3⟩ := List.append_inj' h1 rfl
  exact ⟨by rw [← jn_sp a, ← jn_sp b, h2], (List.cons.inj h3).1⟩
theorem par_of {d n : Txt} (hn : 47 ∉ n) : par (d ++ 47 :: n) = some d ∧ bas (d ++ 47 :: n) = n := by
  cases hp : par (d ++ 47 :: n) with
  | none => exact absurd (par_none hp).1 (by simp)
  | some d' =>
    obtain ⟨h1, h2⟩ := par_some hp
    obtain ⟨rfl, h4⟩ := slash_unique h1 hn h2
    exact ⟨rfl, h4.symm⟩
theorem par_no {n : Txt} (hn : 47 ∉ n) : par n = none ∧ bas n = n := by
  cases hp : par n with
  | none => exact ⟨rfl, (par_none hp).2⟩
  | some d =>
    have := (par_some hp).1
    exact absurd hn (by rw [this]; simp)
theorem dirO_jo {d n : Txt} (hn : 47 ∉ n) : dirO (jo d n) = d ∧ bas (jo d n) = n := by
  unfold jo dirO
  by_cases hd : d = []
  · rw [if_pos hd, (par_no hn).1, (par_no hn).2]; exact ⟨hd.symm, rfl⟩
  · rw [if_neg hd, (par_of hn).1, (par_of hn).2]; exact ⟨rfl, rfl⟩
theorem bas_no (p : Txt) : 47 ∉ bas p := by
  cases h : par p with
  | none => rw [(par_none h).2]; exact (par_none h).1
  | some d => exact (par_some h).2
theorem okP_iff (p : Txt) : okP p = true ↔ p ≠ [] ∧ p.length ≤ 1024 ∧ vld p = true ∧ p.any bb = false ∧ (pts p).length ≤ 32 ∧ ∀ x ∈ pts p, okPt x = true := by
  simp only [okP, Bool.and_eq_true, decide_eq_true_eq, List.all_eq_true, Bool.not_eq_true']
  constructor
  · rintro ⟨⟨⟨⟨h1, h2⟩, h3, h4⟩, h5⟩, h6⟩
    exact ⟨by rintro rfl; simp at h1, h2, h3, h4, h5, h6⟩
  · rintro ⟨h1, h2, h3, h4, h5, h6⟩
    refine ⟨⟨⟨⟨?_, h2⟩, h3, h4⟩, h5⟩, h6⟩
    rcases p with _ | _
    · exact absurd rfl h1
    · simp
theorem okP_nodir {p : Txt} (h : okP p = true) (hp : par p = some []) : False := by
  have h1 := okP_first h
  have h2 := (par_some hp).1
  rw [h2, List.nil_append, starts_eq] at h1
  simp at h1
theorem ok_jo {p : Txt} (h : okP p = true) : p = jo (dirO p) (bas p) ∧ pts p = pts (dirO p) ++ [bas p] := by
  have h0 := ((okP_iff p).1 h).1
  unfold dirO jo
  cases hp : par p with
  | none =>
    obtain ⟨h1, h2⟩ := par_none hp
    simp only [Option.getD_none, if_true, h2, true_and]
    rw [pts, if_neg h0, sp_no h1]; rfl
  | some d =>
    obtain ⟨h1, h2⟩ := par_some hp
    have hd : d ≠ [] := by rintro rfl; exact okP_nodir h hp
    simp only [Option.getD_some, if_neg hd]
    refine ⟨h1, ?_⟩
    conv => lhs; rw [pts, if_neg h0, h1]
    rw [sp_join, sp_no h2, pts, if_neg hd]
theorem pts_jo {d n : Txt} (hn : 47 ∉ n) (h0 : n ≠ []) : pts (jo d n) = pts d ++ [n] := by
  unfold jo
  by_cases hd : d = []
  · rw [if_pos hd, hd, pts, if_neg h0, sp_no hn]; rfl
  · rw [if_neg hd, pts, if_neg (by simp), sp_join, sp_no hn, pts, if_neg hd]

/-! ### Valid texts, joined -/
theorem c47 : cont 47 = false := by decide
theorem szU_app (b : UInt8) (d r : Txt) : szU ((b :: d) ++ 47 :: r) = szU (b :: d) := by
  have c := c47
  rcases d with _ | ⟨b1, _ | ⟨b2, _ | ⟨b3, d⟩⟩⟩
  · rcases r with _ | ⟨x, _ | ⟨y, r⟩⟩ <;> simp [szU, c]
  · rcases r with _ | ⟨x, r⟩ <;> simp [szU, c]
  · simp [szU, c]
  · simp [szU, c]
theorem vld_app : ∀ (n : Nat) (d r : Txt), d.length ≤ n → vld (d ++ 47 :: r) = (vld d && vld r) := by
  intro n
  induction n with
  | zero =>
    intro d r h
    have : d = [] := List.length_eq_zero_iff.1 (by omega)
    subst this
    rw [List.nil_append, vld_ascii (by decide)]
    have : vld [] = true := by rw [vld_eq]; decide
    rw [this, Bool.true_and]
  | succ n ih =>
    intro d r h
    rcases d with _ | ⟨b, d⟩
    · exact ih [] r (by simp)
    · have e := szU_app b d r
      by_cases hz : szU (b :: d) = 0
      · rw [vld_eq, e, if_pos hz, vld_bad hz]; rfl
      · have hle := szU_le (b :: d)
        rw [vld_eq, e, if_neg hz, List.drop_append_of_le_length hle.1, ih _ _ (by rw [List.length_drop]; omega), ← vld_step rfl hz]
theorem vld_nil : vld [] = true := by rw [vld_eq]; decide
theorem vld_jo (d n : Txt) : vld (jo d n) = (vld d && vld n) := by
  unfold jo
  split
  · rename_i h; rw [h, vld_nil, Bool.true_and]
  · exact vld_app _ d n (Nat.le_refl _)
theorem bb_jo (d n : Txt) : (jo d n).any bb = (d.any bb || n.any bb) := by
  unfold jo
  split
  · rename_i h; rw [h]; rfl
  · rw [List.any_append, List.any_cons]
    have : bb 47 = false := by decide
    rw [this, Bool.false_or]
theorem jo_len2 (d n : Txt) : d.length ≤ (jo d n).length ∧ n.length ≤ (jo d n).length := by
  unfold jo; split
  · rename_i h; rw [h]; simp
  · simp; omega
theorem okPt_ne {x : Txt} (h : okPt x = true) : x ≠ [] := by
  rintro rfl; simp [okPt] at h
/-- What a path that may be is made of. -/
theorem ok_split {p : Txt} (h : okP p = true) : (dirO p = [] ∨ okP (dirO p) = true) ∧ okP (bas p) = true ∧ okPt (bas p) = true ∧ (dirO p).any bb = false ∧ vld (dirO p) = true := by
  obtain ⟨e1, e2⟩ := ok_jo h
  obtain ⟨h1, h2, h3, h4, h5, h6⟩ := (okP_iff p).1 h
  rw [e1, vld_jo, Bool.and_eq_true] at h3
  rw [e1, bb_jo, Bool.or_eq_false_iff] at h4
  rw [e2] at h5 h6
  have hl := jo_len2 (dirO p) (bas p)
  rw [← e1] at hl
  have hb := h6 (bas p) (by simp)
  have hbn := okPt_ne hb
  have hpb : pts (bas p) = [bas p] := by rw [pts, if_neg hbn, sp_no (bas_no p)]
  refine ⟨?_, (okP_iff _).2 ⟨hbn, by omega, h3.2, h4.2, by rw [hpb]; simp, by rw [hpb]; simpa using hb⟩, hb, h4.1, h3.1⟩
  by_cases hd : dirO p = []
  · exact .inl hd
  · exact .inr ((okP_iff _).2 ⟨hd, by omega, h3.1, h4.1, by simp at h5; omega, fun x hx => h6 x (by simp [hx])⟩)
theorem ok_mk {d n : Txt} (hd : d = [] ∨ okP d = true) (hn : okP n = true) (hs : 47 ∉ n) (hl : (jo d n).length ≤ 1024) (hc : (pts d).length ≤ 31) : okP (jo d n) = true := by
  obtain ⟨h1, h2, h3, h4, h5, h6⟩ := (okP_iff n).1 hn
  have hpn : pts n = [n] := by rw [pts, if_neg h1, sp_no hs]
  have hdd : vld d = true ∧ d.any bb = false ∧ ∀ x ∈ pts d, okPt x = true := by
    rcases hd with rfl | hd
    · exact ⟨vld_nil, rfl, by simp [pts]⟩
    · have := (okP_iff d).1 hd; exact ⟨this.2.2.1, this.2.2.2.1, this.2.2.2.2.2⟩
  refine (okP_iff _).2 ⟨?_, hl, by rw [vld_jo, hdd.1, h3]; rfl, by rw [bb_jo, hdd.2.1, h4]; rfl, by rw [pts_jo hs h1]; simp; omega, ?_⟩
  · intro e
    have := (jo_len2 d n).2
    rw [e] at this
    exact h1 (List.length_eq_zero_iff.1 (by simpa using this))
  · rw [pts_jo hs h1]
    intro x hx
    rcases List.mem_append.1 hx with hx | hx
    · exact hdd.2.2 x hx
    · exact h6 x (by rw [hpn]; exact hx)

/-! ### Markers -/
def pre : Txt := [46, 119, 104, 46]
def opq : Txt := [46, 119, 104, 46, 46, 119, 104, 46, 46, 111, 112, 113]
def beg (x : Txt) : Bool := pre.isPrefixOf x
theorem beg_iff (x : Txt) : beg x = true ↔ ∃ n, x = pre ++ n := by
  unfold beg; rw [List.isPrefixOf_iff_prefix]
  exact ⟨fun ⟨n, h⟩ => ⟨n, h.symm⟩, fun ⟨n, h⟩ => ⟨n, h.symm⟩⟩
theorem marked_eq (x : Txt) (h : x.length ≤ 1000000) : F_mark_marked x = some (beg x, ()) := by
  unfold F_mark_marked
  have := hasPrefix_eq x [46, 119, 104, 46] h (by simp)
  rw [this]; rfl
theorem iPrefix_eq (a b : Txt) (ha : a.length ≤ 1000000) (hb : b.length ≤ 1000000) : F_internal_stringslite_HasPrefix a b = some (b.isPrefixOf a, ()) := by
  have h := hasPrefix_eq a b ha hb
  unfold F_strings_HasPrefix at h
  cases e : F_internal_stringslite_HasPrefix a b with
  | none => rw [e] at h; cases h
  | some v => rw [e] at h; exact h
theorem cutPrefix_eq (x : Txt) (h : x.length ≤ 1000000) : F_strings_CutPrefix x [46, 119, 104, 46] = some (if beg x = true then x.drop 4 else x, beg x, ()) := by
  unfold F_strings_CutPrefix F_internal_stringslite_CutPrefix
  rw [iPrefix_eq x _ h (by simp)]
  cases hb : beg x with
  | false =>
    have : ([46, 119, 104, 46] : Txt).isPrefixOf x = false := hb
    simp only [this, vS]; rfl
  | true =>
    have e : ([46, 119, 104, 46] : Txt).isPrefixOf x = true := hb
    obtain ⟨n, hn⟩ := (beg_iff x).1 hb
    have hl : 4 ≤ x.length := by rw [hn]; simp [pre]
    have e4 : subS x (([46, 119, 104, 46] : Txt).length : Int) (x.length : Int) = some (x.drop 4) := sub0 (k := 4) hl
    simp only [e, vS, Bool.not_true, vF, e4, if_true]
theorem begins_eq (x : Txt) (h : x.length ≤ 1000000) : F_ref22_begins x = some (beg x, ()) := by
  unfold F_ref22_begins
  by_cases hl : 4 ≤ x.length
  · have c1 : decide ((x.length : Int) ≥ 4) = true := decide_eq_true (by omega)
    have e4 : subS x 0 4 = some ((x.take 4).drop 0) := subS_nat (a := 0) (b := 4) (by omega) hl
    simp only [c1, vT, e4, vS, List.drop_zero]
    congr 2
    rw [Bool.eq_iff_iff, beq_iff_eq, beg_iff]
    constructor
    · intro e; exact ⟨x.drop 4, by rw [show pre = x.take 4 from e.symm, List.take_append_drop]⟩
    · rintro ⟨n, rfl⟩; rfl
  · have c1 : decide ((x.length : Int) ≥ 4) = false := decide_eq_false (by omega)
    simp only [c1, vF, vS]
    congr 2
    rw [Bool.eq_iff_iff, beg_iff]
    constructor
    · intro e; cases e
    · rintro ⟨n, rfl⟩; simp [pre] at hl
theorem containsM_eq (l : List Txt) (hl : l.length ≤ 900000) (h : ∀ x ∈ l, x.length ≤ 1000000) : F_slices_ContainsFunc_string_string__mark_marked l = some (l.any beg, ()) := by
  obtain ⟨r, e, q⟩ := indexG F_mark_marked beg l hl (fun x hx => marked_eq x (h x hx))
  unfold F_slices_ContainsFunc_string_string__mark_marked F_slices_IndexFunc_string_string__mark_marked
  rw [e]
  rcases r with x | x
  · have : decide (x.1 ≥ 0) = true := decide_eq_true q.1
    simp only [vS, sumK, this, q.2]
  · simp only at q
    simp only [vS, sumK, q]; rfl
theorem mem_tot {l : List Txt} {x : Txt} (h : x ∈ l) : x.length + 1 ≤ tot l := by
  induction l with
  | nil => cases h
  | cons a r ih =>
    simp only [tot, List.map_cons, List.sum_cons]
    rcases List.mem_cons.1 h with rfl | h
    · omega
    · have := ih h; unfold tot at this; omega
theorem mem_pts {s x : Txt} (h : x ∈ pts s) : x.length ≤ s.length := by
  have := mem_tot h; have := tot_pts s; omega

def kindR (p : Txt) : Int × Txt × Int × Unit :=
  if okP p = false then (0, [], 5, ()) else if (pts (dirO p)).any beg = true then (0, [], 11, ()) else if beg (bas p) = false then (0, p, 0, ())
  else if (bas p == opq) = true then (2, dirO p, 0, ()) else if (beg ((bas p).drop 4) || !okP ((bas p).drop 4)) = true then (0, [], 11, ()) else (1, jo (dirO p) ((bas p).drop 4), 0, ())
def outR (k : Int) (t : Txt) : Txt := if k = 1 then jo (dirO t) (pre ++ bas t) else if k = 2 then jo t opq else t
def pathR (k : Int) (t : Txt) : Txt × Int × Unit :=
  if (!okP t && (k != 2 || !(t == []))) = true then ([], 5, ()) else if okP (outR k t) = false then ([], 5, ()) else if (pts t).any beg = true then ([], 11, ())
  else if k < 0 ∨ k > 2 then ([], 1, ()) else (outR k t, 0, ())

theorem bas_len (p : Txt) : (bas p).length ≤ p.length := by unfold bas; simp
theorem dirO_len (p : Txt) : (dirO p).length ≤ p.length := by
  unfold dirO
  cases h : par p with
  | none => simp
  | some d => have := par_len h; simp only [Option.getD_some]; omega

theorem kind_eq (p : Txt) (hp : p.length ≤ 80000) : F_mark_Kind p = some (kindR p) := by
  unfold F_mark_Kind kindR
  rw [check_eq p (by omega)]
  cases ho : okP p with
  | false => rfl
  | true =>
    have hd := dirO_len p; have hb := bas_len p; have hl := pts_len (dirO p)
    have d0 : ((0 : Int) != 0) = false := rfl
    have t1 : ¬ (true = false) := by decide
    have f1 : ¬ (false = true) := by decide
    have ed : (par p).getD [] = dirO p := rfl
    simp only [vS, if_true, d0, vF, parent_eq p (by omega), base_eq p (by omega), cutPrefix_eq _ (by omega : (bas p).length ≤ 1000000), ed, parts_eq (dirO p) (by omega), containsM_eq (pts (dirO p)) (by omega) (fun x hx => by have := mem_pts hx; omega), if_neg t1]
    cases hm : (pts (dirO p)).any beg with
    | true => simp only [vT, if_true]
    | false =>
      simp only [vF, if_neg f1]
      cases hg : beg (bas p) with
      | false => simp only [Bool.not_false, vT, if_true]
      | true =>
        simp only [Bool.not_true, vF, if_true, if_neg t1]
        have eo : (bas p == ([46, 119, 104, 46, 46, 119, 104, 46, 46, 111, 112, 113] : Txt)) = (bas p == opq) := rfl
        rw [eo]
        cases hq : (bas p == opq) with
        | true => simp only [vT, if_true]
        | false =>
          have hdl : ((bas p).drop 4).length ≤ (bas p).length := by simp
          simp only [vF, if_neg f1, marked_eq _ (by omega : ((bas p).drop 4).length ≤ 1000000), vS]
          cases hbb : beg ((bas p).drop 4) with
          | true => simp only [vT, Bool.true_or, if_true]
          | false =>
            simp only [vF, Bool.false_or, check_eq _ (by omega : ((bas p).drop 4).length ≤ 100000), vS]
            cases hok : okP ((bas p).drop 4) with
            | false => rfl
            | true => simp only [if_true, d0, vF, Bool.not_true, if_neg f1, join_eq (dirO p) _ (by omega : (dirO p).length + ((bas p).drop 4).length ≤ 1000000), vS]

theorem refKind_eq (p : Txt) (hp : p.length ≤ 80000) : F_ref22_Kind p = some (kindR p) := by
  unfold F_ref22_Kind kindR
  rw [right_eq p (by omega)]
  cases ho : okP p with
  | false => rfl
  | true =>
    obtain ⟨e1, e2⟩ := ok_jo ho
    have hd := dirO_len p; have hb := bas_len p; have hl := pts_len (dirO p)
    have t1 : ¬ (true = false) := by decide
    have f1 : ¬ (false = true) := by decide
    have hln : ((pts p).length : Int) - 1 = ((pts (dirO p)).length : Int) := by rw [e2]; simp
    simp only [vS, Bool.not_true, vF, refParts_eq p (by omega), hln, w64 (x := ((pts (dirO p)).length : Int)) (by omega) (by omega), if_neg t1]
    have lp : iter (fun v2 : Int × List Txt × Unit => bif decide (v2.1 < ((pts (dirO p)).length : Int)) then ((idxL v2.2.1 v2.1).bind fun v3 => (idxL v2.2.1 v2.1).bind fun v4 => (F_ref22_begins v4).bind fun v5 => bif v5.1 then (some (.inr (.inl ((0 : Int), ((([] : (List UInt8)) : List UInt8), ((11 : Int), ())))))) else (some (.inl (IntKind.i64.wrap (v2.1 + 1), v2.2)))) else (some (.inr (Sum.inr v2.2)))) NF (0, pts p, ()) = some (if (pts (dirO p)).any beg = true then Sum.inl (0, [], 11, ()) else Sum.inr (pts p, ())) := by
      refine iter_eq (fun st : Int × List Txt × Unit => ∃ k : Nat, st = ((k : Int), pts p, ()) ∧ k ≤ (pts (dirO p)).length ∧ ((pts (dirO p)).drop k).any beg = (pts (dirO p)).any beg) (fun st => (pts (dirO p)).length - st.1.toNat) (fun _ => if (pts (dirO p)).any beg = true then Sum.inl (0, [], 11, ()) else Sum.inr (pts p, ())) ?_ NF _ ⟨0, rfl, Nat.zero_le _, rfl⟩ (by rw [NF_eq]; simp; omega)
      rintro _ ⟨k, rfl, g1, g2⟩
      by_cases hk : k < (pts (dirO p)).length
      · have c1 : decide ((k : Int) < ((pts (dirO p)).length : Int)) = true := decide_eq_true (by omega)
        have hk2 : k < (pts p).length := by rw [e2]; simp; omega
        have hke : (pts p)[k] = (pts (dirO p))[k] := by
          have : (pts p)[k]? = (pts (dirO p))[k]? := by rw [e2, List.getElem?_append_left hk]
          rw [List.getElem?_eq_getElem hk2, List.getElem?_eq_getElem hk] at this
          exact Option.some.inj this
        have hm := mem_pts (List.getElem_mem hk)
        simp only [c1, vT, idxL_nat hk2, vS, hke, begins_eq _ (by omega : ((pts (dirO p))[k]).length ≤ 1000000), w64 (x := (k : Int) + 1) (by omega) (by omega)]
        rw [List.drop_eq_getElem_cons hk, List.any_cons] at g2
        cases hbb : beg (pts (dirO p))[k] with
        | true => right; rw [← g2, hbb]; rfl
        | false =>
          left
          refine ⟨((k : Int) + 1, pts p, ()), by simp only [vF], ⟨k + 1, by simp, by omega, ?_⟩, by simp only; omega, trivial⟩
          rw [← g2, hbb, Bool.false_or]
      · right
        have c1 : decide ((k : Int) < ((pts (dirO p)).length : Int)) = false := decide_eq_false (by omega)
        rw [List.drop_of_length_le (by omega)] at g2
        have : (pts (dirO p)).any beg = false := by rw [← g2]; rfl
        simp only [c1, vF, this, if_neg f1]
    rw [lp]
    cases hm : (pts (dirO p)).any beg with
    | true => simp only [vS, if_true, sumK]
    | false =>
      have ix : idxL (pts p) ((pts (dirO p)).length : Int) = some (bas p) := by
        have h : (pts (dirO p)).length < (pts p).length := by rw [e2]; simp
        rw [idxL_nat h]
        congr 1
        have : (pts p)[(pts (dirO p)).length]? = some (bas p) := by rw [e2]; simp
        rw [List.getElem?_eq_getElem h] at this
        exact Option.some.inj this
      have ck : chkSub ((pts p).length : Int) 0 ((pts (dirO p)).length : Int) = some () := chkSub_nat (a := 0) (Nat.zero_le _) (by rw [e2]; simp)
      have ot : oTD (pts p) 0 ((pts (dirO p)).length : Int) = pts (dirO p) := by rw [e2]; simp [oTD]
      have jd : jn (pts (dirO p)) = dirO p := by
        by_cases h : dirO p = []
        · rw [h]; rfl
        · rw [pts, if_neg h, jn_sp]
      have ht := tot_pts (dirO p)
      simp only [vS, if_neg f1, sumK, ix, begins_eq _ (by omega : (bas p).length ≤ 1000000)]
      cases hg : beg (bas p) with
      | false => simp only [Bool.not_false, vT, if_true]
      | true =>
        have eo : (bas p == ([46, 119, 104, 46, 46, 119, 104, 46, 46, 111, 112, 113] : Txt)) = (bas p == opq) := rfl
        obtain ⟨n, hn⟩ := (beg_iff _).1 hg
        have h4 : 4 ≤ (bas p).length := by rw [hn]; simp [pre]
        have es : subS (bas p) 4 ((bas p).length : Int) = some ((bas p).drop 4) := sub0 (k := 4) h4
        simp only [Bool.not_true, vF, ck, vS, ot, joined_eq _ (by omega : tot (pts (dirO p)) ≤ 900000), jd, eo, if_neg t1]
        cases hq : (bas p == opq) with
        | true => simp only [vT, if_true]
        | false =>
          have hdl : ((bas p).drop 4).length ≤ (bas p).length := by simp
          simp only [vF, if_neg f1, es, vS, begins_eq _ (by omega : ((bas p).drop 4).length ≤ 1000000)]
          cases hbb : beg ((bas p).drop 4) with
          | true => simp only [vT, Bool.true_or, if_true]
          | false =>
            simp only [vF, Bool.false_or, right_eq _ (by omega : ((bas p).drop 4).length ≤ 100000), vS]
            cases hok : okP ((bas p).drop 4) with
            | false => rfl
            | true => simp only [Bool.not_true, vF, if_neg f1, refJoin_eq (dirO p) _ (by omega : (dirO p).length + ((bas p).drop 4).length ≤ 1000000), vS]

theorem path0_eq (k : Int) (t : Txt) (ht : t.length ≤ 80000) : F_mark_path k t = some (outR k t, ()) := by
  unfold F_mark_path outR
  have hd := dirO_len t; have hb := bas_len t
  have ed : (par t).getD [] = dirO t := rfl
  have ep : ([46, 119, 104, 46] : Txt) ++ bas t = pre ++ bas t := rfl
  have lp : (pre ++ bas t).length = 4 + (bas t).length := by simp [pre]; omega
  simp only [parent_eq t (by omega), vS, base_eq t (by omega), cat_eq ([46, 119, 104, 46] : Txt) (bas t) (by simp; omega), ed, ep, join_eq (dirO t) (pre ++ bas t) (by omega)]
  by_cases h1 : k = 1
  · subst h1; rfl
  have c1 : (k == 1) = false := by rw [beq_eq_false_iff_ne]; exact h1
  by_cases h2 : k = 2
  · subst h2
    have : F_route_Join t ([46, 119, 104, 46, 46, 119, 104, 46, 46, 111, 112, 113] : Txt) = some (jo t opq, ()) := join_eq t opq (by simp [opq]; omega)
    simp only [c1, vF, this]; rfl
  have c2 : (k == 2) = false := by rw [beq_eq_false_iff_ne]; exact h2
  simp only [c1, c2, vF, if_neg h1, if_neg h2]
theorem outR_len (k : Int) (t : Txt) : (outR k t).length ≤ 2 * t.length + 20 := by
  have hd := dirO_len t; have hb := bas_len t
  unfold outR
  split
  · have := jo_len (dirO t) (pre ++ bas t); simp [pre] at this ⊢; omega
  split
  · have := jo_len t opq; simp [opq] at this ⊢; omega
  · omega

theorem path_eq (k : Int) (t : Txt) (ht : t.length ≤ 40000) : F_mark_Path k t = some (pathR k t) := by
  unfold F_mark_Path pathR
  have ho := outR_len k t; have hl := pts_len t
  have d0 : ((0 : Int) != 0) = false := rfl
  have d5 : ((5 : Int) != 0) = true := rfl
  have f1 : ¬ (false = true) := by decide
  have t1 : ¬ (true = false) := by decide
  have e : (((F_route_Check t).bind fun v1 => bif v1.1 != 0 then (bif k != 2 then (some (true, ())) else (some (!(t == ([] : (List UInt8))), ()))) else (some (false, ()))) : Option (Bool × Unit)) = some (!okP t && (k != 2 || !(t == [])), ()) := by
    rw [check_eq t (by omega)]
    cases okP t <;> cases (k != 2) <;> rfl
  simp only [path0_eq k t (by omega), vS, e]
  cases h1 : (!okP t && (k != 2 || !(t == []))) with
  | true => simp only [vT, if_true]
  | false =>
    simp only [vF, if_neg f1, check_eq _ (by omega : (outR k t).length ≤ 100000), vS]
    cases h2 : okP (outR k t) with
    | false => simp only [if_neg f1, d5, vT, if_true]
    | true =>
      simp only [if_true, d0, vF, if_neg t1, parts_eq t (by omega), vS, containsM_eq (pts t) (by omega) (fun x hx => by have := mem_pts hx; omega)]
      cases h3 : (pts t).any beg with
      | true => simp only [vT, if_true]
      | false =>
        simp only [vF, if_neg f1]
        by_cases h4 : k < 0
        · simp only [decide_eq_true h4, vT, if_pos (Or.inl h4 : k < 0 ∨ k > 2)]
        by_cases h5 : k > 2
        · simp only [decide_eq_false h4, decide_eq_true h5, vT, vF, if_pos (Or.inr h5 : k < 0 ∨ k > 2)]
        · simp only [decide_eq_false h4, decide_eq_false h5, vF, if_neg (by omega : ¬ (k < 0 ∨ k > 2))]
theorem clear_eq (t : Txt) (ht : t.length ≤ 80000) : F_ref22_Clear t = some (!(pts t).any beg, ()) := by
  unfold F_ref22_Clear
  have hl := pts_len t
  rw [refParts_eq t (by omega)]
  simp only [vS]
  rw [iter_eq (fun st : Int × List Txt × Unit => ∃ k : Nat, st = ((k : Int), pts t, ()) ∧ k ≤ (pts t).length ∧ ((pts t).drop k).any beg = (pts t).any beg) (fun st => (pts t).length - st.1.toNat) (fun _ => if (pts t).any beg = true then Sum.inl () else Sum.inr ()) ?_ NF (0, pts t, ()) ⟨0, rfl, Nat.zero_le _, rfl⟩ (by rw [NF_eq]; simp; omega)]
  · cases (pts t).any beg
    · exact Option.bind_some ..
    · exact Option.bind_some ..
  rintro _ ⟨k, rfl, g1, g2⟩
  by_cases hk : k < (pts t).length
  · have c1 : decide ((k : Int) < ((pts t).length : Int)) = true := decide_eq_true (by omega)
    have hm := mem_pts (List.getElem_mem hk)
    simp only [c1, vT, idxL_nat hk, vS, begins_eq _ (by omega : ((pts t)[k]).length ≤ 1000000), w64 (x := (k : Int) + 1) (by omega) (by omega)]
    rw [List.drop_eq_getElem_cons hk, List.any_cons] at g2
    cases hbb : beg (pts t)[k] with
    | true => right; rw [← g2, hbb]; rfl
    | false =>
      left
      refine ⟨((k : Int) + 1, pts t, ()), by simp only [vF], ⟨k + 1, by simp, by omega, ?_⟩, by simp only; omega, trivial⟩
      rw [← g2, hbb, Bool.false_or]
  · right
    have c1 : decide ((k : Int) < ((pts t).length : Int)) = false := decide_eq_false (by omega)
    rw [List.drop_of_length_le (by omega)] at g2
    have : (pts t).any beg = false := by rw [← g2]; rfl
    simp only [c1, vF, this]; rfl
theorem refPath_eq (k : Int) (t : Txt) (ht : t.length ≤ 40000) : F_ref22_Path k t = some (pathR k t) := by
  unfold F_ref22_Path pathR
  have ho := outR_len k t; have hl := pts_len t
  have f1 : ¬ (false = true) := by decide
  have t1 : ¬ (true = false) := by decide
  rw [right_eq t (by omega)]
  have hd := dirO_len t; have hb := bas_len t
  have ed : (par t).getD [] = dirO t := rfl
  have ep : ([46, 119, 104, 46] : Txt) ++ bas t = pre ++ bas t := rfl
  have lp : (pre ++ bas t).length = 4 + (bas t).length := by simp [pre]; omega
  have eo : ((bif k == 1 then ((F_ref13_Parent t).bind fun v4 => (F_ref13_Base t).bind fun v5 => (cat ([46, 119, 104, 46] : List UInt8) v5.1).bind fun v6 => (F_ref13_Join v4.1 v6).bind fun v7 => some v7) else (some (t, ()))).bind fun v8 => (bif k == 2 then ((F_ref13_Join t ([46, 119, 104, 46, 46, 119, 104, 46, 46, 111, 112, 113] : List UInt8)).bind fun v9 => some v9) else (some v8)) : Option (Txt × Unit)) = some (outR k t, ()) := by
    unfold outR
    simp only [refParent_eq t (by omega), vS, refBase_eq t (by omega), cat_eq ([46, 119, 104, 46] : Txt) (bas t) (by simp; omega), ed, ep, refJoin_eq (dirO t) (pre ++ bas t) (by omega)]
    by_cases h1 : k = 1
    · subst h1; rfl
    have c1 : (k == 1) = false := by rw [beq_eq_false_iff_ne]; exact h1
    by_cases h2 : k = 2
    · subst h2
      have : F_ref13_Join t ([46, 119, 104, 46, 46, 119, 104, 46, 46, 111, 112, 113] : Txt) = some (jo t opq, ()) := refJoin_eq t opq (by simp [opq]; omega)
      simp only [c1, vF, vS, this]; rfl
    have c2 : (k == 2) = false := by rw [beq_eq_false_iff_ne]; exact h2
    simp only [c1, c2, vF, vS, if_neg h1, if_neg h2]
  have tail : (((bif k == 1 then ((F_ref13_Parent t).bind fun v4 => (F_ref13_Base t).bind fun v5 => (cat ([46, 119, 104, 46] : List UInt8) v5.1).bind fun v6 => (F_ref13_Join v4.1 v6).bind fun v7 => some v7) else (some (t, ()))).bind fun v8 => (bif k == 2 then ((F_ref13_Join t ([46, 119, 104, 46, 46, 119, 104, 46, 46, 111, 112, 113] : List UInt8)).bind fun v9 => some v9) else (some v8)).bind fun v10 => (F_ref13_Right v10.1).bind fun v11 => bif !v11.1 then (some ((([] : (List UInt8)) : List UInt8), ((5 : Int), ()))) else ((F_ref22_Clear t).bind fun v12 => bif !v12.1 then (some ((([] : (List UInt8)) : List UInt8), ((11 : Int), ()))) else (bif decide (k < 0) then (some ((([] : (List UInt8)) : List UInt8), ((1 : Int), ()))) else (bif decide (k > 2) then (some ((([] : (List UInt8)) : List UInt8), ((1 : Int), ()))) else (some (v10.1, ((0 : Int), ()))))))) : Option (Txt × Int × Unit)) =
      some (if okP (outR k t) = false then ([], 5, ()) else if (pts t).any beg = true then ([], 11, ()) else if k < 0 ∨ k > 2 then ([], 1, ()) else (outR k t, 0, ())) := by
    obtain ⟨v8, e8, e9⟩ := Option.bind_eq_some_iff.1 eo
    rw [e8]; simp only [vS]; rw [e9]; simp only [vS]
    rw [right_eq _ (by omega : (outR k t).length ≤ 100000)]
    simp only [vS]
    cases h2 : okP (outR k t) with
    | false => simp only [Bool.not_false, vT, if_true]
    | true =>
      simp only [Bool.not_true, vF, if_neg t1, clear_eq t (by omega), vS, Bool.not_not]
      cases h3 : (pts t).any beg with
      | true => simp only [vT, if_true]
      | false =>
        simp only [vF, if_neg f1]
        by_cases h4 : k < 0
        · simp only [decide_eq_true h4, vT, if_pos (Or.inl h4 : k < 0 ∨ k > 2)]
        by_cases h5 : k > 2
        · simp only [decide_eq_false h4, decide_eq_true h5, vT, vF, if_pos (Or.inr h5 : k < 0 ∨ k > 2)]
        · simp only [decide_eq_false h4, decide_eq_false h5, vF, if_neg (by omega : ¬ (k < 0 ∨ k > 2))]
  simp only [vS]
  cases ha : okP t with
  | true => simp only [Bool.not_true, vF, vS, sumK, Bool.false_and, if_neg f1]; exact tail
  | false =>
    cases h2 : (k != 2) with
    | true => simp only [Bool.not_false, vT, vS, sumK, Bool.true_and, Bool.true_or, if_true]
    | false =>
      cases h3 : (t == []) with
      | false => simp only [Bool.not_false, vT, vF, vS, sumK, Bool.true_and, Bool.or_true, if_true]
      | true => simp only [Bool.not_false, Bool.not_true, vT, vF, vS, sumK, Bool.true_and, Bool.or_false, if_neg f1]; exact tail

theorem awake22 : F_law22_awake = some (true, ()) := by kernel_rfl
theorem pts_dir_any {p : Txt} (h : okP p = true) : (pts p).any beg = ((pts (dirO p)).any beg || beg (bas p)) := by
  rw [(ok_jo h).2, List.any_append]; simp
theorem out_of_kind {p : Txt} (hl : p.length ≤ 300) : (kindR p).2.2.1 = 0 → pathR (kindR p).1 (kindR p).2.1 = (p, 0, ()) := by
  unfold kindR
  cases ho : okP p with
  | false => intro h; rw [if_pos rfl] at h; cases h
  | true =>
    obtain ⟨e1, e2⟩ := ok_jo ho
    have f1 : ¬ (false = true) := by decide
    have t1 : ¬ (true = false) := by decide
    rw [if_neg t1]
    cases hm : (pts (dirO p)).any beg with
    | true => intro h; rw [if_pos rfl] at h; cases h
    | false =>
      rw [if_neg f1]
      cases hg : beg (bas p) with
      | false =>
        rw [if_pos rfl]; intro _
        have : (pts p).any beg = false := by rw [pts_dir_any ho, hm, hg]; rfl
        show pathR 0 p = _
        unfold pathR
        rw [show outR 0 p = p from rfl, ho, this]
        rfl
      | true =>
        rw [if_neg t1]
        obtain ⟨s1, s2, s3, s4, s5⟩ := ok_split ho
        cases hq : (bas p == opq) with
        | true =>
          rw [if_pos rfl]; intro _
          rw [beq_iff_eq] at hq
          have eo : outR 2 (dirO p) = p := by
            show jo (dirO p) opq = p
            rw [← hq]; exact e1.symm
          show pathR 2 (dirO p) = _
          unfold pathR
          rw [eo, ho, hm]
          have : (!okP (dirO p) && ((2 : Int) != 2 || !(dirO p == []))) = false := by
            rcases s1 with s1 | s1
            · rw [s1]; simp
            · rw [s1]; rfl
          rw [this]; rfl
        | false =>
          rw [if_neg f1]
          cases hbb : (beg ((bas p).drop 4) || !okP ((bas p).drop 4)) with
          | true => intro h; rw [if_pos rfl] at h; cases h
          | false =>
            rw [if_neg f1]; intro _
            rw [Bool.or_eq_false_iff, Bool.not_eq_false'] at hbb
            obtain ⟨hb1, hb2⟩ := hbb
            obtain ⟨n, hn⟩ := (beg_iff _).1 hg
            have hdn : (bas p).drop 4 = n := by rw [hn]; rfl
            rw [hdn] at hb1 hb2 ⊢
            have hns : 47 ∉ n := by
              have := bas_no p
              rw [hn] at this
              exact fun h => this (by simp [h])
            obtain ⟨j1, j2⟩ := dirO_jo (d := dirO p) hns
            have eo : outR 1 (jo (dirO p) n) = p := by
              show jo (dirO (jo (dirO p) n)) (pre ++ bas (jo (dirO p) n)) = p
              rw [j1, j2, ← hn]; exact e1.symm
            have hl2 : (jo (dirO p) n).length ≤ 1024 := by
              have := jo_len (dirO p) n
              have h1 := dirO_len p
              have h2 := bas_len p
              rw [hn] at h2
              simp at h2
              omega
            have hlc : (pts (dirO p)).length ≤ 31 := by
              have := ((okP_iff p).1 ho).2.2.2.2.1
              rw [e2] at this; simp at this; omega
            have hok : okP (jo (dirO p) n) = true := ok_mk s1 hb2 hns hl2 hlc
            have hany : (pts (jo (dirO p) n)).any beg = false := by rw [pts_dir_any hok, j1, j2, hm, hb1]; rfl
            show pathR 1 (jo (dirO p) n) = _
            unfold pathR
            rw [eo, ho, hok, hany]; rfl
theorem kind_of_out {k : Int} {t : Txt} : (pathR k t).2.1 = 0 → kindR (pathR k t).1 = (k, t, 0, ()) := by
  unfold pathR
  have f1 : ¬ (false = true) := by decide
  have t1 : ¬ (true = false) := by decide
  cases h1 : (!okP t && (k != 2 || !(t == []))) with
  | true => intro h; rw [if_pos rfl] at h; cases h
  | false =>
    rw [if_neg f1]
    cases h2 : okP (outR k t) with
    | false => intro h; rw [if_pos rfl] at h; cases h
    | true =>
      rw [if_neg t1]
      cases h3 : (pts t).any beg with
      | true => intro h; rw [if_pos rfl] at h; cases h
      | false =>
        rw [if_neg f1]
        by_cases h4 : k < 0 ∨ k > 2
        · intro h; rw [if_pos h4] at h; cases h
        rw [if_neg h4]; intro _
        have hk : k = 0 ∨ k = 1 ∨ k = 2 := by omega
        rcases hk with rfl | rfl | rfl
        · have ho : okP t = true := h2
          have ha := pts_dir_any ho
          rw [h3] at ha
          have ha := (Bool.or_eq_false_iff.1 ha.symm)
          show kindR t = _
          unfold kindR
          rw [ho, ha.1, ha.2]; rfl
        · have ho : okP t = true := by
            cases h : okP t with
            | true => rfl
            | false => rw [h] at h1; simp at h1
          have ha := pts_dir_any ho
          rw [h3] at ha
          have ha := (Bool.or_eq_false_iff.1 ha.symm)
          have hns : 47 ∉ pre ++ bas t := by
            have := bas_no t
            simp [pre, this]
          obtain ⟨j1, j2⟩ := dirO_jo (d := dirO t) hns
          obtain ⟨e1, e2⟩ := ok_jo ho
          obtain ⟨s1, s2, s3, s4, s5⟩ := ok_split ho
          have h2' : okP (jo (dirO t) (pre ++ bas t)) = true := h2
          have hg : beg (pre ++ bas t) = true := (beg_iff _).2 ⟨_, rfl⟩
          have hd4 : (pre ++ bas t).drop 4 = bas t := rfl
          have hq : (pre ++ bas t == opq) = false := by
            rw [beq_eq_false_iff_ne]
            intro e
            have : bas t = opq.drop 4 := by rw [← e, hd4]
            rw [this] at ha
            exact absurd ha.2 (by decide)
          show kindR (jo (dirO t) (pre ++ bas t)) = _
          unfold kindR
          rw [h2', j1, j2, ha.1, hg, hq, hd4, ha.2, s2]
          show (1, jo (dirO t) (bas t), 0, ()) = _
          rw [← e1]
        · have hno : 47 ∉ opq := by decide
          obtain ⟨j1, j2⟩ := dirO_jo (d := t) hno
          have h2' : okP (jo t opq) = true := h2
          show kindR (jo t opq) = _
          unfold kindR
          rw [h2', j1, j2, h3]; rfl
theorem kindR_len {p : Txt} (hp : p.length ≤ 300) : (kindR p).2.1.length ≤ 1000 := by
  have h1 := dirO_len p; have h2 := bas_len p
  have h3 := jo_len (dirO p) ((bas p).drop 4)
  have h4 : ((bas p).drop 4).length ≤ (bas p).length := by simp
  unfold kindR
  split
  · simp
  split
  · simp
  split
  · simp only; omega
  split
  · simp only; omega
  split
  · simp
  · simp only; omega

theorem true_law22_MarkKinds (p : Txt) : F_law22_MarkKinds p = some (true, ()) := by
  unfold F_law22_MarkKinds
  simp only [awake22, vS, Bool.not_true, vF]
  by_cases h : p.length > 300
  · have c : decide ((p.length : Int) > 300) = true := decide_eq_true (by omega)
    simp only [c, vT]
  have c : decide ((p.length : Int) > 300) = false := decide_eq_false (by omega)
  have b1 : ∀ x : Txt, (x == x) = true := fun x => beq_self_eq_true x
  have b3 : ∀ x : Int, (x != x) = false := fun x => by simp
  have hkl := kindR_len (p := p) (by omega)
  simp only [c, vF, kind_eq p (by omega), refKind_eq p (by omega), vS, b1, b3, Bool.not_true]
  by_cases h0 : (kindR p).2.2.1 = 0
  · have e0 : ((kindR p).2.2.1 != 0) = false := by rw [h0]; rfl
    have d4 : ((0 : Int) == 0) = true := rfl
    simp only [e0, vF, path_eq _ _ (by omega : (kindR p).2.1.length ≤ 40000), vS, out_of_kind (by omega : p.length ≤ 300) h0, b1, vT, d4]
  · have e0 : ((kindR p).2.2.1 != 0) = true := by rw [bne_iff_ne]; exact h0
    simp only [e0, vT]
theorem pathR_len (k : Int) (t : Txt) : (pathR k t).1.length ≤ 2 * t.length + 20 := by
  have := outR_len k t
  unfold pathR
  split
  · simp
  split
  · simp
  split
  · simp
  split
  · simp
  · exact this
theorem true_law22_MarkPaths (k : Int) (t : Txt) : F_law22_MarkPaths k t = some (true, ()) := by
  unfold F_law22_MarkPaths
  simp only [awake22, vS, Bool.not_true, vF]
  by_cases h : t.length > 300
  · have c : decide ((t.length : Int) > 300) = true := decide_eq_true (by omega)
    simp only [c, vT]
  have c : decide ((t.length : Int) > 300) = false := decide_eq_false (by omega)
  have b1 : ∀ x : Txt, (x == x) = true := fun x => beq_self_eq_true x
  have b3 : ∀ x : Int, (x != x) = false := fun x => by simp
  have hkl := pathR_len k t
  simp only [c, vF, path_eq k t (by omega), refPath_eq k t (by omega), vS, b1, b3, Bool.not_true]
  by_cases h0 : (pathR k t).2.1 = 0
  · have e0 : ((pathR k t).2.1 != 0) = false := by rw [h0]; rfl
    have b4 : ∀ x : Int, (x == x) = true := fun x => beq_self_eq_true x
    simp only [e0, vF, kind_eq _ (by omega : (pathR k t).1.length ≤ 80000), vS, kind_of_out h0, b1, b4, vT]
  · have e0 : ((pathR k t).2.1 != 0) = true := by rw [bne_iff_ne]; exact h0
    simp only [e0, vT]
end Go.Proofs.YtlpiiifmidehjaaDoorM

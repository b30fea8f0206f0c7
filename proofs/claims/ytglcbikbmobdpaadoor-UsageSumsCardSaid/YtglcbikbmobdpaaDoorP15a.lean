/- Trees: the document's check, in plain terms. -/
import Derived.Test.YtglcbikbmobdpaaDoorP13d
import Derived.Test.YtglcbikbmobdpaaDoorVC
set_option linter.unusedSimpArgs false
set_option linter.unusedVariables false
namespace Go.Proofs.YtglcbikbmobdpaaDoorM
open Go Go.RowKit

/-! ### What always answers -/
theorem bif_tot {α : Type} {c : Bool} {x y : Option α} (hx : ∃ a, x = some a) (hy : ∃ a, y = some a) : ∃ a, (bif c then x else y) = some a := by cases c; exact hy; exact hx
theorem bind_tot {α β : Type} {x : Option α} {f : α → Option β} (hx : ∃ a, x = some a) (hf : ∀ a, ∃ b, f a = some b) : ∃ b, x.bind f = some b := by
  obtain ⟨a, rfl⟩ := hx; exact hf a
theorem sumK_tot {α β γ : Type} {x : α ⊕ β} {f : α → Option γ} {g : β → Option γ} (hf : ∀ a, ∃ b, f a = some b) (hg : ∀ a, ∃ b, g a = some b) : ∃ b, sumK x f g = some b := by
  cases x; exact hf _; exact hg _
theorem small_tot (c : Int) : ∃ r : Int, F_ref14_Small c = some (r, ()) := by
  have : ∃ r, F_ref14_Small c = some r := by
    unfold F_ref14_Small
    repeat (first | exact ⟨_, rfl⟩ | apply bif_tot | apply bind_tot | apply sumK_tot | intro)
  obtain ⟨⟨r, u⟩, h⟩ := this
  exact ⟨r, h⟩
theorem utf8_tot (c : Int) : ∃ r : Txt, F_ref14_utf8 c = some (r, ()) ∧ r.length ≤ 2 := by
  unfold F_ref14_utf8
  cases decide (c < 128)
  · rw [vF]
    have h1 : quoI .i64 c 64 = some (IntKind.i64.wrap (c.tdiv 64)) := by unfold quoI; rw [if_neg (by decide)]
    have h2 : remI c 64 = some (c.tmod 64) := by unfold remI; rw [if_neg (by decide)]
    rw [h1, vS, h2, vS]
    exact ⟨_, rfl, by simp⟩
  · exact ⟨_, rfl, by simp⟩
theorem fold_tot (s : Txt) (hs : s.length ≤ 100000) : ∃ r : Txt, F_ref14_Fold s = some (r, ()) := by
  unfold F_ref14_Fold
  suffices key : ∃ r : Txt × Unit, iter _ NF (([] : Txt), ((0 : Int), ())) = some r ∧ True by
    obtain ⟨⟨r, u⟩, h, _⟩ := key
    exact ⟨r, vB h rfl⟩
  refine iter_inv (fun st => ∃ i : Nat, st.2.1 = (i : Int) ∧ i ≤ s.length ∧ st.1.length ≤ 4 * i) (fun st => s.length - st.2.1.toNat) _ ?_ NF _ ⟨0, rfl, Nat.zero_le _, Nat.zero_le _⟩ (by rw [NF_eq]; simp; omega)
  rintro ⟨out, _, u⟩ ⟨i, rfl, h1, h2⟩
  simp only at h2
  by_cases hi : i < s.length
  rotate_left
  · right
    simp only [ge_c hi, vF]
    exact ⟨_, rfl, trivial⟩
  left
  obtain ⟨c, hc⟩ := next_eq s (by omega) i hi
  have hz := szU_le (s.drop i)
  rw [List.length_drop] at hz
  generalize szU (s.drop i) = z at *
  simp only [lt_c hi, vT, hc, vS]
  by_cases h0 : z = 0
  · subst h0
    have c0 : (((0 : Nat) : Int) == 0) = true := rfl
    have e1 : subS s (i : Int) ((i + 1 : Nat) : Int) = some ((s.take (i + 1)).drop i) := subS_nat (by omega) (by omega)
    have e2 : cat out ((s.take (i + 1)).drop i) = some (out ++ (s.take (i + 1)).drop i) := cat_eq _ _ (by simp; omega)
    simp only [c0, vT, w1 (show i ≤ 1000000 by omega), e1, vS, e2]
    exact ⟨_, rfl, ⟨i + 1, rfl, by omega, by simp; omega⟩, by simp only; omega⟩
  · have c0 : ((z : Int) == 0) = false := by rw [beq_eq_false_iff_ne]; omega
    have e0 : IntKind.i64.wrap ((i : Int) + (z : Int)) = ((i + z : Nat) : Int) := by rw [w64 (by omega) (by omega)]; omega
    have e1 : subS s (i : Int) ((i + z : Nat) : Int) = some ((s.take (i + z)).drop i) := subS_nat (by omega) (by omega)
    have e2 : cat out ((s.take (i + z)).drop i) = some (out ++ (s.take (i + z)).drop i) := cat_eq _ _ (by simp; omega)
    obtain ⟨r, hr⟩ := small_tot c
    obtain ⟨x, hx, hxl⟩ := utf8_tot r
    have e3 : cat out x = some (out ++ x) := cat_eq _ _ (by omega)
    simp only [c0, vF, hr, vS, e0, e1, e2, hx, e3]
    cases r == c
    · exact ⟨_, rfl, ⟨i + z, rfl, by omega, by simp; omega⟩, by simp only; omega⟩
    · exact ⟨_, rfl, ⟨i + z, rfl, by omega, by simp; omega⟩, by simp only; omega⟩
/-- A text, folded. -/
def foldT (s : Txt) : Txt := ((F_ref14_Fold s).getD ([], ())).1
theorem refFold_eq (s : Txt) (hs : s.length ≤ 100000) : F_ref14_Fold s = some (foldT s, ()) := by
  obtain ⟨r, h⟩ := fold_tot s hs
  unfold foldT; rw [h]; rfl
theorem right_tot (p : Txt) (hp : p.length ≤ 100000) : ∃ b : Bool, F_ref13_Right p = some (b, ()) := by
  have : ∃ b, F_ref13_Right p = some b := by
    unfold F_ref13_Right
    refine bif_tot ⟨_, rfl⟩ (bif_tot ⟨_, rfl⟩ (bind_tot ?_ fun v5 => sumK_tot (fun _ => ⟨_, rfl⟩) fun v7 => ?_))
    · suffices key : ∃ r : Unit ⊕ Unit, iter _ NF ((0 : Int), ()) = some r ∧ True by
        obtain ⟨r, h, _⟩ := key
        exact ⟨r, h⟩
      refine iter_inv (fun st => ∃ i : Nat, st.1 = (i : Int) ∧ i ≤ p.length) (fun st => p.length - st.1.toNat) _ ?_ NF _ ⟨0, rfl, Nat.zero_le _⟩ (by rw [NF_eq]; simp; omega)
      rintro ⟨_, u⟩ ⟨i, rfl, h1⟩
      by_cases hi : i < p.length
      rotate_left
      · right
        simp only [ge_c hi, vF]
        exact ⟨_, rfl, trivial⟩
      obtain ⟨c, hc⟩ := next_eq p (by omega) i hi
      have hz := szU_le (p.drop i)
      rw [List.length_drop] at hz
      generalize szU (p.drop i) = z at *
      simp only [lt_c hi, vT, hc, vS, idxS_nat hi]
      by_cases h0 : z = 0
      · subst h0
        right
        exact ⟨_, rfl, trivial⟩
      · have c0 : ((z : Int) == 0) = false := by rw [beq_eq_false_iff_ne]; omega
        have e0 : IntKind.i64.wrap ((i : Int) + (z : Int)) = ((i + z : Nat) : Int) := by rw [w64 (by omega) (by omega)]; omega
        rw [c0, vF, e0]
        cases decide ((p[i].toNat : Int) < 32)
        rotate_left
        · right; exact ⟨_, rfl, trivial⟩
        cases ((p[i].toNat : Int) == 127)
        rotate_left
        · right; exact ⟨_, rfl, trivial⟩
        cases ((p[i].toNat : Int) == 92)
        rotate_left
        · right; exact ⟨_, rfl, trivial⟩
        left
        exact ⟨_, rfl, ⟨i + z, rfl, by omega⟩, by simp only; omega⟩
    · rw [refParts_eq p hp, vS]
      refine bif_tot ⟨_, rfl⟩ (bind_tot ?_ fun v => sumK_tot (fun _ => ⟨_, rfl⟩) fun _ => ⟨_, rfl⟩)
      have hl := pts_len p
      generalize pts p = l at *
      suffices key : ∃ r : Unit ⊕ Unit, iter _ NF ((0 : Int), (l, ())) = some r ∧ True by
        obtain ⟨r, h, _⟩ := key
        exact ⟨r, h⟩
      refine iter_inv (fun st => ∃ i : Nat, st = ((i : Int), (l, ())) ∧ i ≤ l.length) (fun st => l.length - st.1.toNat) _ ?_ NF _ ⟨0, rfl, Nat.zero_le _⟩ (by rw [NF_eq]; simp; omega)
      rintro _ ⟨i, rfl, h1⟩
      by_cases hi : i < l.length
      rotate_left
      · right
        simp only [ge_c hi, vF]
        exact ⟨_, rfl, trivial⟩
      simp only [lt_c hi, vT, idxL_nat hi, vS, w1 (show i ≤ 1000000 by omega)]
      cases (l[i] == ([] : Txt))
      rotate_left
      · right; exact ⟨_, rfl, trivial⟩
      cases decide ((l[i].length : Int) > 255)
      rotate_left
      · right; exact ⟨_, rfl, trivial⟩
      cases (l[i] == [46])
      rotate_left
      · right; exact ⟨_, rfl, trivial⟩
      cases (l[i] == [46, 46])
      rotate_left
      · right; exact ⟨_, rfl, trivial⟩
      left
      exact ⟨_, rfl, ⟨i + 1, rfl, by omega⟩, by simp only; omega⟩
  obtain ⟨⟨b, u⟩, h⟩ := this
  exact ⟨b, h⟩
/-- May a path be? -/
def okR (p : Txt) : Bool := ((F_ref13_Right p).getD (false, ())).1
theorem rightR_eq (p : Txt) (hp : p.length ≤ 100000) : F_ref13_Right p = some (okR p, ()) := by
  obtain ⟨b, h⟩ := right_tot p hp
  unfold okR; rw [h]; rfl
theorem okR_ne {p : Txt} (h : okR p = true) : p ≠ [] := by
  rintro rfl
  exact absurd h (by decide)

/-! ### Nodes -/
abbrev NdT : Type := Txt × Bool × Txt × Int × Int × Unit
/-- All of a node but its path: may it be? -/
def rst (n : NdT) : Bool := decide (0 ≤ n.2.2.2.1 ∧ n.2.2.2.1 ≤ 511 ∧ 0 ≤ n.2.2.2.2.1 ∧ n.2.2.2.2.1 ≤ 4294967295) && (!n.2.1 || n.2.2.1 == [])
theorem may_eq (n : NdT) (h : n.1.length ≤ 100000) : F_ref15_May n = some (okR n.1, rst n, ()) := by
  unfold F_ref15_May
  obtain ⟨path, dir, data, mode, time, u⟩ := n
  simp only at h
  simp only [rightR_eq path h, vS]
  unfold rst
  by_cases h1 : 0 ≤ mode
  rotate_left
  · have c1 : decide (mode ≥ 0) = false := decide_eq_false h1
    simp only [c1, vF, vS]; simp [h1]
  by_cases h2 : mode ≤ 511
  rotate_left
  · have c1 : decide (mode ≥ 0) = true := decide_eq_true h1
    have c2 : decide (mode ≤ 511) = false := decide_eq_false h2
    simp only [c1, c2, vT, vF, vS]; simp [h2]
  by_cases h3 : 0 ≤ time
  rotate_left
  · have c1 : decide (mode ≥ 0) = true := decide_eq_true h1
    have c2 : decide (mode ≤ 511) = true := decide_eq_true h2
    have c3 : decide (time ≥ 0) = false := decide_eq_false h3
    simp only [c1, c2, c3, vT, vF, vS]; simp [h3]
  by_cases h4 : time ≤ 4294967295
  rotate_left
  · have c1 : decide (mode ≥ 0) = true := decide_eq_true h1
    have c2 : decide (mode ≤ 511) = true := decide_eq_true h2
    have c3 : decide (time ≥ 0) = true := decide_eq_true h3
    have c4 : decide (time ≤ 4294967295) = false := decide_eq_false h4
    simp only [c1, c2, c3, c4, vT, vF, vS]; simp [h4]
  have c1 : decide (mode ≥ 0) = true := decide_eq_true h1
  have c2 : decide (mode ≤ 511) = true := decide_eq_true h2
  have c3 : decide (time ≥ 0) = true := decide_eq_true h3
  have c4 : decide (time ≤ 4294967295) = true := decide_eq_true h4
  simp only [c1, c2, c3, c4, vT]
  rw [decide_eq_true ⟨h1, h2, h3, h4⟩]
  cases dir <;> rfl
/-- The place of a path. -/
def atP (l : List NdT) (p : Txt) : Int := match l.findIdx? (fun x => x.1 == p) with | some k => (k : Int) | none => -1
theorem refAt_eq (l : List NdT) (p : Txt) (hl : l.length ≤ 100000) : F_ref15_at l p = some (atP l p, ()) := by
  unfold F_ref15_at
  refine vB (iter_takeI l (by omega) (fun i q => ((i : Int), ())) (fun q => ∀ x ∈ q, x.1 ≠ p) (by simp) (r := match l.findIdx? (fun x => x.1 == p) with | some k => .inl ((k : Int), ()) | none => .inr ()) (fun i hi hI => ?_) fun hI => ?_) ?_
  · simp only [lt_c hi, vT, idxL_nat hi, vS, w1 (show i ≤ 1000000 by omega)]
    by_cases hp : l[i].1 = p
    · right
      have : l.findIdx? (fun x => x.1 == p) = some i := by
        rw [List.findIdx?_eq_some_iff_getElem]
        refine ⟨hi, by simp [hp], fun j hj => ?_⟩
        have := hI l[j] (by rw [List.mem_take_iff_getElem]; exact ⟨j, by omega, rfl⟩)
        simp [this]
      rw [this, hp, beq_self_eq_true, vT]
    · left
      have c : (l[i].1 == p) = false := by rw [beq_eq_false_iff_ne]; exact hp
      rw [c, vF]
      refine ⟨rfl, fun x hx => ?_⟩
      rcases List.mem_append.1 hx with h | h
      · exact hI x h
      · rw [List.mem_singleton] at h; subst h; exact hp
  · have : l.findIdx? (fun x => x.1 == p) = none := by
      rw [List.findIdx?_eq_none_iff]
      intro x hx
      have := hI x hx
      simp [this]
    simp only [ge_c (Nat.lt_irrefl _), vF, this]
  · unfold atP
    cases l.findIdx? (fun x => x.1 == p) <;> rfl
/-- What stands at a path. -/
def getN (l : List NdT) (p : Txt) : Option NdT := l.find? (fun x => x.1 == p)
theorem atP_get (l : List NdT) (p : Txt) : (getN l p = none ∧ atP l p = -1) ∨ ∃ (k : Nat) (h : k < l.length), getN l p = some l[k] ∧ atP l p = (k : Int) ∧ l[k].1 = p := by
  unfold atP getN
  cases h : l.findIdx? (fun x => x.1 == p) with
  | none =>
    left
    rw [List.findIdx?_eq_none_iff] at h
    exact ⟨List.find?_eq_none.2 fun x hx => by simp [h x hx], rfl⟩
  | some k =>
    right
    rw [List.findIdx?_eq_some_iff_getElem] at h
    obtain ⟨h1, h2, h3⟩ := h
    refine ⟨k, h1, ?_, rfl, by simpa using h2⟩
    rw [List.find?_eq_some_iff_getElem]
    exact ⟨h2, k, h1, rfl, fun j hj => by simpa using h3 j hj⟩
/-- Is there such a directory? -/
def isDir (l : List NdT) (p : Txt) : Bool := match getN l p with | some m => m.2.1 | none => false
theorem refDir_eq (l : List NdT) (p : Txt) (hl : l.length ≤ 100000) : F_ref15_Dir l p = some (isDir l p, ()) := by
  unfold F_ref15_Dir isDir
  rw [refAt_eq l p hl, vS]
  rcases atP_get l p with ⟨h1, h2⟩ | ⟨k, hk, h1, h2, _⟩
  · rw [h1, h2]; rfl
  · have c : decide ((k : Int) ≥ 0) = true := decide_eq_true (by omega)
    rw [h1, h2]
    simp only [c, vT, idxL_nat hk, vS]
/-- Does a path collide with one of these? -/
def coll (l : List NdT) (p : Txt) : Bool := l.any fun x => !(x.1 == p) && foldT x.1 == foldT p
theorem refCollides_eq (l : List NdT) (p : Txt) (hl : l.length ≤ 100000) (hp : p.length ≤ 100000) (hs : ∀ x ∈ l, x.1.length ≤ 100000) : F_ref15_collides l p = some (coll l p, ()) := by
  unfold F_ref15_collides coll
  rw [refFold_eq p hp, vS]
  refine vB (iter_takeI l (by omega) (fun i q => ((i : Int), ())) (fun q => ∀ x ∈ q, (!(x.1 == p) && foldT x.1 == foldT p) = false) (by simp) (r := if (l.any fun x => !(x.1 == p) && foldT x.1 == foldT p) = true then .inl () else .inr ()) (fun i hi hI => ?_) fun hI => ?_) ?_
  · have hx := hs _ (List.getElem_mem hi)
    simp only [lt_c hi, vT, idxL_nat hi, vS, w1 (show i ≤ 1000000 by omega), refFold_eq l[i].1 hx]
    cases hb : (!(l[i].1 == p) && foldT l[i].1 == foldT p) with
    | true =>
      right
      rw [Bool.and_eq_true] at hb
      rw [hb.1, vT, hb.2, vT, vS, if_pos]
      · rfl
      · rw [List.any_eq_true]; exact ⟨l[i], List.getElem_mem hi, by rw [hb.1, hb.2]; rfl⟩
    | false =>
      left
      refine ⟨?_, fun x hx => ?_⟩
      · cases h1 : !(l[i].1 == p) with
        | false => rfl
        | true =>
          rw [h1, Bool.true_and] at hb
          rw [vT, hb]; rfl
      · rcases List.mem_append.1 hx with h | h
        · exact hI x h
        · rw [List.mem_singleton] at h; subst h; exact hb
  · simp only [ge_c (Nat.lt_irrefl _), vF]
    rw [if_neg]
    intro ha
    obtain ⟨x, h1, h2⟩ := List.any_eq_true.1 ha
    rw [hI x h1] at h2; cases h2
  · cases l.any fun x => !(x.1 == p) && foldT x.1 == foldT p <;> rfl
/-- How many bytes all have. -/
def bytesN (l : List NdT) : Nat := (l.map fun x => x.2.2.1.length).sum
theorem bytesN_snoc (l : List NdT) (x : NdT) : bytesN (l ++ [x]) = bytesN l + x.2.2.1.length := by unfold bytesN; rw [List.map_append, List.sum_append]; rfl
theorem bytesN_take {l : List NdT} {b : Nat} (hb : ∀ x ∈ l, x.2.2.1.length ≤ b) (i : Nat) : bytesN (l.take i) ≤ b * i := by
  induction i with
  | zero => simp [bytesN]
  | succ i ih =>
    by_cases hi : i < l.length
    · rw [List.take_succ_eq_append_getElem hi, bytesN_snoc]
      have := hb _ (List.getElem_mem hi)
      rw [Nat.mul_succ]; omega
    · rw [List.take_of_length_le (by omega)] at *
      rw [Nat.mul_succ]; omega
theorem refBytes_eq (l : List NdT) (hl : l.length ≤ 100000) (hb : ∀ x ∈ l, x.2.2.1.length ≤ 100000) : F_ref15_Bytes l = some ((bytesN l : Int), ()) := by
  unfold F_ref15_Bytes
  refine vB (iter_take l (by omega) (fun i q => ((bytesN q : Int), ((i : Int), ()))) (r := ((bytesN l : Int), ())) (fun i hi => ?_) ?_) rfl
  · have h1 := bytesN_take hb i
    have h2 := hb _ (List.getElem_mem hi)
    have h3 : 100000 * i ≤ 100000 * 100000 := Nat.mul_le_mul_left _ (by omega)
    have e : IntKind.i64.wrap ((bytesN (l.take i) : Int) + (l[i].2.2.1.length : Int)) = (bytesN (l.take i ++ [l[i]]) : Int) := by
      rw [bytesN_snoc, w64 (by omega) (by omega)]; omega
    simp only [lt_c hi, vT, idxL_nat hi, vS, w1 (show i ≤ 1000000 by omega), e]
  · simp only [ge_c (Nat.lt_irrefl _), vF]
def lastGe (q : List NdT) (p : Txt) : Bool := match q.getLast? with | some m => decide (0 ≤ cP m.1 p) | none => false
def noDad (q : List NdT) (p : Txt) : Bool := match par p with | some d => !isDir q d | none => false
/-- What is wrong with a node behind others. -/
def nErr (q : List NdT) (n : NdT) : Int :=
  if okR n.1 = false then 5 else if rst n = false then 1 else if lastGe q n.1 = true then 2
  else if noDad q n.1 = true then 8 else if coll q n.1 = true then 6 else 0
def tErr : List NdT → List NdT → Int
  | _, [] => 0
  | q, n :: r => if nErr q n = 0 then tErr (q ++ [n]) r else nErr q n
/-- Do nodes make a tree? -/
def chkTree (l : List NdT) : Int := if l.length > 4096 then 7 else if tErr [] l = 0 then (if bytesN l > 4194304 then 7 else 0) else tErr [] l
theorem tErr_step {l : List NdT} {i : Nat} (hi : i < l.length) (h : tErr [] l = tErr (l.take i) (l.drop i)) : (nErr (l.take i) l[i] = 0 ∧ tErr [] l = tErr (l.take i ++ [l[i]]) (l.drop (i + 1))) ∨ (nErr (l.take i) l[i] ≠ 0 ∧ tErr [] l = nErr (l.take i) l[i]) := by
  rw [List.drop_eq_getElem_cons hi] at h
  have h : tErr [] l = if nErr (l.take i) l[i] = 0 then tErr (l.take i ++ [l[i]]) (l.drop (i + 1)) else nErr (l.take i) l[i] := h
  by_cases h0 : nErr (l.take i) l[i] = 0
  · left; rw [if_pos h0] at h; exact ⟨h0, h⟩
  · right; rw [if_neg h0] at h; exact ⟨h0, h⟩
theorem refCheck_eq (l : List NdT) (hl : l.length ≤ 4096) (hs : ∀ x ∈ l, x.1.length ≤ 100000 ∧ x.2.2.1.length ≤ 100000) : F_ref15_Check l = some (chkTree l, ()) := by
  unfold F_ref15_Check chkTree
  have c0 : decide ((l.length : Int) > 4096) = false := decide_eq_false (by omega)
  rw [c0, vF, if_neg (by omega)]
  refine vB (iter_takeI l (by omega) (fun i q => ((i : Int), ())) (fun q => tErr [] l = tErr q (l.drop q.length)) rfl (r := if tErr [] l = 0 then .inr () else .inl (tErr [] l, ())) (fun i hi hI => ?_) fun hI => ?_) ?_
  · rw [List.length_take, Nat.min_eq_left (by omega)] at hI
    have hx := hs _ (List.getElem_mem hi)
    have hst : ∀ x ∈ l.take i, x.1.length ≤ 100000 := fun x hx => (hs x (List.mem_of_mem_take hx)).1
    have hq : subL l (0 : Int) (i : Int) = some (l.take i) := by rw [show (0 : Int) = ((0 : Nat) : Int) from rfl, subL_nat (Nat.zero_le _) (by omega)]; rfl
    have hlt : (l.take i).length ≤ 100000 := by simp; omega
    have step : ∀ e : Int, nErr (l.take i) l[i] = e → e ≠ 0 → (if tErr [] l = 0 then (.inr () : (Int × Unit) ⊕ Unit) else .inl (tErr [] l, ())) = .inl (e, ()) := fun e h1 h2 => by
      rcases tErr_step hi hI with ⟨h3, _⟩ | ⟨h3, h4⟩
      · exact absurd (h1.symm.trans h3) h2
      · rw [h4, h1, if_neg h2]
    have gl : (l.take i).getLast? = if 0 < i then some (l[i - 1]'(by omega)) else none := by
      rw [List.getLast?_eq_getElem?, List.length_take, Nat.min_eq_left (by omega)]
      split
      · rw [List.getElem?_take_of_lt (by omega), List.getElem?_eq_getElem]
      · rename_i h; obtain rfl : i = 0 := by omega
        rfl
    simp only [lt_c hi, vT, idxL_nat hi, vS, may_eq l[i] hx.1, w1 (show i ≤ 1000000 by omega)]
    cases h1 : okR l[i].1 with
    | false =>
      right
      rw [Bool.not_false, vT, step 5 (by unfold nErr; rw [if_pos h1]) (by decide)]
    | true =>
    cases h2 : rst l[i] with
    | false =>
      right
      rw [Bool.not_true, vF, Bool.not_false, vT, step 1 (by unfold nErr; rw [if_neg (by simp [h1]), if_pos h2]) (by decide)]
    | true =>
    rw [Bool.not_true, vF, vF]
    have e2 : ∀ R : (Int × Unit) ⊕ Unit, lastGe (l.take i) l[i].1 = true ∧ R = .inl (2, ()) ∨ lastGe (l.take i) l[i].1 = false ∧ R = .inr () →
        (bif decide ((i : Int) > 0) then ((idxL l (IntKind.i64.wrap ((i : Int) - 1))).bind fun v3 => (F_ref13_Compare v3.1 l[i].1).bind fun v5 => bif decide (v5.1 ≥ 0) then (some (.inl ((2 : Int), ()))) else (some (.inr ()))) else (some (.inr ()))) = some R := fun R hR => by
      unfold lastGe at hR
      by_cases hi0 : 0 < i
      · have c1 : decide ((i : Int) > 0) = true := decide_eq_true (by omega)
        have e1 : IntKind.i64.wrap ((i : Int) - 1) = ((i - 1 : Nat) : Int) := by rw [w64 (by omega) (by omega)]; omega
        have hi1 : i - 1 < l.length := by omega
        have hy := hs _ (List.getElem_mem hi1)
        rw [gl, if_pos hi0] at hR
        simp only at hR
        rw [c1, vT, e1, idxL_nat hi1, vS, refCompare_eq _ _ hy.1 hx.1, vS]
        rcases hR with ⟨h, rfl⟩ | ⟨h, rfl⟩
        · have : decide (cP l[i - 1].1 l[i].1 ≥ 0) = true := h
          simp only [this, vT]
        · have : decide (cP l[i - 1].1 l[i].1 ≥ 0) = false := h
          simp only [this, vF]
      · have c1 : decide ((i : Int) > 0) = false := decide_eq_false (by omega)
        rw [gl, if_neg hi0] at hR
        rw [c1, vF]
        rcases hR with ⟨h, rfl⟩ | ⟨h, rfl⟩
        · cases h
        · rfl
    cases h3 : lastGe (l.take i) l[i].1 with
    | true =>
      right
      rw [e2 _ (.inl ⟨h3, rfl⟩), vS, step 2 (by unfold nErr; rw [if_neg (by simp [h1]), if_neg (by simp [h2]), if_pos h3]) (by decide)]
      rfl
    | false =>
    rw [e2 _ (.inr ⟨h3, rfl⟩), vS]
    simp only [sumK, refParent_eq l[i].1 hx.1, vS, hq]
    have e4 : (bif (par l[i].1).isSome then ((F_ref15_Dir (l.take i) ((par l[i].1).getD [])).bind fun v12 => bif !v12.1 then (some (Sum.inl ((8 : Int), ()))) else (some (Sum.inr ()))) else (some (Sum.inr ()))) = some (if noDad (l.take i) l[i].1 = true then (.inl (8, ()) : (Int × Unit) ⊕ Unit) else .inr ()) := by
      unfold noDad
      cases par l[i].1 with
      | none => rfl
      | some d =>
        rw [Option.isSome_some, vT, Option.getD_some, refDir_eq _ _ hlt, vS]
        show _ = some (if (!isDir (l.take i) d) = true then (.inl (8, ()) : (Int × Unit) ⊕ Unit) else .inr ())
        cases isDir (l.take i) d <;> rfl
    rw [e4, vS]
    cases h4 : noDad (l.take i) l[i].1 with
    | true =>
      right
      rw [if_pos rfl, step 8 (by unfold nErr; rw [if_neg (by simp [h1]), if_neg (by simp [h2]), if_neg (by simp [h3]), if_pos h4]) (by decide)]
    | false =>
    rw [if_neg (by simp), refCollides_eq _ _ hlt hx.1 hst, vS]
    cases h5 : coll (l.take i) l[i].1 with
    | true =>
      right
      rw [vT, step 6 (by unfold nErr; rw [if_neg (by simp [h1]), if_neg (by simp [h2]), if_neg (by simp [h3]), if_neg (by simp [h4]), if_pos h5]) (by decide)]
    | false =>
      left
      refine ⟨rfl, ?_⟩
      have h0 : nErr (l.take i) l[i] = 0 := by unfold nErr; rw [if_neg (by simp [h1]), if_neg (by simp [h2]), if_neg (by simp [h3]), if_neg (by simp [h4]), if_neg (by simp [h5])]
      rcases tErr_step hi hI with ⟨_, h6⟩ | ⟨h6, _⟩
      · rw [h6]; congr 2; simp; omega
      · exact absurd h0 h6
  · rw [List.drop_length] at hI
    have : tErr [] l = 0 := by rw [hI]; unfold tErr; rfl
    simp only [ge_c (Nat.lt_irrefl _), vF, this, if_true]
  · by_cases h : tErr [] l = 0
    · rw [if_pos h, if_pos h]
      simp only [sumK, refBytes_eq l (by omega) (fun x hx => (hs x hx).2), vS]
      by_cases hb : bytesN l > 4194304
      · have c : decide ((bytesN l : Int) > 4194304) = true := decide_eq_true (by omega)
        rw [c, vT, if_pos hb]
      · have c : decide ((bytesN l : Int) > 4194304) = false := decide_eq_false (by omega)
        rw [c, vF, if_neg hb]
    · rw [if_neg h, if_neg h]; rfl
/-- Does a node stand right in a directory? -/
def kid (p : Txt) (x : NdT) : Bool := match par x.1 with | some d => d == p | none => p == []
theorem refList_eq (l : List NdT) (p : Txt) (hl : l.length ≤ 100000) (hs : ∀ x ∈ l, x.1.length ≤ 100000) : F_ref15_List l p = some (l.filter (kid p), ()) := by
  unfold F_ref15_List
  refine vB (iter_take l (by omega) (fun i q => ((i : Int), (q.filter (kid p), ()))) (r := (l.filter (kid p), ())) (fun i hi => ?_) ?_) rfl
  · have hx := hs _ (List.getElem_mem hi)
    have hll := List.length_filter_le (kid p) (l.take i)
    rw [List.length_take] at hll
    simp only [lt_c hi, vT, idxL_nat hi, vS, w1 (show i ≤ 1000000 by omega), refParent_eq l[i].1 hx, List.filter_append]
    generalize (l.take i).filter (kid p) = out at *
    have e : (bif (par l[i].1).isSome then (bif (par l[i].1).getD [] == p then (some (true, (out, ()))) else (bif !(par l[i].1).isSome then (some (p == ([] : Txt), (out, ()))) else (some (false, (out, ()))))) else (bif !(par l[i].1).isSome then (some (p == ([] : Txt), (out, ()))) else (some (false, (out, ()))))) = some (kid p l[i], (out, ())) := by
      unfold kid
      cases par l[i].1 with
      | none => rfl
      | some d =>
        simp only [Option.isSome_some, Option.getD_some]
        cases d == p <;> rfl
    rw [e, vS]
    cases hk : kid p l[i] with
    | true => simp only [vT, app1 (show out.length ≤ 1000000 by omega), vS]; simp [hk]
    | false => simp only [vF, vS]; simp [hk]
  · simp only [ge_c (Nat.lt_irrefl _), vF]
end Go.Proofs.YtglcbikbmobdpaaDoorM

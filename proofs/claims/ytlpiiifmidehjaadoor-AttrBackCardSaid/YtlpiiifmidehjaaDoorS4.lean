/- More operations; forks; what a function hands back. -/
import Derived.Test.YtlpiiifmidehjaaDoorS3
set_option linter.unusedSimpArgs false
set_option linter.unusedVariables false
namespace Go.Proofs.YtlpiiifmidehjaaDoorM
open Go Go.RowKit

variable {P : Program} {h h0 : AH} {X : List Nat} {L : List Ent}

def andI (k : IntKind) (a b : Int) : Int := k.wrap (BitVec.ofInt k.bits a &&& BitVec.ofInt k.bits b).toNat
def orI (k : IntKind) (a b : Int) : Int := k.wrap (BitVec.ofInt k.bits a ||| BitVec.ofInt k.bits b).toNat
def xorI (k : IntKind) (a b : Int) : Int := k.wrap (BitVec.ofInt k.bits a ^^^ BitVec.ofInt k.bits b).toNat
def andNotI (k : IntKind) (a b : Int) : Int := k.wrap (BitVec.ofInt k.bits a &&& ~~~BitVec.ofInt k.bits b).toNat
def shlI (k : IntKind) (a b : Int) : Option Int := if b < 0 then none else some (k.wrap (a * 2 ^ min b.toNat k.bits))
def shrI (a : Int) (k : IntKind) (b : Int) : Option Int := if b < 0 then none else some (a.fdiv (2 ^ min b.toNat k.bits))
def maxI (a b : Int) : Int := if b > a then b else a
def minI (a b : Int) : Int := if b < a then b else a
def chkLen (l : List Int) (n : Nat) : Option Unit := if l.length = n then some () else none
def chkIdx (n : Int) (i : Int) : Option Unit := if 0 ≤ i ∧ i < n then some () else none
def idxA (n : Int) (l : List Int) (i : Int) : Option Int := if 0 ≤ i ∧ i < n then l[i.toNat]? else none
def setA (n : Int) (l : List Int) (i v : Int) : Option (List Int) := if 0 ≤ i ∧ i < n ∧ i < l.length then some (l.set i.toNat v) else none
def lit3 : List Int → Option (Int × Int × Int)
  | [a, b, c] => some (a, b, c)
  | _ => none
theorem lit3_eq {l : List Int} {p : Int × Int × Int} (h : lit3 l = some p) : l = [p.1, p.2.1, p.2.2] := by
  unfold lit3 at h
  split at h
  · cases h; rfl
  · cases h
def sumK {α β γ : Type} (x : α ⊕ β) (f : α → Option γ) (g : β → Option γ) : Option γ :=
  match x with
  | .inl a => f a
  | .inr b => g b
theorem sumK_inl {α β γ : Type} {a : α} {f : α → Option γ} {g : β → Option γ} : sumK (.inl a) f g = f a := rfl
theorem sumK_inr {α β γ : Type} {b : β} {f : α → Option γ} {g : β → Option γ} : sumK (.inr b) f g = g b := rfl
theorem nf {b : Bool} (h : b = false) : ¬ b = true := by rw [h]; exact Bool.false_ne_true

theorem ai_add (k : IntKind) (a b : Int) : aint .add k a b = some (.int k (k.wrap (a + b))) := rfl
theorem ai_sub (k : IntKind) (a b : Int) : aint .sub k a b = some (.int k (k.wrap (a - b))) := rfl
theorem ai_mul (k : IntKind) (a b : Int) : aint .mul k a b = some (.int k (k.wrap (a * b))) := rfl
theorem ai_eql (k : IntKind) (a b : Int) : aint .eql k a b = some (.bool (a == b)) := rfl
theorem ai_neq (k : IntKind) (a b : Int) : aint .neq k a b = some (.bool (a != b)) := rfl
theorem ai_lss (k : IntKind) (a b : Int) : aint .lss k a b = some (.bool (decide (a < b))) := rfl
theorem ai_leq (k : IntKind) (a b : Int) : aint .leq k a b = some (.bool (decide (a ≤ b))) := rfl
theorem ai_gtr (k : IntKind) (a b : Int) : aint .gtr k a b = some (.bool (decide (a > b))) := rfl
theorem ai_geq (k : IntKind) (a b : Int) : aint .geq k a b = some (.bool (decide (a ≥ b))) := rfl
theorem ai_and (k : IntKind) (a b : Int) : aint .and k a b = some (.int k (andI k a b)) := rfl
theorem ai_or (k : IntKind) (a b : Int) : aint .or k a b = some (.int k (orI k a b)) := rfl
theorem ai_xor (k : IntKind) (a b : Int) : aint .xor k a b = some (.int k (xorI k a b)) := rfl
theorem ai_andNot (k : IntKind) (a b : Int) : aint .andNot k a b = some (.int k (andNotI k a b)) := rfl
theorem as_eql (a b : List UInt8) : astrop .eql a b = some (.bool (a == b)) := rfl
theorem as_neq (a b : List UInt8) : astrop .neq a b = some (.bool (!(a == b))) := rfl
theorem as_lss (a b : List UInt8) : astrop .lss a b = some (.bool (Op.bytesLess a b)) := rfl
theorem as_leq (a b : List UInt8) : astrop .leq a b = some (.bool (Op.bytesLess a b || a == b)) := rfl
theorem as_gtr (a b : List UInt8) : astrop .gtr a b = some (.bool (!(Op.bytesLess a b || a == b))) := rfl
theorem as_geq (a b : List UInt8) : astrop .geq a b = some (.bool (!Op.bytesLess a b)) := rfl
theorem am_max (k k' : IntKind) (a b : Int) : amaxmin true [.int k a, .int k' b] = some (.int k (maxI a b)) := rfl
theorem am_min (k k' : IntKind) (a b : Int) : amaxmin false [.int k a, .int k' b] = some (.int k (minI a b)) := rfl
theorem am_max3 (k k' k'' : IntKind) (a b c : Int) : amaxmin true [.int k a, .int k' b, .int k'' c] = some (.int k (maxI (maxI a b) c)) := rfl
theorem am_min3 (k k' k'' : IntKind) (a b c : Int) : amaxmin false [.int k a, .int k' b, .int k'' c] = some (.int k (minI (minI a b) c)) := rfl
theorem shl_int {k : IntKind} {a b r : Int} (hr : shlI k a b = some r) : ashift .shl k a b = some (.int k r) := by
  unfold shlI at hr
  split at hr
  · cases hr
  · rename_i hc; cases hr; simp only [ashift, if_neg hc]
theorem shr_int {k : IntKind} {a b r : Int} (hr : shrI a k b = some r) : ashift .shr k a b = some (.int k r) := by
  unfold shrI at hr
  split at hr
  · cases hr
  · rename_i hc; cases hr; simp only [ashift, if_neg hc]
theorem alen_str {t : TypeId} {l : List UInt8} (ht : P.underlying t = some .string) : alenOf P t (.str l) h = some (.int .i64 l.length) := by simp only [alenOf, ht]
theorem chkIdx_lo {n i : Int} {u : Unit} (hc : chkIdx n i = some u) : 0 ≤ i := by unfold chkIdx at hc; split at hc <;> simp_all
theorem chkIdx_hi {n i : Int} {u : Unit} (hc : chkIdx n i = some u) : i < n := by unfold chkIdx at hc; split at hc <;> simp_all
def chkCap (l : List UInt8) : Option Unit := if l.length ≤ capL then some () else none
theorem chkCap_le {l : List UInt8} {u : Unit} (hc : chkCap l = some u) : l.length ≤ capL := by unfold chkCap at hc; split at hc <;> simp_all
theorem chkLen_eq {l : List Int} {n : Nat} {u : Unit} (hc : chkLen l n = some u) : l.length = n := by unfold chkLen at hc; split at hc <;> simp_all
theorem subL_lo {α : Type} {l r : List α} {a b : Int} (hr : subL l a b = some r) : 0 ≤ a := by unfold subL at hr; split at hr <;> simp_all
theorem subL_hi {α : Type} {l r : List α} {a b : Int} (hr : subL l a b = some r) : 0 ≤ b := by
  unfold subL at hr
  split at hr
  · rename_i hc; omega
  · cases hr
theorem apart_all {t : TypeId} {n : Nat} {l : List Int} {k : IntKind} {u : Unit} (ha : isAg P t = some true) (hs : szOf P t = some n) (hc : chkLen l n = some u) : apart P t (l.map (AV.int k)) 0 = some (.agg (l.map (AV.int k))) := by
  have := chkLen_eq hc
  simp only [apart, ha, hs]
  rw [if_pos (by simp; omega), List.drop_zero, List.take_of_length_le (by simp; omega)]
theorem apart_idxA {t : TypeId} {l : List Int} {k : IntKind} {n i x : Int} (ha : isAg P t = some false) (hx : idxA n l i = some x) : apart P t (l.map (AV.int k)) (i.toNat * 1) = some (.int k x) := by
  unfold idxA at hx
  split at hx
  · simp only [apart, ha]
    rw [Nat.mul_one, List.getElem?_map, hx]; rfl
  · cases hx

theorem Sep.storeAll (S : Sep h0 X h L) (i : Nat) {id : Nat} {l l' : List Int} {k : IntKind} {T : TypeId} (hi : L[i]? = some (.blk id (l.map (AV.int k)) T)) {t : TypeId} {n : Nat} (hs : szOf P t = some n) {u u' : Unit} (h1 : chkLen l n = some u) (h2 : chkLen l' n = some u') :
    ∃ h1, astore P t (.ptr id 0) (.agg (l'.map (AV.int k))) h = some h1 ∧ Sep h0 X h1 (L.set i (.blk id (l'.map (AV.int k)) T)) := by
  have e1 := chkLen_eq h1
  have e2 := chkLen_eq h2
  refine S.store i hi (xs := l'.map (AV.int k)) rfl (by rw [List.length_map, e2]; exact hs) (by simp [AV.one]) (by simp; omega) ?_
  unfold splice
  rw [List.take_zero, List.nil_append, List.drop_of_length_le (by simp; omega), List.append_nil]
theorem Sep.storeA (S : Sep h0 X h L) (i : Nat) {id : Nat} {l l' : List Int} {k : IntKind} {T : TypeId} (hi : L[i]? = some (.blk id (l.map (AV.int k)) T)) {t : TypeId} (hs : szOf P t = some 1) {n j v : Int} (hx : setA n l j v = some l') :
    ∃ h1, astore P t (.ptr id (j.toNat * 1)) (.int k v) h = some h1 ∧ Sep h0 X h1 (L.set i (.blk id (l'.map (AV.int k)) T)) := by
  unfold setA at hx
  split at hx
  rotate_left
  · cases hx
  rename_i hc
  cases hx
  have hl : j.toNat < l.length := by omega
  refine S.store i hi (xs := [.int k v]) rfl hs rfl (by simp; omega) ?_
  unfold splice
  rw [Nat.mul_one, List.map_set, List.set_eq_take_append_cons_drop, if_pos (by simpa using hl)]
  rfl

theorem Sep.lend {id : Nat} {c : List AV} {T : TypeId} (hg : h.get id = some (.cells c true 0 (some (T, true)))) : Sep h [id] h [.blk id c T] :=
  ⟨Nat.le_refl _, fun _ _ _ hk => hk, fun e he => by rw [List.mem_singleton.1 he]; exact hg, fun e he k hk => by rw [List.mem_singleton.1 he] at hk; simp [Ent.ids] at hk; left; simp [hk], by simp [Ent.ids]⟩

theorem pick_nd {L L' : List Ent} (hn : (L.flatMap Ent.ids).Nodup) : ∀ (idx : List Nat) (L' : List Ent), idx.Nodup → idx.map (fun i => L[i]?) = L'.map some → (L'.flatMap Ent.ids).Nodup
  | [], [], _, _ => by simp
  | i :: idx, e :: L', hd, he => by
    simp only [List.map_cons, List.cons.injEq] at he
    rw [List.nodup_cons] at hd
    simp only [List.flatMap_cons, List.nodup_append]
    have h1 : e.ids.Nodup := by
      have := List.mem_of_getElem? he.1
      have hs : e.ids.Sublist (L.flatMap Ent.ids) := by
        obtain ⟨a, b, rfl⟩ := List.append_of_mem this
        simp only [List.flatMap_append, List.flatMap_cons]
        exact (List.sublist_append_left _ _).trans (List.sublist_append_right _ _)
      exact hn.sublist hs
    refine ⟨h1, pick_nd (L' := L') hn idx L' hd.2 he.2, fun a ha b hb hab => ?_⟩
    subst hab
    obtain ⟨x, hx, hax⟩ := List.mem_flatMap.1 hb
    obtain ⟨j, hj⟩ := List.mem_iff_getElem?.1 hx
    have h2 : (idx.map fun i => L[i]?)[j]? = some (some x) := by rw [he.2, List.getElem?_map, hj]; rfl
    rw [List.getElem?_map] at h2
    cases hq : idx[j]? with
    | none => rw [hq] at h2; cases h2
    | some q =>
      rw [hq] at h2
      have hq2 : L[q]? = some x := by simpa using h2
      have hne : q ≠ i := fun hh => hd.1 (by subst hh; exact List.mem_of_getElem? hq)
      exact nodup_other hn he.1 q x hq2 hne a hax ha
  | [], e :: L', _, he => by simp at he
  | i :: idx, [], _, he => by simp at he

/-- Some of them, in any order. -/
theorem Sep.pick {L' : List Ent} (S : Sep h0 X h L) (idx : List Nat) (hd : idx.Nodup) (he : idx.map (fun i => L[i]?) = L'.map some) : Sep h0 X h L' := by
  have hm : ∀ e ∈ L', e ∈ L := fun e h1 => by
    obtain ⟨j, hj⟩ := List.mem_iff_getElem?.1 h1
    have h2 : (idx.map fun i => L[i]?)[j]? = some (some e) := by rw [he, List.getElem?_map, hj]; rfl
    rw [List.getElem?_map] at h2
    cases hq : idx[j]? with
    | none => rw [hq] at h2; cases h2
    | some q => rw [hq] at h2; exact List.mem_of_getElem? (by simpa using h2)
  exact ⟨S.n, S.old, fun e h1 => S.ok e (hm e h1), fun e h1 => S.own e (hm e h1), pick_nd (L' := L') S.nd idx L' hd he⟩

abbrev KR (J : List AV → AH → Prop) (e : List AV) (h : AH) : Prop := J e h
theorem AE_joinR {cf : CallF} {ops : Array Oper} {l : List Oper} {env : List AV} {K : List AV → AH → Prop} (J : List AV → AH → Prop) (h1 : AE (aops P cf ops l env h) (KR J)) (h2 : ∀ e h', J e h' → K e h') : AE (aops P cf ops l env h) K := AE_join J h1 h2

theorem KP_ret {cf : CallF} {D : Array Oper → List AV → AH → Option (List AV × AH)} {fuel : Nat} {env : List AV} {rs : List ResultVar} {vs : List AV} {Q : AV → AH → Prop} (hr : aresults P env h rs = some vs) (hq : Q (packed vs) h) : KP P cf D fuel [] (Qfun P rs Q) .ret env h := by
  rw [KP_nil, Qfun_ret, hr, AVM_some]; exact hq
theorem KP_end {cf : CallF} {D : Array Oper → List AV → AH → Option (List AV × AH)} {fuel : Nat} {env : List AV} {rs : List ResultVar} {vs : List AV} {Q : AV → AH → Prop} (hr : aresults P env h rs = some vs) (hq : Q (packed vs) h) : KP P cf D fuel [] (Qfun P rs Q) .normal env h := by
  rw [KP_nil, Qfun_normal, hr, AVM_some]; exact hq

/-! ### Rules, by the handful -/
theorem WD : (type_of% @KP_seq) ∧ (type_of% @KP_seqE) ∧ (type_of% @KP_seqR) ∧ (type_of% @KP_block) ∧ (type_of% @KP_blockE) ∧ (type_of% @KP_blockR) ∧ (type_of% @AW_skip) ∧ (type_of% @AW_seq) ∧ (type_of% @AW_cond) ∧ (type_of% @AW_block) ∧ (type_of% @AW_exit) ∧ (type_of% @AW_scope) ∧ (type_of% @AW_label) ∧ (type_of% @AW_ret) ∧ (type_of% @AW_loop) :=
  ⟨@KP_seq, @KP_seqE, @KP_seqR, @KP_block, @KP_blockE, @KP_blockR, @AW_skip, @AW_seq, @AW_cond, @AW_block, @AW_exit, @AW_scope, @AW_label, @AW_ret, @AW_loop⟩
theorem WE : (type_of% @AE_nil) ∧ (type_of% @AE_step) ∧ (type_of% @AE_guard) ∧ (type_of% @KA_some) ∧ (type_of% @KA_none) ∧ (type_of% @GuardK_some) ∧ (type_of% @GuardW_yes) ∧ (type_of% @GuardW_tf) ∧ (type_of% @GuardW_ft) ∧ (type_of% @GuardW_undef) ∧ (type_of% @dstAt_zero) ∧ (type_of% @dstAt_succ) ∧ (type_of% @AR_some) ∧ (type_of% @AR_none) ∧ (type_of% @AVK_some) ∧ (type_of% @AVM_some) ∧ (type_of% @AHK_some) :=
  ⟨@AE_nil, @AE_step, @AE_guard, @KA_some, @KA_none, @GuardK_some, @GuardW_yes, @GuardW_tf, @GuardW_ft, @GuardW_undef, @dstAt_zero, @dstAt_succ, @AR_some, @AR_none, @AVK_some, @AVM_some, @AHK_some⟩
theorem WA : (type_of% @AR_map) ∧ (type_of% @AR_mapH) ∧ (type_of% @AVK_none) ∧ (type_of% @AVK_map) ∧ (type_of% @AVM_none) ∧ (type_of% @AHK_none) ∧ (type_of% @ai_add) ∧ (type_of% @ai_sub) ∧ (type_of% @ai_mul) ∧ (type_of% @ai_eql) ∧ (type_of% @ai_neq) ∧ (type_of% @ai_lss) ∧ (type_of% @ai_leq) ∧ (type_of% @ai_gtr) ∧ (type_of% @ai_geq) ∧ (type_of% @ai_and) ∧ (type_of% @ai_or) ∧ (type_of% @ai_xor) ∧ (type_of% @ai_andNot) ∧ (type_of% @as_eql) ∧ (type_of% @as_neq) ∧ (type_of% @as_lss) ∧ (type_of% @as_leq) ∧ (type_of% @as_gtr) ∧ (type_of% @as_geq) ∧ (type_of% @am_max) ∧ (type_of% @am_min) ∧ (type_of% @am_max3) ∧ (type_of% @am_min3) :=
  ⟨@AR_map, @AR_mapH, @AVK_none, @AVK_map, @AVM_none, @AHK_none, @ai_add, @ai_sub, @ai_mul, @ai_eql, @ai_neq, @ai_lss, @ai_leq, @ai_gtr, @ai_geq, @ai_and, @ai_or, @ai_xor, @ai_andNot, @as_eql, @as_neq, @as_lss, @as_leq, @as_gtr, @as_geq, @am_max, @am_min, @am_max3, @am_min3⟩
theorem WL : (type_of% @List.nil_append.{0}) ∧ (type_of% @List.append_nil.{0}) ∧ (type_of% @List.map_cons.{0,0}) ∧ (type_of% @List.map_nil.{0,0}) ∧ (type_of% @List.getElem?_toArray.{0}) ∧ (type_of% @List.getElem?_cons_zero.{0}) ∧ (type_of% @List.getElem?_cons_succ.{0}) ∧ (type_of% @Option.bind_some.{0,0}) ∧ (type_of% @Option.map_some.{0,0}) ∧ (type_of% @Option.map_none.{0,0}) ∧ (type_of% @List.length_cons.{0}) ∧ (type_of% @List.length_nil.{0}) ∧ (type_of% @Nat.zero_add) ∧ (type_of% @Nat.add_zero) ∧ (type_of% @or_self) ∧ (type_of% @or_false) ∧ (type_of% @false_or) ∧ (type_of% @or_true) ∧ (type_of% @true_or) ∧ (type_of% @true_and) ∧ (type_of% @and_true) ∧ (type_of% @Bool.not_true) ∧ (type_of% @Bool.not_false) :=
  ⟨@List.nil_append.{0}, @List.append_nil.{0}, @List.map_cons.{0,0}, @List.map_nil.{0,0}, @List.getElem?_toArray.{0}, @List.getElem?_cons_zero.{0}, @List.getElem?_cons_succ.{0}, @Option.bind_some.{0,0}, @Option.map_some.{0,0}, @Option.map_none.{0,0}, @List.length_cons.{0}, @List.length_nil.{0}, @Nat.zero_add, @Nat.add_zero, @or_self, @or_false, @false_or, @or_true, @true_or, @true_and, @and_true, @Bool.not_true, @Bool.not_false⟩
theorem W0 : (type_of% @CondK_true) ∧ (type_of% @CondK_false) ∧ (type_of% @gs) ∧ (type_of% (@List.length_set AV)) ∧ (type_of% @Bool.false_eq_true) ∧ (type_of% @Bool.true_eq_false) :=
  ⟨@CondK_true, @CondK_false, @gs, (@List.length_set AV), @Bool.false_eq_true, @Bool.true_eq_false⟩
end Go.Proofs.YtlpiiifmidehjaaDoorM

/- The value machine: operations that leave memory as it is. -/
import Derived.Test.YtlpiiifmidehjaaDoorV2
set_option linter.unusedSimpArgs false
set_option linter.unusedVariables false
namespace Go.Proofs.YtlpiiifmidehjaaDoorM
open Go Go.RowKit

section
variable {R : Type}
/-! ### Operators -/
def vint (m : Md R) (op : BinOp) (k : IntKind) (x y : Int) (K : SV → Option R) : Option R :=
  match op with
  | .add => K (.pv (.int k) (oAdd k x y))
  | .sub => K (.pv (.int k) (oSub k x y))
  | .mul => K (.pv (.int k) (oMul k x y))
  | .quo => vbind m (0 : Int) (quoI k x y) fun z => K (.pv (.int k) z)
  | .rem => vbind m (0 : Int) (remI x y) fun z => K (.pv (.int k) z)
  | .and => K (.pv (.int k) (andI k x y))
  | .or => K (.pv (.int k) (orI k x y))
  | .xor => K (.pv (.int k) (xorI k x y))
  | .andNot => K (.pv (.int k) (andNotI k x y))
  | .eql => K (.pv .bool (oEqI x y))
  | .neq => K (.pv .bool (oNeI x y))
  | .lss => K (.pv .bool (oLt x y))
  | .leq => K (.pv .bool (oLe x y))
  | .gtr => K (.pv .bool (oGt x y))
  | .geq => K (.pv .bool (oGe x y))
  | _ => none
def vshift (m : Md R) (op : BinOp) (k : IntKind) (x y : Int) (K : SV → Option R) : Option R :=
  match op with
  | .shl => vbind m (0 : Int) (shlI k x y) fun z => K (.pv (.int k) z)
  | .shr => vbind m (0 : Int) (shrI x k y) fun z => K (.pv (.int k) z)
  | _ => none
def vstr (m : Md R) (op : BinOp) (x y : List UInt8) (K : SV → Option R) : Option R :=
  match op with
  | .add => vbind m ([] : List UInt8) (cat x y) fun z => K (.pv .str z)
  | .eql => K (.pv .bool (oEqS x y))
  | .neq => K (.pv .bool (oNot (oEqS x y)))
  | .lss => K (.pv .bool (oBl x y))
  | .leq => K (.pv .bool (oOr (oBl x y) (oEqS x y)))
  | .gtr => K (.pv .bool (oNot (oOr (oBl x y) (oEqS x y))))
  | .geq => K (.pv .bool (oNot (oBl x y)))
  | _ => none
/-- A bool: known, or not. -/
def vnot : SV → Option SV
  | .kb b => some (.kb !b)
  | .pv t v => match asT t .bool v with
    | some b => some (.pv .bool (oNot b))
    | none => none
  | _ => none
/-- Is what is known of two values enough to tell whether they are the same? -/
def kEq : SV → SV → Option Bool
  | .con (.val (.pointer none)), .con (.val (.pointer none)) => some true
  | .con (.val (.pointer none)), .ptr _ _ => some false
  | .ptr _ _, .con (.val (.pointer none)) => some false
  | .con (.val (.map none)), .mp _ => some false
  | .mp _, .con (.val (.map none)) => some false
  | .con (.val (.slice none _ _)), .con (.val (.slice none _ _)) => some true
  | .con (.val .nilFunc), .con (.val .nilFunc) => some true
  | .con (.val .nilFunc), .fn _ _ _ => some false
  | .fn _ _ _, .con (.val .nilFunc) => some false
  | .con (.val .nilIface), .ifc _ _ => some false
  | .ifc _ _, .con (.val .nilIface) => some false
  | _, _ => none
/-- The type that such a comparison is of. -/
def kEqTy (d : Option TypeDesc) (a b : SV) : Bool :=
  match d with
  | some (.pointer _) => (match a, b with | .con (.val (.pointer none)), _ => true | _, .con (.val (.pointer none)) => true | _, _ => false)
  | some (.map _ _) => (match a, b with | .con (.val (.map none)), _ => true | _, .con (.val (.map none)) => true | _, _ => false)
  | some (.slice _) => (match a, b with | .con (.val (.slice none _ _)), _ => true | _, _ => false)
  | some (.func _ _ _) => (match a, b with | .con (.val .nilFunc), _ => true | _, .con (.val .nilFunc) => true | _, _ => false)
  | some (.interface _) => (match a, b with | .con (.val .nilIface), .ifc _ _ => true | .ifc _ _, .con (.val .nilIface) => true | _, _ => false)
  | _ => false
def vbin (P : Program) (m : Md R) (op : BinOp) (t : TypeId) (a b : SV) (K : SV → Option R) : Option R :=
  match a, b with
  | .pv (.int k) x, .pv (.int k') y => if op = .shl ∨ op = .shr then vshift m op k x y K else if k = k' then vint m op k x y K else none
  | .pv .str x, .pv .str y => vstr m op x y K
  | a, b =>
    if op = .eql ∨ op = .neq then
      match toC .bool a, toC .bool b with
      | some x, some y => (match P.underlying t with | some .bool => K (.pv .bool (if op = .eql then oEqB x y else oNot (oEqB x y))) | _ => none)
      | _, _ => match kEq a b with
        | some c => if kEqTy (P.underlying t) a b then K (.kb (if op = .eql then c else !c)) else none
        | none => none
    else none
end

section
variable {R : Type} {m : Md R} {g : FM} {H : List AV}
theorem pvR {t : Ty} (ht : t.ag = false) {v : t.D} {x : AV} (h : SVR g H (.pv t v) x) : RepC g t [x] v := by
  obtain ⟨y, e, hv⟩ := h; cases e; exact hv.c1 ht
theorem pvI {k : IntKind} {n : Int} {x : AV} (h : SVR g H (.pv (.int k) n) x) : x = .int k n := by
  have := pvR rfl h; simpa [RepC] using this
theorem pvB {b : Bool} {x : AV} (h : SVR g H (.pv .bool b) x) : x = .bool b := by
  have := pvR rfl h; simpa [RepC] using this
theorem pvS {l : List UInt8} {x : AV} (h : SVR g H (.pv .str l) x) : x = .str l := by
  have := pvR rfl h; simpa [RepC] using this
theorem int_pv (k : IntKind) (n : Int) : SVR g H (.pv (.int k) n) (.int k n) := ⟨_, rfl, rfl⟩
theorem bool_pv (b : Bool) : SVR g H (.pv .bool b) (.bool b) := ⟨_, rfl, rfl⟩
theorem str_pv (l : List UInt8) : SVR g H (.pv .str l) (.str l) := ⟨_, rfl, rfl⟩

theorem vint_ok (hm : m.real = true) {op : BinOp} {k : IntKind} {x y : Int} {K : SV → Option R} {r : R} (h : vint m op k x y K = some r) : ∃ v s, aint op k x y = some v ∧ SVR g H s v ∧ K s = some r := by
  unfold vint at h
  split at h <;> first | (exact ⟨_, _, rfl, int_pv _ _, h⟩) | (exact ⟨_, _, rfl, bool_pv _, h⟩) | skip
  · obtain ⟨z, hz, hk⟩ := vbind_ok hm h; exact ⟨_, _, quo_int hz, int_pv _ _, hk⟩
  · obtain ⟨z, hz, hk⟩ := vbind_ok hm h; exact ⟨_, _, rem_int hz, int_pv _ _, hk⟩
  · cases h
theorem vshift_ok (hm : m.real = true) {op : BinOp} {k : IntKind} {x y : Int} {K : SV → Option R} {r : R} (h : vshift m op k x y K = some r) : ∃ v s, ashift op k x y = some v ∧ SVR g H s v ∧ K s = some r := by
  unfold vshift at h
  split at h
  · obtain ⟨z, hz, hk⟩ := vbind_ok hm h; exact ⟨_, _, shl_int hz, int_pv _ _, hk⟩
  · obtain ⟨z, hz, hk⟩ := vbind_ok hm h; exact ⟨_, _, shr_int hz, int_pv _ _, hk⟩
  · cases h
theorem vstr_ok (hm : m.real = true) {op : BinOp} {x y : List UInt8} {K : SV → Option R} {r : R} (h : vstr m op x y K = some r) : ∃ v s, astrop op x y = some v ∧ SVR g H s v ∧ K s = some r := by
  unfold vstr at h
  split at h <;> first | (exact ⟨_, _, rfl, bool_pv _, h⟩) | skip
  · obtain ⟨z, hz, hk⟩ := vbind_ok hm h; exact ⟨_, _, cat_str hz, str_pv _, hk⟩
  · cases h

theorem toC_bool {s : SV} {b : Bool} (h : toC .bool s = some b) {x : AV} (hr : SVR g H s x) : x = .bool b := by
  have := toC_ok h hr
  have := RepV.c1 rfl this
  simpa [RepC] using this

theorem conR {c x : AV} (h : SVR g H (.con c) x) : x = c := by cases h; rfl
theorem ptrR {k o : Nat} {x : AV} (h : SVR g H (.ptr k o) x) : ∃ id, x = .ptr id o := by obtain ⟨id, _, e⟩ := h; cases e; exact ⟨id, rfl⟩
theorem mpR {k : Nat} {x : AV} (h : SVR g H (.mp k) x) : ∃ id, x = .map id := by obtain ⟨id, _, e⟩ := h; cases e; exact ⟨id, rfl⟩
theorem fnR {f : FuncId} {a b : SV} {x : AV} (h : SVR g H (.fn f a b) x) : ∃ xs ys, x = .func (.func f) xs ys := by obtain ⟨xs, ys, e, _⟩ := h; cases e; exact ⟨xs, ys, rfl⟩
theorem ifcR {t : TypeId} {a : SV} {x : AV} (h : SVR g H (.ifc t a) x) : ∃ y, x = .iface t y := by obtain ⟨y, e, _⟩ := h; cases e; exact ⟨y, rfl⟩
theorem kEq_ok {P : Program} {t : TypeId} {a b : SV} {c : Bool} (h : kEq a b = some c) (ht : kEqTy (P.underlying t) a b = true) {x y : AV} (ha : SVR g H a x) (hb : SVR g H b y) {op : BinOp} (ho : op = .eql ∨ op = .neq) (xc yc : Bool) :
    abin P op t xc yc x y = some (.bool (if op = .eql then c else !c)) := by
  have key : ∀ {x y : AV}, (∀ k n k' n', ¬ (x = .int k n ∧ y = .int k' n')) → (∀ k n, ¬ (x = .str k ∧ y = .str n)) → abin P op t xc yc x y = aeqOp P op t xc yc x y := fun {x y} h1 h2 => by
    unfold abin
    split
    · rename_i k n k' n'; exact absurd ⟨rfl, rfl⟩ (h1 k n k' n')
    · rename_i k n; exact absurd ⟨rfl, rfl⟩ (h2 k n)
    · rfl
  have fin : ∀ {x y : AV} {c : Bool}, aeqOp P op t xc yc x y = some (.bool (if op = .eql then c else !c)) → (∀ k n k' n', ¬ (x = .int k n ∧ y = .int k' n')) → (∀ k n, ¬ (x = .str k ∧ y = .str n)) → abin P op t xc yc x y = some (.bool (if op = .eql then c else !c)) := fun h h1 h2 => by rw [key h1 h2]; exact h
  unfold kEq at h
  split at h <;> cases h
  · obtain rfl := conR ha; obtain rfl := conR hb
    unfold kEqTy at ht
    split at ht <;> first | (cases ht; done) | skip
    rename_i hu; exact fin (by simp [aeqOp, ho, eqForm, isNilI, isAggV, aeq, hu, aeqCell]) (by intros; simp) (by intros; simp)
  · obtain rfl := conR ha; obtain ⟨id, rfl⟩ := ptrR hb
    unfold kEqTy at ht
    split at ht <;> first | (cases ht; done) | skip
    rename_i hu; exact fin (by simp [aeqOp, ho, eqForm, isNilI, isAggV, aeq, hu, aeqCell]) (by intros; simp) (by intros; simp)
  · obtain rfl := conR hb; obtain ⟨id, rfl⟩ := ptrR ha
    unfold kEqTy at ht
    split at ht <;> first | (cases ht; done) | skip
    rename_i hu; exact fin (by simp [aeqOp, ho, eqForm, isNilI, isAggV, aeq, hu, aeqCell]) (by intros; simp) (by intros; simp)
  · obtain rfl := conR ha; obtain ⟨id, rfl⟩ := mpR hb
    unfold kEqTy at ht
    split at ht <;> first | (cases ht; done) | skip
    rename_i hu; exact fin (by simp [aeqOp, ho, eqForm, isNilI, isAggV, aeq, hu, aeqCell]) (by intros; simp) (by intros; simp)
  · obtain rfl := conR hb; obtain ⟨id, rfl⟩ := mpR ha
    unfold kEqTy at ht
    split at ht <;> first | (cases ht; done) | skip
    rename_i hu; exact fin (by simp [aeqOp, ho, eqForm, isNilI, isAggV, aeq, hu, aeqCell]) (by intros; simp) (by intros; simp)
  · obtain rfl := conR ha; obtain rfl := conR hb
    unfold kEqTy at ht
    split at ht <;> first | (cases ht; done) | skip
    rename_i hu; exact fin (by simp [aeqOp, ho, eqForm, isNilI, isAggV, aeq, hu, aeqCell]) (by intros; simp) (by intros; simp)
  · obtain rfl := conR ha; obtain rfl := conR hb
    unfold kEqTy at ht
    split at ht <;> first | (cases ht; done) | skip
    rename_i hu; exact fin (by simp [aeqOp, ho, eqForm, isNilI, isAggV, aeq, hu, aeqCell]) (by intros; simp) (by intros; simp)
  · obtain rfl := conR ha; obtain ⟨_, _, rfl⟩ := fnR hb
    unfold kEqTy at ht
    split at ht <;> first | (cases ht; done) | skip
    rename_i hu; exact fin (by simp [aeqOp, ho, eqForm, isNilI, isAggV, aeq, hu, aeqCell]) (by intros; simp) (by intros; simp)
  · obtain rfl := conR hb; obtain ⟨_, _, rfl⟩ := fnR ha
    unfold kEqTy at ht
    split at ht <;> first | (cases ht; done) | skip
    rename_i hu; exact fin (by simp [aeqOp, ho, eqForm, isNilI, isAggV, aeq, hu, aeqCell]) (by intros; simp) (by intros; simp)
  · obtain rfl := conR ha; obtain ⟨_, rfl⟩ := ifcR hb
    unfold kEqTy at ht
    split at ht <;> first | (cases ht; done) | skip
    rename_i hu; exact fin (by simp [aeqOp, ho, eqForm, isNilI, isAggV, aeq, hu, aeqCell]) (by intros; simp) (by intros; simp)
  · obtain rfl := conR hb; obtain ⟨_, rfl⟩ := ifcR ha
    unfold kEqTy at ht
    split at ht <;> first | (cases ht; done) | skip
    rename_i hu; exact fin (by simp [aeqOp, ho, eqForm, isNilI, isAggV, aeq, hu, aeqCell]) (by intros; simp) (by intros; simp)

theorem vbin_ok {P : Program} (hm : m.real = true) {op : BinOp} {t : TypeId} {a b : SV} {K : SV → Option R} {r : R} (h : vbin P m op t a b K = some r) {x y : AV} (ha : SVR g H a x) (hb : SVR g H b y) (xc yc : Bool) :
    ∃ v s, abin P op t xc yc x y = some v ∧ SVR g H s v ∧ K s = some r := by
  unfold vbin at h
  split at h
  · rw [pvI ha, pvI hb]
    unfold abin
    split at h
    · rename_i ho; simp only [if_pos ho]; exact vshift_ok hm h
    · rename_i ho
      split at h
      · rename_i e; subst e; simp only [if_neg ho, if_true]; exact vint_ok hm h
      · cases h
  · rw [pvS ha, pvS hb]
    exact vstr_ok hm h
  · split at h
    · rename_i ho
      split at h
      · rename_i u v hu hv
        rw [toC_bool hu ha, toC_bool hv hb]
        split at h
        · rename_i hut
          refine ⟨_, _, ?_, bool_pv _, h⟩
          simp only [abin, aeqOp, if_pos ho, eqForm, isNilI, isAggV, aeq, hut, aeqCell, Bool.and_self, Bool.and_true, Bool.true_and, Bool.not_false, Bool.false_and, Bool.true_or, if_true, Option.map_some]
        · cases h
      · split at h
        · rename_i c hc
          split at h
          · rename_i ht
            exact ⟨_, .kb _, kEq_ok hc ht ha hb ho xc yc, rfl, h⟩
          · cases h
        · cases h
    · cases h
end
end Go.Proofs.YtlpiiifmidehjaaDoorM

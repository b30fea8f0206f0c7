/- Going through code, backwards: what must hold ahead of a piece of code for what is to hold behind it. -/
import Derived.Test.YtobhmahlenjheaaM19
set_option linter.unusedSimpArgs false
set_option linter.unusedVariables false
namespace Go.Proofs.YtobhmahlenjheaaM
open Go Go.RowKit

variable {P : Program} {T : PTab} {cf : CallF} {D : Array Oper → List AV → AH → Option (List AV × AH)} {fuel : Nat} {env : List AV} {h : AH}

def AW (r : ARes) (Q : AX → List AV → AH → Prop) : Prop :=
  match r with
  | some t => Q t.1 t.2.1 t.2.2
  | none => False
def AE (r : Option (List AV × AH)) (Q : List AV → AH → Prop) : Prop :=
  match r with
  | some t => Q t.1 t.2
  | none => False
def AR (r : Option (AV × AH)) (Q : AV → AH → Prop) : Prop :=
  match r with
  | some t => Q t.1 t.2
  | none => False
def AVal {α : Type} (r : Option α) (Q : α → Prop) : Prop :=
  match r with
  | some v => Q v
  | none => False

theorem AW.out {r : ARes} {Q : AX → List AV → AH → Prop} (h : AW r Q) : ∃ x e h, r = some (x, e, h) ∧ Q x e h := by
  cases r with
  | none => exact h.elim
  | some t => exact ⟨_, _, _, rfl, h⟩
theorem AR.out {r : Option (AV × AH)} {Q : AV → AH → Prop} (h : AR r Q) : ∃ v h, r = some (v, h) ∧ Q v h := by
  cases r with
  | none => exact h.elim
  | some t => exact ⟨_, _, rfl, h⟩
theorem AVal.out {α : Type} {r : Option α} {Q : α → Prop} (h : AVal r Q) : ∃ v, r = some v ∧ Q v := by
  cases r with
  | none => exact h.elim
  | some t => exact ⟨_, rfl, h⟩


/-- One piece of what is still to be done. -/
inductive Fr where
  | seq (b : Code)
  | block (id : Nat)

def KP (P : Program) (cf : CallF) (D : Array Oper → List AV → AH → Option (List AV × AH)) (fuel : Nat) : List Fr → (AX → List AV → AH → Prop) → AX → List AV → AH → Prop
  | [], Q, x, e, h => Q x e h
  | .seq b :: ks, Q, x, e, h => match x with
    | .normal => AW (acode P cf D fuel b e h) (KP P cf D fuel ks Q)
    | x => KP P cf D fuel ks Q x e h
  | .block id :: ks, Q, x, e, h => match x with
    | .exit i => KP P cf D fuel ks Q (if i = id then .normal else .exit i) e h
    | x => KP P cf D fuel ks Q x e h

/-- Behind an operation: the rest of its region. -/
def KA (P : Program) (cf : CallF) (d : Option Tmp) (ops : Array Oper) (l : List Oper) (env : List AV) (K : List AV → AH → Prop) (v : AV) (h : AH) : Prop := AE (aops P cf ops l (eput env d v) h) K
def CondK (P : Program) (cf : CallF) (D : Array Oper → List AV → AH → Option (List AV × AH)) (fuel : Nat) (v : AV) (a b : Code) (env : List AV) (h : AH) (K : AX → List AV → AH → Prop) : Prop :=
  match v with
  | .bool true => AW (acode P cf D fuel a env h) K
  | .bool false => AW (acode P cf D fuel b env h) K
  | _ => False
def GuardW (P : Program) (cf : CallF) (v : AV) (want : Bool) (op : Op) (d : Option Tmp) (ops : Array Oper) (l : List Oper) (env : List AV) (h : AH) (K : List AV → AH → Prop) : Prop :=
  match v with
  | .bool b => (b = want → AR (aop P cf env op h) (KA P cf d ops l env K)) ∧ (¬ b = want → KA P cf d ops l env K .undef h)
  | .tup [] => KA P cf d ops l env K .undef h
  | _ => False
def GuardK (P : Program) (cf : CallF) (t : Option Tmp) (want : Bool) (op : Op) (d : Option Tmp) (ops : Array Oper) (l : List Oper) (env : List AV) (h : AH) (K : List AV → AH → Prop) : Prop :=
  match t with
  | some t => t < env.length ∧ GuardW P cf (env.getD t .undef) want op d ops l env h K
  | none => False
/-- A value, or none; then K. -/
def AVK (x : Option AV) (h : AH) (K : AV → AH → Prop) : Prop := AVal x fun v => K v h
def AVM {α : Type} (x : Option α) (f : α → AV) (h : AH) (K : AV → AH → Prop) : Prop := AVal x fun v => K (f v) h
def AHK (x : Option AH) (v : AV) (K : AV → AH → Prop) : Prop := AVal x fun h => K v h

variable {Q : AX → List AV → AH → Prop} {K : AX → List AV → AH → Prop} {KE : List AV → AH → Prop} {KV : AV → AH → Prop} {ks : List Fr}

theorem KP_nil {x : AX} : KP P cf D fuel [] Q x env h = Q x env h := by cases x <;> exact propext ⟨id, id⟩
theorem KP_seq {b : Code} : KP P cf D fuel (.seq b :: ks) Q .normal env h = AW (acode P cf D fuel b env h) (KP P cf D fuel ks Q) := propext ⟨id, id⟩
theorem KP_seqE {b : Code} {i : Nat} : KP P cf D fuel (.seq b :: ks) Q (.exit i) env h = KP P cf D fuel ks Q (.exit i) env h := propext ⟨id, id⟩
theorem KP_seqR {b : Code} : KP P cf D fuel (.seq b :: ks) Q .ret env h = KP P cf D fuel ks Q .ret env h := propext ⟨id, id⟩
theorem KP_block {j : Nat} : KP P cf D fuel (.block j :: ks) Q .normal env h = KP P cf D fuel ks Q .normal env h := propext ⟨id, id⟩
theorem KP_blockE {j i : Nat} : KP P cf D fuel (.block j :: ks) Q (.exit i) env h = KP P cf D fuel ks Q (if i = j then .normal else .exit i) env h := propext ⟨id, id⟩
theorem KP_blockR {j : Nat} : KP P cf D fuel (.block j :: ks) Q .ret env h = KP P cf D fuel ks Q .ret env h := propext ⟨id, id⟩

theorem AW_skip : AW (acode P cf D fuel .skip env h) K = K .normal env h := by simp only [acode]; exact propext ⟨id, id⟩
theorem AW_exit {i : Nat} : AW (acode P cf D fuel (.exit i) env h) K = K (.exit i) env h := by simp only [acode]; exact propext ⟨id, id⟩
theorem AW_ret : AW (acode P cf D fuel .ret env h) K = K .ret env h := by simp only [acode]; exact propext ⟨id, id⟩
theorem AW_label {l : Nat} : AW (acode P cf D fuel (.label l) env h) K = K .normal env h := by simp only [acode]; exact propext ⟨id, id⟩
theorem AW_scope {c : Code} : AW (acode P cf D fuel (.scope c) env h) K = AW (acode P cf D fuel c env h) K := by simp only [acode]
theorem AW_loop {c : Code} : AW (acode P cf D fuel (.loop c) env h) K = AW (aloop (acode P cf D fuel c) fuel env h) K := by simp only [acode]
theorem AW_region {id : Nat} {l : List Oper} : AW (acode P cf D fuel (.region id l.toArray false) env h) K = AE (aops P cf l.toArray l env h) (K .normal) := by
  simp only [acode]
  cases aops P cf l.toArray l env h <;> rfl
theorem AW_drawn {id : Nat} {ops : Array Oper} : AW (acode P cf D fuel (.region id ops true) env h) K = AE (D ops env h) (K .normal) := by
  simp only [acode]
  cases D ops env h <;> rfl
theorem AE_drawn {l : List Oper} (hd : dOK P T l.toArray = true) : AE (drawnOf P T cf l.toArray env h) KE = AE (aops P (withTab T cf) l.toArray l env h) KE := by
  simp only [drawnOf, hd, if_true]
theorem AW_seq {a b : Code} : AW (acode P cf D fuel (a.seq b) env h) (KP P cf D fuel ks Q) = AW (acode P cf D fuel a env h) (KP P cf D fuel (.seq b :: ks) Q) := by
  simp only [acode]
  cases ha : acode P cf D fuel a env h with
  | none => rfl
  | some r =>
    obtain ⟨x, e, h'⟩ := r
    cases x <;> rfl
theorem AW_block {j : Nat} {c : Code} : AW (acode P cf D fuel (.block j c) env h) (KP P cf D fuel ks Q) = AW (acode P cf D fuel c env h) (KP P cf D fuel (.block j :: ks) Q) := by
  simp only [acode]
  cases ha : acode P cf D fuel c env h with
  | none => rfl
  | some r =>
    obtain ⟨x, e, h'⟩ := r
    cases x <;> rfl
theorem AW_cond {c : Operand} {a b : Code} : AW (acode P cf D fuel (.cond c a b) env h) K = CondK P cf D fuel (evalOp env c) a b env h K := by
  simp only [acode]
  cases evalOp env c with
  | bool b => cases b <;> rfl
  | _ => rfl
theorem CondK_true {a b : Code} : CondK P cf D fuel (.bool true) a b env h K = AW (acode P cf D fuel a env h) K := propext ⟨id, id⟩
theorem CondK_false {a b : Code} : CondK P cf D fuel (.bool false) a b env h K = AW (acode P cf D fuel b env h) K := propext ⟨id, id⟩
theorem CondK_bool {v : Bool} {a b : Code} : CondK P cf D fuel (.bool v) a b env h K = ((v = true → AW (acode P cf D fuel a env h) K) ∧ (v = false → AW (acode P cf D fuel b env h) K)) := by
  cases v <;> simp [CondK]

theorem AE_nil {ops : Array Oper} : AE (aops P cf ops [] env h) KE = KE env h := by simp only [aops]; exact propext ⟨id, id⟩
theorem AE_step {ops : Array Oper} {d : Option Tmp} {op : Op} {t : TypeId} {p : String} {a : Array Edge} {l : List Oper} :
    AE (aops P cf ops (⟨d, op, t, p, a, none⟩ :: l) env h) KE = AR (aop P cf env op h) (KA P cf d ops l env KE) := by
  simp only [aops, astep, awanted]
  cases aop P cf env op h <;> rfl
theorem KA_some {d : Tmp} {ops : Array Oper} {l : List Oper} {v : AV} : KA P cf (some d) ops l env KE v h = AE (aops P cf ops l (env.set d v) h) KE := propext ⟨id, id⟩
theorem KA_none {ops : Array Oper} {l : List Oper} {v : AV} : KA P cf none ops l env KE v h = AE (aops P cf ops l env h) KE := propext ⟨id, id⟩
theorem GuardK_some {t : Tmp} {want : Bool} {op : Op} {d : Option Tmp} {ops : Array Oper} {l : List Oper} : GuardK P cf (some t) want op d ops l env h KE = (t < env.length ∧ GuardW P cf (env.getD t .undef) want op d ops l env h KE) := propext ⟨id, id⟩
theorem GuardW_yes {op : Op} {d : Option Tmp} {ops : Array Oper} {l : List Oper} {b : Bool} : GuardW P cf (.bool b) b op d ops l env h KE = AR (aop P cf env op h) (KA P cf d ops l env KE) := by simp [GuardW]
theorem GuardW_tf {op : Op} {d : Option Tmp} {ops : Array Oper} {l : List Oper} : GuardW P cf (.bool true) false op d ops l env h KE = KA P cf d ops l env KE .undef h := by simp [GuardW]
theorem GuardW_ft {op : Op} {d : Option Tmp} {ops : Array Oper} {l : List Oper} : GuardW P cf (.bool false) true op d ops l env h KE = KA P cf d ops l env KE .undef h := by simp [GuardW]
theorem GuardW_undef {want : Bool} {op : Op} {d : Option Tmp} {ops : Array Oper} {l : List Oper} : GuardW P cf .undef want op d ops l env h KE = KA P cf d ops l env KE .undef h := propext ⟨id, id⟩

/-- Where an operation of a region puts what it yields. -/
def dstAt : List Oper → Nat → Option Tmp
  | [], _ => none
  | o :: _, 0 => o.dst
  | _ :: l, j + 1 => dstAt l j
theorem dstAt_zero {d : Option Tmp} {op : Op} {t : TypeId} {p : String} {a : Array Edge} {g : Option (Nat × Bool)} {l : List Oper} : dstAt (⟨d, op, t, p, a, g⟩ :: l) 0 = d := rfl
theorem dstAt_succ {o : Oper} {l : List Oper} {j : Nat} : dstAt (o :: l) (j + 1) = dstAt l j := rfl
theorem dstAt_eq : ∀ (l : List Oper) (j : Nat), (l[j]?).bind (·.dst) = dstAt l j
  | [], _ => rfl
  | _ :: _, 0 => rfl
  | _ :: l, j + 1 => dstAt_eq l j
theorem AE_guardA {ops : Array Oper} {d : Option Tmp} {op : Op} {t : TypeId} {p : String} {a : Array Edge} {j : Nat} {want : Bool} {l : List Oper} :
    AE (aops P cf ops (⟨d, op, t, p, a, some (j, want)⟩ :: l) env h) KE = GuardK P cf ((ops[j]?).bind (·.dst)) want op d ops l env h KE := by
  simp only [aops, astep, awanted]
  cases hd : (ops[j]?).bind (·.dst) with
  | none => rfl
  | some t =>
    simp only [GuardK]
    by_cases hlt : t < env.length
    · have : env[t]? = some (env.getD t .undef) := by simp [List.getD, List.getElem?_eq_getElem hlt]
      rw [this]
      generalize env.getD t .undef = v
      simp only [hlt, true_and]
      cases v with
      | bool b =>
        simp only [GuardW]
        cases b <;> cases want <;> simp <;> first | rfl | (cases aop P cf env op h <;> rfl)
      | tup xs => cases xs <;> rfl
      | _ => rfl
    · have : env[t]? = none := List.getElem?_eq_none (Nat.le_of_not_lt hlt)
      rw [this]
      simp only [hlt, false_and]
      rfl
theorem AE_guard {l0 : List Oper} {d : Option Tmp} {op : Op} {t : TypeId} {p : String} {a : Array Edge} {j : Nat} {want : Bool} {l : List Oper} :
    AE (aops P cf l0.toArray (⟨d, op, t, p, a, some (j, want)⟩ :: l) env h) KE = GuardK P cf (dstAt l0 j) want op d l0.toArray l env h KE := by
  rw [AE_guardA, ← dstAt_eq]
  simp only [List.getElem?_toArray]

theorem AR_some {v : AV} : AR (some (v, h)) KV = KV v h := propext ⟨id, id⟩
theorem AR_none : AR none KV = False := propext ⟨id, id⟩
theorem AR_map {x : Option AV} : AR (x.map fun v => (v, h)) KV = AVK x h KV := by cases x <;> exact propext ⟨id, id⟩
theorem AR_mapH {x : Option AH} {v : AV} : AR (x.map fun h' => (v, h')) KV = AHK x v KV := by cases x <;> exact propext ⟨id, id⟩
theorem AR_ite {c : Prop} [Decidable c] {r : AV × AH} : AR (if c then some r else none) KV = (c ∧ KV r.1 r.2) := by
  by_cases hc : c <;> simp [AR, hc]
theorem AVK_some {v : AV} : AVK (some v) h KV = KV v h := propext ⟨id, id⟩
theorem AVK_none : AVK none h KV = False := propext ⟨id, id⟩
theorem AVK_map {α : Type} {x : Option α} {f : α → AV} : AVK (x.map f) h KV = AVM x f h KV := by cases x <;> exact propext ⟨id, id⟩
theorem AVK_ite {c : Prop} [Decidable c] {v : AV} : AVK (if c then some v else none) h KV = (c ∧ KV v h) := by
  by_cases hc : c <;> simp [AVK, AVal, hc]
theorem AVM_some {α : Type} {v : α} {f : α → AV} : AVM (some v) f h KV = KV (f v) h := propext ⟨id, id⟩
theorem AVM_none {α : Type} {f : α → AV} : AVM none f h KV = False := propext ⟨id, id⟩
theorem AHK_some {v : AV} : AHK (some h) v KV = KV v h := propext ⟨id, id⟩
theorem AHK_none {v : AV} : AHK none v KV = False := propext ⟨id, id⟩
theorem AHK_ite {c : Prop} [Decidable c] {v : AV} {g : AH} : AHK (if c then some g else none) v KV = (c ∧ KV v g) := by
  by_cases hc : c <;> simp [AHK, AVal, hc]

theorem gs (l : List AV) (i j : Nat) (v : AV) : (l.set i v).getD j .undef = if i = j then (if i < l.length then v else .undef) else l.getD j .undef := by
  simp only [List.getD, List.getElem?_set]
  by_cases h1 : i = j
  · subst h1
    by_cases h2 : i < l.length <;> simp [h2]
  · simp [h1]

/-- A loop, by what holds ahead of each round; n rounds are enough. -/
theorem AW_rounds {f : List AV → AH → ARes} {Q : AX → List AV → AH → Prop} (I : Nat → List AV → AH → Prop)
    (hI : ∀ n env h, I n env h → AW (f env h) fun x e h' => match x with | .normal => ∃ m, m < n ∧ I m e h' | x => Q x e h') :
    ∀ (n fuel : Nat) (env : List AV) (h : AH), I n env h → n < fuel → AW (aloop f fuel env h) Q := by
  intro n
  induction n using Nat.strongRecOn with
  | _ n ih =>
    intro fuel env h hi hf
    obtain ⟨fuel, rfl⟩ : ∃ k, fuel = k + 1 := ⟨fuel - 1, by omega⟩
    obtain ⟨x, e, h', hr, hq⟩ := (hI n env h hi).out
    simp only [aloop, hr]
    cases x with
    | normal =>
      obtain ⟨m, hm, hi'⟩ := hq
      exact ih m hm fuel e h' hi' (by omega)
    | exit i => exact hq
    | ret => exact hq

theorem AW.mono {r : ARes} {Q Q' : AX → List AV → AH → Prop} (hr : AW r Q) (hq : ∀ x e h, Q x e h → Q' x e h) : AW r Q' :=
  by cases r with
  | none => exact hr
  | some t => exact hq _ _ _ hr
theorem AR.mono {r : Option (AV × AH)} {Q Q' : AV → AH → Prop} (hr : AR r Q) (hq : ∀ v h, Q v h → Q' v h) : AR r Q' :=
  by cases r with
  | none => exact hr
  | some t => exact hq _ _ hr

/-- What a round of a loop must leave behind. -/
def Qloop (I : Nat → List AV → AH → Prop) (n : Nat) (K : AX → List AV → AH → Prop) : AX → List AV → AH → Prop
  | .normal, e, h => ∃ m, m < n ∧ I m e h
  | x, e, h => K x e h
theorem Qloop_normal {I : Nat → List AV → AH → Prop} {n : Nat} : Qloop I n K .normal env h = ∃ m, m < n ∧ I m env h := propext ⟨id, id⟩
theorem Qloop_exit {I : Nat → List AV → AH → Prop} {n i : Nat} : Qloop I n K (.exit i) env h = K (.exit i) env h := propext ⟨id, id⟩
theorem Qloop_ret {I : Nat → List AV → AH → Prop} {n : Nat} : Qloop I n K .ret env h = K .ret env h := propext ⟨id, id⟩

theorem AW_loopI {c : Code} (I : Nat → List AV → AH → Prop) (hI : ∀ n env h, I n env h → AW (acode P cf D fuel c env h) (KP P cf D fuel [] (Qloop I n K))) (n : Nat) (env : List AV) (h : AH) (hi : I n env h) (hf : n < fuel) :
    AW (aloop (acode P cf D fuel c) fuel env h) K :=
  AW_rounds I (fun n env h hi => (hI n env h hi).mono fun x e h' hq => by
    rw [KP_nil] at hq
    cases x <;> exact hq) n fuel env h hi hf

/-- What a function must leave behind for its answer. -/
def Qfun (P : Program) (rs : List ResultVar) (Q : AV → AH → Prop) : AX → List AV → AH → Prop
  | .exit _, _, _ => False
  | _, e, h => AVM (aresults P e h rs) packed h Q
theorem Qfun_normal {rs : List ResultVar} {Q : AV → AH → Prop} : Qfun P rs Q .normal env h = AVM (aresults P env h rs) packed h Q := propext ⟨id, id⟩
theorem Qfun_ret {rs : List ResultVar} {Q : AV → AH → Prop} : Qfun P rs Q .ret env h = AVM (aresults P env h rs) packed h Q := propext ⟨id, id⟩

theorem AR_call {Γ : Hooks} {D : Drawn} {n : Nat} {f : FuncId} {fn : Func} {c : Code} (hg : Γ f = none) (hf : P.funcs[f]? = some fn) (hb : fn.body = some c) (args : List AV) (h : AH) {Q : AV → AH → Prop}
    (hr : ∀ env : List AV, env.length = args.length + (fn.ntmps - args.length) → (∀ i, env.getD i .undef = args.getD i .undef) → AW (acode P (acall P Γ D n) (D (acall P Γ D n)) n c env h) (KP P (acall P Γ D n) (D (acall P Γ D n)) n [] (Qfun P fn.results.toList Q))) : AR (acall P Γ D (n + 1) f args h) Q := by
  obtain ⟨x, e, h', h1, h2⟩ := AW.out (hr (args ++ List.replicate (fn.ntmps - args.length) .undef) (by simp) (fun i => by
    simp only [List.getD, List.getElem?_append, List.getElem?_replicate]
    split
    · rfl
    · rename_i hi
      rw [List.getElem?_eq_none (by omega)]
      split <;> rfl))
  cases x with
  | exit i => exact h2.elim
  | normal =>
    obtain ⟨vs, h3, h4⟩ := AVal.out h2
    rw [acall_succ hg hf hb args h (r := (packed vs, h')) (by rw [h1]; simp only [h3]; rfl)]
    exact h4
  | ret =>
    obtain ⟨vs, h3, h4⟩ := AVal.out h2
    rw [acall_succ hg hf hb args h (r := (packed vs, h')) (by rw [h1]; simp only [h3]; rfl)]
    exact h4

theorem aslice_str {t : TypeId} (ht : P.underlying t = some .string) {l : List UInt8} {k k' : IntKind} {a b : Int} (h0 : 0 ≤ a) (h1 : a ≤ b) (h2 : b ≤ l.length) :
    aslice P t (.str l) (some (.int k a)) (some (.int k' b)) none h = some (.str ((l.take b.toNat).drop a.toNat)) := by
  simp only [aslice, ht, abound, if_pos h0, if_pos (by omega : (0 : Int) ≤ b)]
  rw [if_pos ⟨by omega, by omega⟩]
theorem aslice_strF {t : TypeId} (ht : P.underlying t = some .string) {l : List UInt8} {k : IntKind} {a : Int} (h0 : 0 ≤ a) (h1 : a ≤ l.length) :
    aslice P t (.str l) (some (.int k a)) none none h = some (.str (l.drop a.toNat)) := by
  simp only [aslice, ht, abound, if_pos h0]
  rw [if_pos ⟨by omega, by omega⟩, List.take_of_length_le (Nat.le_refl _)]
theorem aslice_strT {t : TypeId} (ht : P.underlying t = some .string) {l : List UInt8} {k : IntKind} {b : Int} (h0 : 0 ≤ b) (h1 : b ≤ l.length) :
    aslice P t (.str l) none (some (.int k b)) none h = some (.str (l.take b.toNat)) := by
  simp only [aslice, ht, abound, if_pos h0]
  rw [if_pos ⟨by omega, by omega⟩]; simp
theorem aindex_str {t : TypeId} (ht : P.underlying t = some .string) {l : List UInt8} {k : IntKind} {i : Int} (h0 : 0 ≤ i) (h1 : i < l.length) :
    aindex P t (.str l) (.int k i) = some (.int .u8 (l.getD i.toNat 0).toNat) := by
  simp only [aindex, ht, if_pos h0]
  have : i.toNat < l.length := by omega
  simp [List.getD, this]
theorem aconv_int {s d : TypeId} {x : TypeDesc} {k k' : IntKind} {n : Int} (hs : P.underlying s = some x) (hd : P.underlying d = some (.int k)) : aconv P s d (.int k' n) h = some (.int k (k.wrap n), h) := by
  simp only [aconv, hs, hd]
theorem wrap_i64 {n : Int} (h : -9223372036854775808 ≤ n) (h' : n < 9223372036854775808) : IntKind.i64.wrap n = n := by
  unfold IntKind.wrap
  simp [IntKind.signed, IntKind.bits]
  omega
end Go.Proofs.YtobhmahlenjheaaM

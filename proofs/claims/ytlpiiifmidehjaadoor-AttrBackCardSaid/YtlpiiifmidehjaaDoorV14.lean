/- The value machine: one operation, and a region's. -/
import Derived.Test.YtlpiiifmidehjaaDoorV13
set_option linter.unusedSimpArgs false
set_option linter.unusedVariables false
namespace Go.Proofs.YtlpiiifmidehjaaDoorM
open Go Go.RowKit

/-! ### Composites held against each other -/
def eqT : (t : Ty) → t.D → t.D → Bool
  | .int _, x, y => oEqI x y
  | .bool, x, y => oEqB x y
  | .str, x, y => oEqS x y
  | .cons a .nil, x, y => eqT a x.1 y.1
  | .cons a b, x, y => oAnd (eqT a x.1 y.1) (eqT b x.2 y.2)
  | .nil, _, _ => true
  | _, _, _ => false
def eqOkF (P : Program) (ok : TypeId → Ty → Bool) : List Field → Nat → Ty → Bool
  | [], _, .nil => true
  | f :: fs, o, .cons a b => f.name != "_" && f.offset == o && (szOf P f.type == some a.size) && (isAg P f.type == some a.ag) && ok f.type a && eqOkF P ok fs (o + a.size) b
  | _, _, _ => false
def eqOk (P : Program) : Nat → TypeId → Ty → Bool
  | 0, _, _ => false
  | d + 1, t, T => match P.underlying t, T with
    | some (.int _), .int _ => true
    | some .bool, .bool => true
    | some .string, .str => true
    | some (.struct fs), T => !P.stoodInHeld t && T.ag && eqOkF P (eqOk P d) fs.toList 0 T
    | _, _ => false

section
variable {P : Program} {g : FM} {H : List AV}
theorem eqT_cons {a b : Ty} {x y : (Ty.cons a b).D} : eqT (.cons a b) x y = (eqT a x.1 y.1 && eqT b x.2 y.2) := by
  cases b <;> simp [eqT]

theorem eqF_ok {d : Nat} (ih : ∀ {t : TypeId} {T : Ty} {x y : AV} {v w : T.D}, eqOk P d t T = true → RepV g T x v → RepV g T y w → aeq P d t x y = some (eqT T v w)) :
    ∀ {fs : List Field} {o : Nat} {T : Ty} {cx cy : List AV} {v w : T.D}, eqOkF P (eqOk P d) fs o T = true → o + T.size ≤ cx.length → o + T.size ≤ cy.length → RepC g T ((cx.drop o).take T.size) v → RepC g T ((cy.drop o).take T.size) w → eqFields P (aeq P d) fs cx cy = some (eqT T v w)
  | [], o, .nil, cx, cy, v, w, _, _, _, _, _ => by simp [eqFields, eqT]
  | f :: fs, o, .cons a b, cx, cy, v, w, hk, lx, ly, hx, hy => by
    simp only [eqOkF, Bool.and_eq_true, beq_iff_eq, bne_iff_ne, ne_eq] at hk
    obtain ⟨⟨⟨⟨⟨k1, rfl⟩, k3⟩, k4⟩, k5⟩, k6⟩ := hk
    simp only [Ty.size] at lx ly hx hy
    have part : ∀ {c : List AV} {u : (Ty.cons a b).D}, f.offset + (a.size + b.size) ≤ c.length → RepC g (.cons a b) ((c.drop f.offset).take (a.size + b.size)) u →
        (∃ z, apart P f.type c f.offset = some z ∧ RepV g a z u.1) ∧ RepC g b ((c.drop (f.offset + a.size)).take b.size) u.2 := fun {c u} hl hr => by
      obtain ⟨c1, c2, e, h1, h2⟩ := hr
      have l1 := h1.len
      have e1 : (c.drop f.offset).take a.size = c1 := by
        have := congrArg (List.take a.size) e
        rw [List.take_take, Nat.min_eq_left (by omega), List.take_left' l1] at this
        exact this
      have e2 : (c.drop (f.offset + a.size)).take b.size = c2 := by
        have := congrArg (List.drop a.size) e
        rw [List.drop_left' l1, List.drop_take, List.drop_drop, show a.size + b.size - a.size = b.size by omega] at this
        exact this
      refine ⟨?_, by rw [e2]; exact h2⟩
      unfold apart
      rw [k3, k4]
      cases ha : a.ag with
      | true =>
        exact ⟨.agg ((c.drop f.offset).take a.size), by simp only [if_pos (show f.offset + a.size ≤ c.length by omega)], (RepV.ofC (by rw [e1]; exact h1)).1 ha⟩
      | false =>
        obtain ⟨z, hz, hv⟩ := (RepV.ofC h1).2 ha
        refine ⟨z, ?_, hv⟩
        have hs : a.size = 1 := by cases a <;> first | rfl | cases ha
        have := congrArg (fun l => l[0]?) (e1.trans hz)
        simp only [hs] at this
        rw [List.getElem?_take, if_pos (by omega), List.getElem?_drop] at this
        simpa using this
    obtain ⟨⟨zx, x1, x2⟩, x3⟩ := part lx hx
    obtain ⟨⟨zy, y1, y2⟩, y3⟩ := part ly hy
    have hrest := eqF_ok ih (fs := fs) (o := f.offset + a.size) (T := b) (cx := cx) (cy := cy) (v := v.2) (w := w.2) k6 (by omega) (by omega) x3 y3
    unfold eqFields
    rw [if_neg k1, x1, y1, eqT_cons]
    simp only [ih k5 x2 y2]
    cases eqT a v.1 w.1
    · rfl
    · simp only [hrest, Bool.true_and]
  | [], _, .cons _ _, _, _, _, _, hk, _, _, _, _ => by simp [eqOkF] at hk
  | [], _, .int _, _, _, _, _, hk, _, _, _, _ => by simp [eqOkF] at hk
  | [], _, .bool, _, _, _, _, hk, _, _, _, _ => by simp [eqOkF] at hk
  | [], _, .str, _, _, _, _, hk, _, _, _, _ => by simp [eqOkF] at hk
  | [], _, .lst _, _, _, _, _, hk, _, _, _, _ => by simp [eqOkF] at hk
  | [], _, .map _ _, _, _, _, _, hk, _, _, _, _ => by simp [eqOkF] at hk
  | _ :: _, _, .nil, _, _, _, _, hk, _, _, _, _ => by simp [eqOkF] at hk
  | _ :: _, _, .int _, _, _, _, _, hk, _, _, _, _ => by simp [eqOkF] at hk
  | _ :: _, _, .bool, _, _, _, _, hk, _, _, _, _ => by simp [eqOkF] at hk
  | _ :: _, _, .str, _, _, _, _, hk, _, _, _, _ => by simp [eqOkF] at hk
  | _ :: _, _, .lst _, _, _, _, _, hk, _, _, _, _ => by simp [eqOkF] at hk
  | _ :: _, _, .map _ _, _, _, _, _, hk, _, _, _, _ => by simp [eqOkF] at hk

theorem eqT_ok : ∀ {d : Nat} {t : TypeId} {T : Ty} {x y : AV} {v w : T.D}, eqOk P d t T = true → RepV g T x v → RepV g T y w → aeq P d t x y = some (eqT T v w)
  | 0, _, _, _, _, _, _, hk, _, _ => by cases hk
  | d + 1, t, T, x, y, v, w, hk, hx, hy => by
    unfold eqOk at hk
    split at hk
    · rename_i k k' hu
      rw [repI hx, repI hy]
      simp [aeq, hu, aeqCell, eqT]
    · rename_i hu
      rw [repB hx, repB hy]
      simp [aeq, hu, aeqCell, eqT]
    · rename_i hu
      rw [repS hx, repS hy]
      simp [aeq, hu, aeqCell, eqT]
    · rename_i fs hu
      simp only [Bool.and_eq_true, Bool.not_eq_true'] at hk
      obtain ⟨⟨h1, h2⟩, h3⟩ := hk
      unfold RepV at hx hy
      rw [if_pos h2] at hx hy
      obtain ⟨cx, rfl, hx⟩ := hx
      obtain ⟨cy, rfl, hy⟩ := hy
      have l1 := hx.len
      have l2 := hy.len
      simp only [aeq, hu, h1, Bool.false_eq_true, if_false]
      exact eqF_ok (fun a b c => eqT_ok a b c) h3 (by omega) (by omega) (by rw [List.drop_zero, List.take_of_length_le (by omega)]; exact hx) (by rw [List.drop_zero, List.take_of_length_le (by omega)]; exact hy)
    · cases hk
end

/-! ### One operation -/
structure VCx where
  P : Program
  gl : List GVar
  es : List VEnt
  pu : List FuncId

def SV.toLs : SV → List SV
  | .cn a b => a :: b.toLs
  | _ => []
def VS.turn (S : VS) (o : Operand) (b : Bool) : VS :=
  match o with
  | .tmp t => ⟨S.ts.set t (.kb b), S.os⟩
  | _ => S
def nilOk : SV → Bool
  | .ptr _ _ | .fpt _ _ _ | .gpt _ _ _ | .ept _ _ _ | .fn _ _ _ | .mp _ => true
  | _ => false
def veq {R : Type} (P : Program) (m : Md R) (op : BinOp) (t : TypeId) (a b : SV) (K : SV → Option R) : Option R :=
  match tyOf P t with
  | some T => if T.ag = true ∧ (op = .eql ∨ op = .neq) ∧ eqOk P 8 t T = true ∧ P.eqGuardType P.depth t = false then
      (match toT T a, toT T b with
      | some x, some y => K (.pv .bool (if op = .eql then eqT T x y else oNot (eqT T x y)))
      | _, _ => none)
    else vbin P m op t a b K
  | none => vbin P m op t a b K
def vun (op : UnOp) (a : SV) : Option SV :=
  match op, a with
  | .not, a => vnot a
  | .neg, .pv (.int k) n => some (.pv (.int k) (oNeg k n))
  | .xor, .pv (.int k) n => some (.pv (.int k) (xorI k (if k.signed then -1 else k.max) n))
  | _, _ => none
def vassert (P : Program) (s : SV) (a : TypeId) (ok : Bool) : Option SV :=
  match P.underlying a, s with
  | some (.interface _), _ => none
  | some _, .ifc t v => if t = a then some (if ok then .tup (.cn v (.cn (.kb true) .nl)) else v) else none
  | _, _ => none
def mmS (isMax : Bool) (k : IntKind) : Int → List SV → Option SV
  | a, [] => some (.pv (.int k) a)
  | a, .pv (.int _) b :: rest => mmS isMax k (if isMax then maxI a b else minI a b) rest
  | _, _ => none
def vmm (isMax : Bool) : List SV → Option SV
  | .pv (.int k) a :: rest => mmS isMax k a rest
  | _ => none

def vcallop {R : Type} (cx : VCx) (m : Md R) (S : VS) (c : Call) (K : VS → SV → Option R) : Option R :=
  match c.callee with
  | .builtin .len => match c.argTypes[0]?, c.args.toList with
    | some t, [x] => (match vlen cx.P S t (evS cx.gl S x) with
      | some s => K S s
      | none => none)
    | _, _ => none
  | .builtin .append => match c.argTypes[0]?, c.argTypes[1]?, c.args.toList with
    | some st, some xt, [s, x] => vappend cx.P m S st xt (evS cx.gl S s) (evS cx.gl S x) K
    | _, _, _ => none
  | .builtin .clear => match c.argTypes[0]?, c.args.toList with
    | some t, [x] => vclear cx.P S t (evS cx.gl S x) K
    | _, _ => none
  | .builtin .max => (match vmm true (c.args.toList.map (evS cx.gl S)) with
    | some s => K S s
    | none => none)
  | .builtin .min => (match vmm false (c.args.toList.map (evS cx.gl S)) with
    | some s => K S s
    | none => none)
  | .value f => match evS cx.gl S f with
    | .fn f a b => if a.isL = true ∧ b.isL = true then vcall m S f (a.toLs ++ (c.args.toList.map (evS cx.gl S) ++ b.toLs)) K cx.es else none
    | _ => none
  | _ => none

def vop {R : Type} (cx : VCx) (m : Md R) (S : VS) (o : Op) (K : VS → SV → Option R) : Option R :=
  match o with
  | .move x => K S (evS cx.gl S x)
  | .assign x => K S (evS cx.gl S x)
  | .pick c a b => match evS cx.gl S c with
    | .kb t => K S (if t then evS cx.gl S a else evS cx.gl S b)
    | .pv .bool v => vcond m v (K (S.turn c true) (evS cx.gl S a)) (K (S.turn c false) (evS cx.gl S b))
    | _ => none
  | .alloc e => vbox S e (zeroS cx.P e) K
  | .box t x => vbox S t (cellsSV (evS cx.gl S x)) K
  | .build t parts => (match vbuild cx.P t (parts.toList.map fun p => (p.1, evS cx.gl S p.2)) with
    | some s => K S s
    | none => none)
  | .buildSlice t len parts => vbuildSlice cx.P S t len (parts.toList.map fun p => (p.1, evS cx.gl S p.2)) K
  | .load t a => vload cx.P m S t (evS cx.gl S a) (K S)
  | .store t a x => vstore cx.P m S t (evS cx.gl S a) (evS cx.gl S x) K
  | .nilCheck x => if nilOk (evS cx.gl S x) then K S (evS cx.gl S x) else none
  | .binOp op t x y _ => veq cx.P m op t (evS cx.gl S x) (evS cx.gl S y) (K S)
  | .unOp op _ x => (match vun op (evS cx.gl S x) with
    | some s => K S s
    | none => none)
  | .convert s d x => (match vconv cx.P S s d (evS cx.gl S x) with
    | some b => K S b
    | none => vbytes cx.P S s d (evS cx.gl S x) K)
  | .makeInterface t x => (match cx.P.underlying t with
    | some (.interface _) => none
    | some _ => K S (.ifc t (evS cx.gl S x))
    | none => none)
  | .makeFunc fn first cap => (match fn with
    | .func f => K S (.fn f (SV.ofList (first.toList.map (evS cx.gl S))) (SV.ofList (cap.toList.map (evS cx.gl S))))
    | _ => none)
  | .makeMap t none => vmakeMap cx.P S t K
  | .makeSlice t l c => vmake cx.P m S t (evS cx.gl S l) (evS cx.gl S c) K
  | .slice t x lo hi none => vslice cx.P m S t (evS cx.gl S x) (lo.map (evS cx.gl S)) (hi.map (evS cx.gl S)) (K S)
  | .fieldAddr s x f => (match vfieldAddr cx.P s (evS cx.gl S x) f with
    | some s => K S s
    | none => none)
  | .field t x f => (match vfield cx.P t (evS cx.gl S x) f with
    | some s => K S s
    | none => none)
  | .indexAddr t x i => vindexAddr cx.P m S t (evS cx.gl S x) (evS cx.gl S i) (natLit i) (K S)
  | .index t x i => vindex cx.P m t (evS cx.gl S x) (evS cx.gl S i) (K S)
  | .lookup t mm k ok => vlookup cx.P S t (evS cx.gl S mm) (evS cx.gl S k) ok (K S)
  | .mapUpdate t mm k v => vmapSet cx.P S t (evS cx.gl S mm) (evS cx.gl S k) (evS cx.gl S v) K
  | .insert t mm k v => vmapSet cx.P S t (evS cx.gl S mm) (evS cx.gl S k) (evS cx.gl S v) K
  | .range t x => vrange cx.P S t (evS cx.gl S x) K
  | .next it s => vnext m S (evS cx.gl S it) s K
  | .typeAssert x _ a ok => (match vassert cx.P (evS cx.gl S x) a ok with
    | some s => K S s
    | none => none)
  | .extract x i => (match evS cx.gl S x with
    | .tup s => (match s.nth i with
      | some a => K S a
      | none => none)
    | _ => none)
  | .call c => vcallop cx m S c K
  | _ => none

def VS.put (S : VS) (d : Option Tmp) (s : SV) : VS :=
  match d with
  | some t => ⟨S.ts.set t s, S.os⟩
  | none => S
/-! Values written out (Lean's kernel computes them once). -/
def fSV : SV → {R : Type} → (SV → R) → R
  | .fn f a b, _, K => fSV a fun a' => fSV b fun b' => K (.fn f a' b')
  | .ifc t s, _, K => fSV s fun s' => K (.ifc t s')
  | .tup s, _, K => fSV s fun s' => K (.tup s')
  | .agg s, _, K => fSV s fun s' => K (.agg s')
  | .cn a b, _, K => fSV a fun a' => fSV b fun b' => K (.cn a' b')
  | s, _, K => K s
theorem fSV_eq : ∀ (s : SV) {R : Type} (K : SV → R), fSV s K = K s
  | .fn f a b, _, K => by unfold fSV; rw [fSV_eq, fSV_eq]
  | .ifc t s, _, K => by unfold fSV; rw [fSV_eq]
  | .tup s, _, K => by unfold fSV; rw [fSV_eq]
  | .agg s, _, K => by unfold fSV; rw [fSV_eq]
  | .cn a b, _, K => by unfold fSV; rw [fSV_eq, fSV_eq]
  | .dead, _, _ => rfl
  | .un, _, _ => rfl
  | .con _, _, _ => rfl
  | .kb _, _, _ => rfl
  | .pv _ _, _, _ => rfl
  | .ptr _ _, _, _ => rfl
  | .row _, _, _ => rfl
  | .view _ _ _, _, _ => rfl
  | .ept _ _ _, _, _ => rfl
  | .fpt _ _ _, _, _ => rfl
  | .gpt _ _ _, _, _ => rfl
  | .mp _, _, _ => rfl
  | .nl, _, _ => rfl
def fL : List SV → {R : Type} → (List SV → R) → R
  | [], _, K => K []
  | s :: l, _, K => fSV s fun s' => fL l fun l' => K (s' :: l')
theorem fL_eq : ∀ (l : List SV) {R : Type} (K : List SV → R), fL l K = K l
  | [], _, _ => rfl
  | s :: l, _, K => by unfold fL; rw [fSV_eq, fL_eq]
def fOs : List (Option SO) → {R : Type} → (List (Option SO) → R) → R
  | [], _, K => K []
  | none :: l, _, K => fOs l fun l' => K (none :: l')
  | some (.obj t cs) :: l, _, K => fSV cs fun cs' => fOs l fun l' => K (some (.obj t cs') :: l')
  | some o :: l, _, K => fOs l fun l' => K (some o :: l')
theorem fOs_eq : ∀ (l : List (Option SO)) {R : Type} (K : List (Option SO) → R), fOs l K = K l
  | [], _, _ => rfl
  | none :: l, _, K => by unfold fOs; rw [fOs_eq]
  | some (.obj t cs) :: l, _, K => by unfold fOs; rw [fSV_eq, fOs_eq]
  | some (.row _ _ _) :: l, _, K => by unfold fOs; rw [fOs_eq]
  | some (.map _ _ _) :: l, _, K => by unfold fOs; rw [fOs_eq]
  | some (.sit _ _) :: l, _, K => by unfold fOs; rw [fOs_eq]
def fVS (S : VS) {R : Type} (K : VS → R) : R := fL S.ts fun ts => fOs S.os fun os => K ⟨ts, os⟩
theorem fVS_eq (S : VS) {R : Type} (K : VS → R) : fVS S K = K S := by unfold fVS; rw [fL_eq, fOs_eq]

def vops {R : Type} (cx : VCx) (m : Md R) (ops : Array Oper) : List Oper → VS → (VS → Option R) → Option R
  | [], S, K => K S
  | o :: rest, S, K => match o.guard with
    | none => vop cx m S o.op fun S1 s => fVS (S1.put o.dst s) fun S2 => vops cx m ops rest S2 K
    | some (j, want) => match (ops[j]?).bind (·.dst) with
      | some d => match S.ts[d]? with
        | some (.kb b) => if b == want then vop cx m S o.op fun S1 s => fVS (S1.put o.dst s) fun S2 => vops cx m ops rest S2 K else fVS (S.put o.dst .un) fun S2 => vops cx m ops rest S2 K
        | some .un => fVS (S.put o.dst .un) fun S2 => vops cx m ops rest S2 K
        | some (.pv .bool v) => vcond m v
            (if want then vop cx m ⟨S.ts.set d (.kb true), S.os⟩ o.op fun S1 s => fVS (S1.put o.dst s) fun S2 => vops cx m ops rest S2 K else fVS ((VS.mk (S.ts.set d (.kb true)) S.os).put o.dst .un) fun S2 => vops cx m ops rest S2 K)
            (if want then (fVS ((VS.mk (S.ts.set d (.kb false)) S.os).put o.dst .un) fun S2 => vops cx m ops rest S2 K) else vop cx m ⟨S.ts.set d (.kb false), S.os⟩ o.op fun S1 s => fVS (S1.put o.dst s) fun S2 => vops cx m ops rest S2 K)
        | _ => none
      | none => none
end Go.Proofs.YtlpiiifmidehjaaDoorM

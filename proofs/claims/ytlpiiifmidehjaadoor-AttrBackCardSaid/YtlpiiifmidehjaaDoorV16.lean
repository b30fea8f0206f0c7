/- The value machine: code: the run, along shapes that are told. -/
import Derived.Test.YtlpiiifmidehjaaDoorV15
set_option linter.unusedSimpArgs false
set_option linter.unusedVariables false
namespace Go.Proofs.YtlpiiifmidehjaaDoorM
open Go Go.RowKit

/-! ### What is live (nothing here is proved: a wrong answer makes a run fail) -/
/-! ### What a piece of code leaves as it was -/
def wCode : Code → Nat
  | .region _ ops _ => wOps ops.toList
  | .seq a b => wCode a ||| wCode b
  | .cond _ a b => wCode a ||| wCode b
  | .block _ c => wCode c
  | .loop c => wCode c
  | .scope c => wCode c
  | _ => 0
def SV.carry : SV → Bool
  | .pv _ _ => true
  | .kb _ => true
  | .con _ => true
  | .fpt _ _ _ => true
  | .gpt _ _ _ => true
  | _ => false
/-- The temporaries that are carried by. -/
def carM : Nat → Nat → List SV → Nat
  | _, _, [] => 0
  | i, W, s :: l => carM (i + 1) W l ||| (if W.testBit i = false ∧ s.carry = true then 2 ^ i else 0)
def overT : Nat → Nat → List SV → List SV → List SV
  | i, C, s :: l, s' :: l' => (if C.testBit i then s else s') :: overT (i + 1) C l l'
  | _, _, _, l' => l'
def VS.over (C : Nat) (S S' : VS) : VS := ⟨overT 0 C S.ts S'.ts, S'.os⟩

/-! ### Shapes written out -/
def fSH : SH → {R : Type} → (SH → R) → R
  | .fn f a b, _, K => fSH a fun a' => fSH b fun b' => K (.fn f a' b')
  | .ifc t s, _, K => fSH s fun s' => K (.ifc t s')
  | .tup s, _, K => fSH s fun s' => K (.tup s')
  | .agg s, _, K => fSH s fun s' => K (.agg s')
  | .cn a b, _, K => fSH a fun a' => fSH b fun b' => K (.cn a' b')
  | .pv t, _, K => fTy t fun t' => K (.pv t')
  | .fpt t o, _, K => fTy t fun t' => K (.fpt t' o)
  | s, _, K => K s
theorem fSH_eq : ∀ (s : SH) {R : Type} (K : SH → R), fSH s K = K s
  | .fn f a b, _, K => by unfold fSH; rw [fSH_eq, fSH_eq]
  | .ifc t s, _, K => by unfold fSH; rw [fSH_eq]
  | .tup s, _, K => by unfold fSH; rw [fSH_eq]
  | .agg s, _, K => by unfold fSH; rw [fSH_eq]
  | .cn a b, _, K => by unfold fSH; rw [fSH_eq, fSH_eq]
  | .pv t, _, K => by unfold fSH; rw [fTy_eq]
  | .fpt t o, _, K => by unfold fSH; rw [fTy_eq]
  | .dead, _, _ => rfl
  | .un, _, _ => rfl
  | .con _, _, _ => rfl
  | .kb _, _, _ => rfl
  | .ptr _ _, _, _ => rfl
  | .row _, _, _ => rfl
  | .view _, _, _ => rfl
  | .ept _ _, _, _ => rfl
  | .mp _, _, _ => rfl
  | .nl, _, _ => rfl
def fSHs : List SH → {R : Type} → (List SH → R) → R
  | [], _, K => K []
  | s :: l, _, K => fSH s fun s' => fSHs l fun l' => K (s' :: l')
theorem fSHs_eq : ∀ (l : List SH) {R : Type} (K : List SH → R), fSHs l K = K l
  | [], _, _ => rfl
  | s :: l, _, K => by unfold fSHs; rw [fSH_eq, fSHs_eq]
def fSOs : List SOH → {R : Type} → (List SOH → R) → R
  | [], _, K => K []
  | .obj t cs :: l, _, K => fSH cs fun cs' => fSOs l fun l' => K (.obj t cs' :: l')
  | .row e t :: l, _, K => fTy t fun t' => fSOs l fun l' => K (.row e t' :: l')
  | .map a b :: l, _, K => fTy a fun a' => fTy b fun b' => fSOs l fun l' => K (.map a' b' :: l')
  | o :: l, _, K => fSOs l fun l' => K (o :: l')
theorem fSOs_eq : ∀ (l : List SOH) {R : Type} (K : List SOH → R), fSOs l K = K l
  | [], _, _ => rfl
  | .obj t cs :: l, _, K => by unfold fSOs; rw [fSH_eq, fSOs_eq]
  | .row e t :: l, _, K => by unfold fSOs; rw [fTy_eq, fSOs_eq]
  | .map a b :: l, _, K => by unfold fSOs; rw [fTy_eq, fTy_eq, fSOs_eq]
  | .gone :: l, _, K => by unfold fSOs; rw [fSOs_eq]
  | .sit :: l, _, K => by unfold fSOs; rw [fSOs_eq]
def fSh (s : Sh) {R : Type} (K : Sh → R) : R := fSHs s.ts fun ts => fSOs s.os fun os => K ⟨ts, os⟩
theorem fSh_eq (s : Sh) {R : Type} (K : Sh → R) : fSh s K = K s := by unfold fSh; rw [fSHs_eq, fSOs_eq]
def fOuts : List (AX × Sh) → {R : Type} → (List (AX × Sh) → R) → R
  | [], _, K => K []
  | (x, s) :: l, _, K => fSh s fun s' => fOuts l fun l' => K ((x, s') :: l')
theorem fOuts_eq : ∀ (l : List (AX × Sh)) {R : Type} (K : List (AX × Sh) → R), fOuts l K = K l
  | [], _, _ => rfl
  | (x, s) :: l, _, K => by unfold fOuts; rw [fSh_eq, fOuts_eq]

/-! ### Ways out -/
def axEq : AX → AX → Bool
  | .normal, .normal => true
  | .exit i, .exit j => i == j
  | .ret, .ret => true
  | _, _ => false

/-! ### What is told of code: the shapes of its states where ways meet, and those of loops -/
inductive Ann where
  | z
  | s (a b : Ann)
  | j (T : List (AX × Sh)) (a b : Ann)
  | l (T : Sh) (outs : List (AX × Sh)) (a : Ann)
def Ann.fst : Ann → Ann
  | .s a _ => a
  | .j _ a _ => a
  | .l _ _ a => a
  | .z => .z
def Ann.snd : Ann → Ann
  | .s _ b => b
  | .j _ _ b => b
  | _ => .z
def Ann.jn : Ann → Option (List (AX × Sh))
  | .j T _ _ => some T
  | _ => none
def Ann.lp : Ann → Option (Sh × List (AX × Sh))
  | .l T o _ => some (T, o)
  | _ => none
/-- A row of shapes: those told, else dead. -/
def mkT : Nat → Nat → List (Nat × SH) → List SH
  | 0, _, _ => []
  | n + 1, i, [] => .dead :: mkT n (i + 1) []
  | n + 1, i, (k, s) :: l => if k = i then s :: mkT n (i + 1) l else .dead :: mkT n (i + 1) ((k, s) :: l)

/-! ### The run -/
abbrev OutD : List (AX × Sh) → Type
  | [] => Empty
  | [a] => a.2.D
  | a :: b :: l => a.2.D ⊕ OutD (b :: l)
def packOut (p : Nat) : (l : List (AX × Sh)) → AX → VS → Option (OutD l)
  | [], _, _ => none
  | [a], x, S => if axEq x a.1 then fit p a.2 S else none
  | a :: b :: l, x, S => if axEq x a.1 then (fit p a.2 S).map Sum.inl else (packOut p (b :: l) x S).map Sum.inr
def unpOut {R : Type} : (l : List (AX × Sh)) → OutD l → (AX → VS → Option R) → Option R
  | [], _, _ => none
  | [a], o, K => K a.1 (a.2.unp o)
  | a :: b :: l, o, K => sumK o (fun q => K a.1 (a.2.unp q)) (fun q => unpOut (b :: l) q K)
def mdR {R : Type} : Md R := ⟨true, fun a _ => a⟩

def vcode (cx : VCx) (p : Nat) : Code → Ann → {R : Type} → VS → (AX → VS → Option R) → Option R
  | .region _ ops d, _, _, S, K => if d = false ∨ dOK cx.P (tabOf (Kof cx.pu)) ops = true then vops cx mdR ops ops.toList S fun S' => K .normal S' else none
  | .seq a b, A, _, S, K => (match A.jn with
      | some T0 => (fun C => fOuts T0 fun T => oBind (vcode cx p a A.fst S fun x S' => packOut p T x S') fun o => unpOut T o fun x S' => fVS (S.over C S') fun S2 => (match x with | .normal => vcode cx p b A.snd S2 K | y => K y S2)) (carM 0 (wCode a) S.ts)
      | none => vcode cx p a A.fst S fun x S' => (match x with | .normal => vcode cx p b A.snd S' K | y => K y S'))
  | .cond c a b, A, _, S, K => (match evS cx.gl S c with
      | .kb true => vcode cx p a A.fst S K
      | .kb false => vcode cx p b A.snd S K
      | .pv .bool v => vcond mdR v (vcode cx p a A.fst (S.turn c true) K) (vcode cx p b A.snd (S.turn c false) K)
      | _ => none)
  | .block id c, A, _, S, K => vcode cx p c A S fun x S' => (match x with | .exit i => if i = id then K .normal S' else K (.exit i) S' | y => K y S')
  | .loop c, A, _, S, K => (match A.lp with
      | some (T0, outs0) => (fun C => fSh T0 fun T => fOuts outs0 fun outs =>
        (match fit p T S with | none => none | some s => oBind (iter (fun s => fVS (S.over C (T.unp s)) fun S1 => vcode cx p c A.fst S1 fun x S' => (match x with | .normal => (fit p T S').map Sum.inl | y => (packOut p outs y S').map Sum.inr)) NF s) fun o => unpOut outs o fun x S' => fVS (S.over C S') fun S2 => K x S2)) (carM 0 (wCode c) S.ts)
      | none => none)
  | .exit id, _, _, S, K => K (.exit id) S
  | .scope c, A, _, S, K => vcode cx p c A S K
  | .ret, _, _, S, K => K .ret S
  | .skip, _, _, S, K => K .normal S
  | .label _, _, _, S, K => K .normal S
  | _, _, _, _, _ => none

/-! ### Functions -/
def vresults {R : Type} (P : Program) (S : VS) : List ResultVar → (List SV → Option R) → Option R
  | [], K => K []
  | .tmp t :: l, K => vresults P S l fun r => K (S.ts.getD t .dead :: r)
  | .cell a t :: l, K => vload P mdR S t (S.ts.getD a .dead) fun s => vresults P S l fun r => K (s :: r)
def packedS : List SV → SV
  | [x] => x
  | xs => .tup (SV.ofList xs)
def vfn (cx : VCx) (fn : Func) (A : Ann) (ps : Sh) (rs : List Sh) (q : ps.D) : Option (AltD rs) :=
  match fn.body with
  | some c => vcode cx ps.os.length c A ⟨(ps.unp q).ts ++ List.replicate (fn.ntmps - ps.ts.length) .un, (ps.unp q).os⟩ fun x S' =>
      (match x with
      | .exit _ => none
      | _ => vresults cx.P S' fn.results.toList fun l => packAlt ps.os.length rs ⟨[packedS l], S'.os⟩)
  | none => none
end Go.Proofs.YtlpiiifmidehjaaDoorM

/- The value machine: code. What is live, the shapes of ways out, and the run. -/
import Derived.Test.YtlpiiifmidehjaaDoorV15
set_option linter.unusedSimpArgs false
set_option linter.unusedVariables false
namespace Go.Proofs.YtlpiiifmidehjaaDoorM
open Go Go.RowKit

/-! ### What is live (nothing here is proved: a wrong answer makes a run fail) -/
structure LV where
  n : Nat
  ex : List (Nat × Nat)
  ret : Nat
def bitOff (L d : Nat) : Nat := if L.testBit d then L - 2 ^ d else L
def maskOps : List Operand → Nat
  | [] => 0
  | .tmp t :: l => maskOps l ||| 2 ^ t
  | _ :: l => maskOps l
def liveOps (ops : Array Oper) : List Oper → Nat → Nat
  | [], L => L
  | o :: rest, L => (match o.dst with | some d => bitOff (liveOps ops rest L) d | none => liveOps ops rest L) ||| maskOps o.op.operands.toList ||| (match o.guard with | some (j, _) => (match (ops[j]?).bind (·.dst) with | some d => 2 ^ d | none => 0) | none => 0)
def fixN (f : Nat → Nat) : Nat → Nat → Nat
  | 0, L => L
  | n + 1, L => (fun L' => if L' = L then L else fixN f n L') (f L)
def exOf (id : Nat) : List (Nat × Nat) → Nat
  | [] => 0
  | (i, L) :: l => if i = id then L else exOf id l
def liveIn : Code → Nat → List (Nat × Nat) → Nat → Nat
  | .region _ ops _, n, _, _ => liveOps ops ops.toList n
  | .seq a b, n, ex, r => liveIn a (liveIn b n ex r) ex r
  | .cond c a b, n, ex, r => liveIn a n ex r ||| liveIn b n ex r ||| maskOps [c]
  | .block id c, n, ex, r => liveIn c n ((id, n) :: ex) r
  | .loop c, _, ex, r => fixN (fun L => liveIn c L ex r) 8 0
  | .exit id, _, ex, _ => exOf id ex
  | .scope c, n, ex, r => liveIn c n ex r
  | .ret, _, _, r => r
  | _, n, _, _ => n

/-! ### Shapes of states -/
def shSV : SV → SH
  | .dead => .dead
  | .un => .un
  | .con x => (match conC x with | some c => .con c | none => .dead)
  | .kb b => .kb b
  | .pv t _ => .pv t
  | .ptr k o => .ptr k o
  | .row k => .row k
  | .view k _ _ => .view k
  | .ept k _ o => .ept k o
  | .fpt t _ o => .fpt t o
  | .gpt _ _ _ => .dead
  | .mp k => .mp k
  | .fn f a b => .fn f (shSV a) (shSV b)
  | .ifc t s => .ifc t (shSV s)
  | .tup s => .tup (shSV s)
  | .agg s => .agg (shSV s)
  | .nl => .nl
  | .cn a b => .cn (shSV a) (shSV b)
def shSO : Option SO → SOH
  | some (.obj t cs) => if (shSV cs).okL then .obj t (shSV cs) else .gone
  | some (.row e t _) => .row e t
  | some (.map k e _) => .map k e
  | some (.sit _ _) => .sit
  | none => .gone
def refsOf : SV → List Nat
  | .ptr k _ => [k]
  | .row k => [k]
  | .view k _ _ => [k]
  | .ept k _ _ => [k]
  | .mp k => [k]
  | .fn _ a b => refsOf a ++ refsOf b
  | .ifc _ s => refsOf s
  | .tup s => refsOf s
  | .agg s => refsOf s
  | .cn a b => refsOf a ++ refsOf b
  | _ => []
def addN : List Nat → List Nat → List Nat
  | [], acc => acc
  | k :: l, acc => if acc.contains k then addN l acc else addN l (acc ++ [k])
def closeR (os : List (Option SO)) : Nat → Nat → List Nat → List Nat
  | 0, _, acc => acc
  | n + 1, i, acc => match acc[i]? with
    | some k => (match osAt os k with
      | some (.obj _ cs) => closeR os n (i + 1) (addN (refsOf cs) acc)
      | _ => closeR os n (i + 1) acc)
    | none => acc
def killT : Nat → Nat → List SV → List SV
  | _, _, [] => []
  | i, L, s :: l => (if L.testBit i then s else .dead) :: killT (i + 1) L l
def refsL : List SV → List Nat
  | [] => []
  | s :: l => refsOf s ++ refsL l
def canonS (p L : Nat) (S : VS) : VS := (fun ts => (VS.mk ts S.os).ren (closeR S.os (p + S.os.length + 1) 0 (addN (refsL ts) (List.range p)))) (killT 0 L S.ts)
def shapeS (p L : Nat) (S : VS) : Sh := (fun S' => ⟨S'.ts.map shSV, S'.os.map shSO⟩) (canonS p L S)

/-! ### Shapes joined -/
abbrev JP := List (Option Nat × Option Nat)
def jfind (a b : Option Nat) : JP → Nat → Option Nat
  | [], _ => none
  | (x, y) :: l, i => if x = a ∧ y = b then some i else jfind a b l (i + 1)
def jnum (a b : Option Nat) (P : JP) : Nat × JP :=
  match jfind a b P 0 with
  | some i => (i, P)
  | none => (P.length, P ++ [(a, b)])
def rowTy (os : List SOH) (k : Nat) : Option Ty :=
  match os[k]? with
  | some (.row _ t) => some t
  | _ => none
def joinSH (A B : List SOH) : SH → SH → JP → SH × JP
  | .un, .un, P => (.un, P)
  | .con c, .con d, P => if c = d then (.con c, P) else (.dead, P)
  | .con c, .row j, P => if c = 0 then (fun r => (.row r.1, r.2)) (jnum none (some j) P) else (.dead, P)
  | .row k, .con c, P => if c = 0 then (fun r => (.row r.1, r.2)) (jnum (some k) none P) else (.dead, P)
  | .con c, .pv t, P => if c = 0 then (.pv t, P) else (.dead, P)
  | .pv t, .con c, P => if c = 0 then (.pv t, P) else (.dead, P)
  | .con c, .view j, P => if c = 0 then (match rowTy B j with | some t => (.pv (.lst t), P) | none => (.dead, P)) else (.dead, P)
  | .view k, .con c, P => if c = 0 then (match rowTy A k with | some t => (.pv (.lst t), P) | none => (.dead, P)) else (.dead, P)
  | .kb a, .kb b, P => if a = b then (.kb a, P) else (.pv .bool, P)
  | .kb _, .pv t, P => (.pv t, P)
  | .pv t, .kb _, P => (.pv t, P)
  | .pv t, .pv t', P => if t = t' then (.pv t, P) else (.dead, P)
  | .ptr k o, .ptr j o', P => if o = o' then (fun r => (.ptr r.1 o, r.2)) (jnum (some k) (some j) P) else (.dead, P)
  | .row k, .row j, P => (fun r => (.row r.1, r.2)) (jnum (some k) (some j) P)
  | .row _, .pv t, P => (.pv t, P)
  | .pv t, .row _, P => (.pv t, P)
  | .view _, .pv t, P => (.pv t, P)
  | .pv t, .view _, P => (.pv t, P)
  | .row k, .view _, P => (match rowTy A k with | some t => (.pv (.lst t), P) | none => (.dead, P))
  | .view _, .row j, P => (match rowTy B j with | some t => (.pv (.lst t), P) | none => (.dead, P))
  | .view k, .view j, P => (fun r => (.view r.1, r.2)) (jnum (some k) (some j) P)
  | .ept k o, .ept j o', P => if o = o' then (fun r => (.ept r.1 o, r.2)) (jnum (some k) (some j) P) else (.dead, P)
  | .fpt t o, .fpt t' o', P => if t = t' ∧ o = o' then (.fpt t o, P) else (.dead, P)
  | .mp k, .mp j, P => (fun r => (.mp r.1, r.2)) (jnum (some k) (some j) P)
  | .fn f a b, .fn f' a' b', P => if f = f' then (fun r => (fun q => (.fn f r.1 q.1, q.2)) (joinSH A B b b' r.2)) (joinSH A B a a' P) else (.dead, P)
  | .ifc t a, .ifc t' b, P => if t = t' then (fun r => (.ifc t r.1, r.2)) (joinSH A B a b P) else (.dead, P)
  | .tup a, .tup b, P => (fun r => (.tup r.1, r.2)) (joinSH A B a b P)
  | .agg a, .agg b, P => (fun r => (.agg r.1, r.2)) (joinSH A B a b P)
  | .agg _, .pv t, P => (.pv t, P)
  | .pv t, .agg _, P => (.pv t, P)
  | .nl, .nl, P => (.nl, P)
  | .cn a b, .cn a' b', P => (fun r => (fun q => (.cn r.1 q.1, q.2)) (joinSH A B b b' r.2)) (joinSH A B a a' P)
  | _, _, P => (.dead, P)
def joinL (A B : List SOH) : List SH → List SH → JP → List SH × JP
  | a :: l, b :: l', P => (fun r => (fun q => (r.1 :: q.1, q.2)) (joinL A B l l' r.2)) (joinSH A B a b P)
  | _, _, P => ([], P)
def joinO (A B : List SOH) : Nat → Nat → JP → List SOH
  | 0, _, _ => []
  | n + 1, i, P => match P[i]? with
    | some (a, b) => (match a.bind (A[·]?), b.bind (B[·]?) with
      | some (.obj t x), some (.obj t' y) => (fun r => (if t = t' ∧ r.1.okL = true then SOH.obj t r.1 else .gone) :: joinO A B n (i + 1) r.2) (joinSH A B x y P)
      | some (.row e t), some (.row e' t') => (if e = e' ∧ t = t' then SOH.row e t else .gone) :: joinO A B n (i + 1) P
      | some (.map k e), some (.map k' e') => (if k = k' ∧ e = e' then SOH.map k e else .gone) :: joinO A B n (i + 1) P
      | some .sit, some .sit => .sit :: joinO A B n (i + 1) P
      | some (.row e t), none => SOH.row e t :: joinO A B n (i + 1) P
      | none, some (.row e t) => SOH.row e t :: joinO A B n (i + 1) P
      | _, _ => .gone :: joinO A B n (i + 1) P)
    | none => []
def idJ (p : Nat) : JP := (List.range p).map fun k => (some k, some k)
def joinSh (p : Nat) (A B : Sh) : Sh :=
  if A = B then A else (fun r => ⟨r.1, joinO A.os B.os (p + A.os.length + B.os.length + 1) 0 r.2⟩) (joinL A.os B.os A.ts B.ts (idJ p))

/-! ### What a piece of code leaves as it was -/
def wCode : Code → Nat
  | .region _ ops _ => wOps ops.toList
  | .seq a b => wCode a ||| wCode b
  | .cond _ a b => wCode a ||| wCode b
  | .block _ c => wCode c
  | .loop c => wCode c
  | .scope c => wCode c
  | _ => 0
def SV.carry : SV → Bool
  | .pv _ _ => true
  | .kb _ => true
  | .con _ => true
  | .fpt _ _ _ => true
  | .gpt _ _ _ => true
  | _ => false
/-- The temporaries that are carried by. -/
def carM : Nat → Nat → List SV → Nat
  | _, _, [] => 0
  | i, W, s :: l => carM (i + 1) W l ||| (if W.testBit i = false ∧ s.carry = true then 2 ^ i else 0)
def overT : Nat → Nat → List SV → List SV → List SV
  | i, C, s :: l, s' :: l' => (if C.testBit i then s else s') :: overT (i + 1) C l l'
  | _, _, _, l' => l'
def VS.over (C : Nat) (S S' : VS) : VS := ⟨overT 0 C S.ts S'.ts, S'.os⟩
def mskOff (L C : Nat) : Nat := L ^^^ (L &&& C)
def LV.off (lv : LV) (C : Nat) : LV := ⟨mskOff lv.n C, lv.ex.map fun x => (x.1, mskOff x.2 C), mskOff lv.ret C⟩

/-! ### Shapes written out -/
def fSH : SH → {R : Type} → (SH → R) → R
  | .fn f a b, _, K => fSH a fun a' => fSH b fun b' => K (.fn f a' b')
  | .ifc t s, _, K => fSH s fun s' => K (.ifc t s')
  | .tup s, _, K => fSH s fun s' => K (.tup s')
  | .agg s, _, K => fSH s fun s' => K (.agg s')
  | .cn a b, _, K => fSH a fun a' => fSH b fun b' => K (.cn a' b')
  | .pv t, _, K => fTy t fun t' => K (.pv t')
  | .fpt t o, _, K => fTy t fun t' => K (.fpt t' o)
  | s, _, K => K s
theorem fSH_eq : ∀ (s : SH) {R : Type} (K : SH → R), fSH s K = K s
  | .fn f a b, _, K => by unfold fSH; rw [fSH_eq, fSH_eq]
  | .ifc t s, _, K => by unfold fSH; rw [fSH_eq]
  | .tup s, _, K => by unfold fSH; rw [fSH_eq]
  | .agg s, _, K => by unfold fSH; rw [fSH_eq]
  | .cn a b, _, K => by unfold fSH; rw [fSH_eq, fSH_eq]
  | .pv t, _, K => by unfold fSH; rw [fTy_eq]
  | .fpt t o, _, K => by unfold fSH; rw [fTy_eq]
  | .dead, _, _ => rfl
  | .un, _, _ => rfl
  | .con _, _, _ => rfl
  | .kb _, _, _ => rfl
  | .ptr _ _, _, _ => rfl
  | .row _, _, _ => rfl
  | .view _, _, _ => rfl
  | .ept _ _, _, _ => rfl
  | .mp _, _, _ => rfl
  | .nl, _, _ => rfl
def fSHs : List SH → {R : Type} → (List SH → R) → R
  | [], _, K => K []
  | s :: l, _, K => fSH s fun s' => fSHs l fun l' => K (s' :: l')
theorem fSHs_eq : ∀ (l : List SH) {R : Type} (K : List SH → R), fSHs l K = K l
  | [], _, _ => rfl
  | s :: l, _, K => by unfold fSHs; rw [fSH_eq, fSHs_eq]
def fSOs : List SOH → {R : Type} → (List SOH → R) → R
  | [], _, K => K []
  | .obj t cs :: l, _, K => fSH cs fun cs' => fSOs l fun l' => K (.obj t cs' :: l')
  | .row e t :: l, _, K => fTy t fun t' => fSOs l fun l' => K (.row e t' :: l')
  | .map a b :: l, _, K => fTy a fun a' => fTy b fun b' => fSOs l fun l' => K (.map a' b' :: l')
  | o :: l, _, K => fSOs l fun l' => K (o :: l')
theorem fSOs_eq : ∀ (l : List SOH) {R : Type} (K : List SOH → R), fSOs l K = K l
  | [], _, _ => rfl
  | .obj t cs :: l, _, K => by unfold fSOs; rw [fSH_eq, fSOs_eq]
  | .row e t :: l, _, K => by unfold fSOs; rw [fTy_eq, fSOs_eq]
  | .map a b :: l, _, K => by unfold fSOs; rw [fTy_eq, fTy_eq, fSOs_eq]
  | .gone :: l, _, K => by unfold fSOs; rw [fSOs_eq]
  | .sit :: l, _, K => by unfold fSOs; rw [fSOs_eq]
def fSh (s : Sh) {R : Type} (K : Sh → R) : R := fSHs s.ts fun ts => fSOs s.os fun os => K ⟨ts, os⟩
theorem fSh_eq (s : Sh) {R : Type} (K : Sh → R) : fSh s K = K s := by unfold fSh; rw [fSHs_eq, fSOs_eq]
def fOuts : List (AX × Sh) → {R : Type} → (List (AX × Sh) → R) → R
  | [], _, K => K []
  | (x, s) :: l, _, K => fSh s fun s' => fOuts l fun l' => K ((x, s') :: l')
theorem fOuts_eq : ∀ (l : List (AX × Sh)) {R : Type} (K : List (AX × Sh) → R), fOuts l K = K l
  | [], _, _ => rfl
  | (x, s) :: l, _, K => by unfold fOuts; rw [fSh_eq, fOuts_eq]

/-! ### Ways out -/
def axEq : AX → AX → Bool
  | .normal, .normal => true
  | .exit i, .exit j => i == j
  | .ret, .ret => true
  | _, _ => false
def lvOf (lv : LV) : AX → Nat
  | .normal => lv.n
  | .exit i => exOf i lv.ex
  | .ret => lv.ret
def addOut (p : Nat) (x : AX) (T : Sh) : List (AX × Sh) → List (AX × Sh)
  | [] => [(x, T)]
  | (y, U) :: l => if axEq x y then (y, joinSh p U T) :: l else (y, U) :: addOut p x T l
def outSh (p : Nat) (lv : LV) : List (AX × VS) → List (AX × Sh) → List (AX × Sh)
  | [], acc => acc
  | (x, S) :: l, acc => outSh p lv l (addOut p x (shapeS p (lvOf lv x) S) acc)
def isN : AX → Bool
  | .normal => true
  | _ => false
def normalsOf (l : List (AX × VS)) : List (AX × VS) := l.filter fun x => isN x.1
def othersOf (l : List (AX × VS)) : List (AX × VS) := l.filter fun x => !isN x.1
def joinN (p L : Nat) : List (AX × VS) → Sh → Sh
  | [], T => T
  | (_, S) :: l, T => joinN p L l (joinSh p T (shapeS p L S))
def fixT (p L : Nat) (step : Sh → List (AX × VS)) : Nat → Sh → Sh
  | 0, T => T
  | n + 1, T => (fun T' => if T' = T then T else fixT p L step n T') (joinN p L (normalsOf (step T)) T)
def mdC : Md (List (AX × VS)) := ⟨false, (· ++ ·)⟩
def Sh.any (T : Sh) : VS := T.unp (Ty.dflt T.ty)

/-- The ways out of code, each with what is known there. -/
def collC (cx : VCx) (p : Nat) : Code → LV → VS → List (AX × VS)
  | .region _ ops _, _, S => (vops cx mdC ops ops.toList S fun S' => some [(.normal, S')]).getD []
  | .seq a b, lv, S => (fun Lb => (fun outs => othersOf outs ++ (match normalsOf outs with
      | [] => []
      | [(_, S')] => collC cx p b lv S'
      | (_, S') :: l => fSh (joinN p (mskOff Lb (carM 0 (wCode a) S.ts)) l (shapeS p (mskOff Lb (carM 0 (wCode a) S.ts)) S')) fun T => fVS (S.over (carM 0 (wCode a) S.ts) T.any) fun S2 => collC cx p b lv S2)) (collC cx p a ⟨Lb, lv.ex, lv.ret⟩ S)) (liveIn b lv.n lv.ex lv.ret)
  | .cond c a b, lv, S => (match evS cx.gl S c with
      | .kb true => collC cx p a lv S
      | .kb false => collC cx p b lv S
      | .pv .bool _ => collC cx p a lv (S.turn c true) ++ collC cx p b lv (S.turn c false)
      | _ => [])
  | .block id c, lv, S => (collC cx p c ⟨lv.n, (id, lv.n) :: lv.ex, lv.ret⟩ S).map fun x => (match x.1 with | .exit i => if i = id then .normal else .exit i | y => y, x.2)
  | .loop c, lv, S => (fun L => (fun C => fSh (fixT p (mskOff L C) (fun T => fVS (S.over C T.any) fun S1 => collC cx p c ⟨L, lv.ex, lv.ret⟩ S1) 6 (shapeS p (mskOff L C) S)) fun T => fVS (S.over C T.any) fun S1 => othersOf (collC cx p c ⟨L, lv.ex, lv.ret⟩ S1)) (carM 0 (wCode c) S.ts)) (liveIn (.loop c) lv.n lv.ex lv.ret)
  | .exit id, _, S => [(.exit id, S)]
  | .scope c, lv, S => collC cx p c lv S
  | .ret, _, S => [(.ret, S)]
  | .skip, _, S => [(.normal, S)]
  | .label _, _, S => [(.normal, S)]
  | _, _, _ => []

/-! ### The run -/
abbrev OutD : List (AX × Sh) → Type
  | [] => Empty
  | [a] => a.2.D
  | a :: b :: l => a.2.D ⊕ OutD (b :: l)
def packOut (p : Nat) : (l : List (AX × Sh)) → AX → VS → Option (OutD l)
  | [], _, _ => none
  | [a], x, S => if axEq x a.1 then fit p a.2 S else none
  | a :: b :: l, x, S => if axEq x a.1 then (fit p a.2 S).map Sum.inl else (packOut p (b :: l) x S).map Sum.inr
def unpOut {R : Type} : (l : List (AX × Sh)) → OutD l → (AX → VS → Option R) → Option R
  | [], _, _ => none
  | [a], o, K => K a.1 (a.2.unp o)
  | a :: b :: l, o, K => sumK o (fun q => K a.1 (a.2.unp q)) (fun q => unpOut (b :: l) q K)
def mdR {R : Type} : Md R := ⟨true, fun a _ => a⟩

def vcode (cx : VCx) (p : Nat) : Code → LV → {R : Type} → VS → (AX → VS → Option R) → Option R
  | .region _ ops d, _, _, S, K => if d = false ∨ dOK cx.P (tabOf (Kof cx.pu)) ops = true then vops cx mdR ops ops.toList S fun S' => K .normal S' else none
  | .seq a b, lv, _, S, K =>
    (fun lva => (fun outs => (match normalsOf outs with
      | _ :: _ :: _ => (fun C => fOuts (outSh p (lva.off C) outs []) fun T => oBind (vcode cx p a lva S fun x S' => packOut p T x S') fun o => unpOut T o fun x S' => fVS (S.over C S') fun S2 => (match x with | .normal => vcode cx p b lv S2 K | y => K y S2)) (carM 0 (wCode a) S.ts)
      | _ => vcode cx p a lva S fun x S' => (match x with | .normal => vcode cx p b lv S' K | y => K y S'))) (collC cx p a lva S)) ⟨liveIn b lv.n lv.ex lv.ret, lv.ex, lv.ret⟩
  | .cond c a b, lv, _, S, K => (match evS cx.gl S c with
      | .kb true => vcode cx p a lv S K
      | .kb false => vcode cx p b lv S K
      | .pv .bool v => vcond mdR v (vcode cx p a lv (S.turn c true) K) (vcode cx p b lv (S.turn c false) K)
      | _ => none)
  | .block id c, lv, _, S, K => vcode cx p c ⟨lv.n, (id, lv.n) :: lv.ex, lv.ret⟩ S fun x S' => (match x with | .exit i => if i = id then K .normal S' else K (.exit i) S' | y => K y S')
  | .loop c, lv, _, S, K =>
    (fun L => (fun C => fSh (fixT p (mskOff L C) (fun T => fVS (S.over C T.any) fun S1 => collC cx p c ⟨L, lv.ex, lv.ret⟩ S1) 6 (shapeS p (mskOff L C) S)) fun T =>
      fOuts (fVS (S.over C T.any) fun S1 => outSh p (LV.off ⟨L, lv.ex, lv.ret⟩ C) (othersOf (collC cx p c ⟨L, lv.ex, lv.ret⟩ S1)) []) fun outs =>
      (match fit p T S with | none => none | some s => oBind (iter (fun s => fVS (S.over C (T.unp s)) fun S1 => vcode cx p c ⟨L, lv.ex, lv.ret⟩ S1 fun x S' => (match x with | .normal => (fit p T S').map Sum.inl | y => (packOut p outs y S').map Sum.inr)) NF s) fun o => unpOut outs o fun x S' => fVS (S.over C S') fun S2 => K x S2))
      (carM 0 (wCode c) S.ts)) (liveIn (.loop c) lv.n lv.ex lv.ret)
  | .exit id, _, _, S, K => K (.exit id) S
  | .scope c, lv, _, S, K => vcode cx p c lv S K
  | .ret, _, _, S, K => K .ret S
  | .skip, _, _, S, K => K .normal S
  | .label _, _, _, S, K => K .normal S
  | _, _, _, _, _ => none

/-! ### Functions -/
def vresults {R : Type} (P : Program) (S : VS) : List ResultVar → (List SV → Option R) → Option R
  | [], K => K []
  | .tmp t :: l, K => vresults P S l fun r => K (S.ts.getD t .dead :: r)
  | .cell a t :: l, K => vload P mdR S t (S.ts.getD a .dead) fun s => vresults P S l fun r => K (s :: r)
def packedS : List SV → SV
  | [x] => x
  | xs => .tup (SV.ofList xs)
def retMask : List ResultVar → Nat
  | [] => 0
  | .tmp t :: l => retMask l ||| 2 ^ t
  | .cell a _ :: l => retMask l ||| 2 ^ a
def vfn (cx : VCx) (fn : Func) (ps : Sh) (rs : List Sh) (q : ps.D) : Option (AltD rs) :=
  match fn.body with
  | some c => vcode cx ps.os.length c ⟨retMask fn.results.toList, [], retMask fn.results.toList⟩ ⟨(ps.unp q).ts ++ List.replicate (fn.ntmps - ps.ts.length) .un, (ps.unp q).os⟩ fun x S' =>
      (match x with
      | .exit _ => none
      | _ => vresults cx.P S' fn.results.toList fun l => packAlt ps.os.length rs ⟨[packedS l], S'.os⟩)
  | none => none
end Go.Proofs.YtlpiiifmidehjaaDoorM

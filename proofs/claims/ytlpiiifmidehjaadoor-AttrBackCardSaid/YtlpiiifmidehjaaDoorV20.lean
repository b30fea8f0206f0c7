/- The value machine: the run of a law. -/
import Derived.Test.YtlpiiifmidehjaaDoorV19
set_option linter.unusedSimpArgs false
set_option linter.unusedVariables false
namespace Go.Proofs.YtlpiiifmidehjaaDoorM
open Go Go.RowKit

theorem EnvR.none {g : FM} {H : List AV} : EnvR g H [] [] := ⟨rfl, fun d s x h => by simp at h⟩
theorem EnvR.one {g : FM} {H : List AV} {s : SV} {x : AV} {ts : List SV} {env : List AV} (h : SVR g H s x) (E : EnvR g H ts env) : EnvR g H (s :: ts) (x :: env) := by
  refine ⟨by simp [E.len], fun d s' x' h1 h2 => ?_⟩
  cases d with
  | zero => simp only [List.getElem?_cons_zero, Option.some.injEq] at h1 h2; subst h1; subst h2; exact h
  | succ d => simp only [List.getElem?_cons_succ] at h1 h2; exact E.get d s' x' h1 h2
theorem SVR.pv {g : FM} {H : List AV} {T : Ty} {v : T.D} {x : AV} (h : RepV g T x v) : SVR g H (.pv T v) x := ⟨x, rfl, h⟩
theorem RepV.agg {g : FM} {a b : Ty} {c : List AV} {v : (Ty.cons a b).D} (h : RepC g (.cons a b) c v) : RepV g (.cons a b) (.agg c) v := ⟨c, rfl, h⟩
theorem RepC.more {g : FM} {a b : Ty} {c : List AV} {x : AV} {v : (Ty.cons a b).D} (h : RepC g a [x] v.1) (h2 : RepC g b c v.2) : RepC g (.cons a b) (x :: c) v := ⟨[x], c, rfl, h, h2⟩
theorem RepC.app {g : FM} {a b : Ty} {c1 c2 : List AV} {v : (Ty.cons a b).D} (h : RepC g a c1 v.1) (h2 : RepC g b c2 v.2) : RepC g (.cons a b) (c1 ++ c2) v := ⟨c1, c2, rfl, h, h2⟩

theorem all2_ofEnc {g : FM} {t : Ty} (hf : t.flat = true) : ∀ l : List t.D, All2 (RepC g t) (l.map (encC t)) l
  | [] => trivial
  | v :: l => ⟨enc_rep hf, all2_ofEnc hf l⟩
/-- Where no slice is held yet: package variables alone. -/
def gM (vs : Nat → Option (List AV)) : FM := ⟨fun _ => Option.none, vs, fun _ => True⟩

theorem law_V {P : Program} {gl : List GVar} {W : Aw} {K : PureK} {N : List FuncId} {es0 es : List VEnt} (C : Ch P gl W K N es0 es) {f : FuncId} {ts : List SH} {F : (Sh.mk ts []).D → Option (AltD [⟨[.pv .bool], []⟩])}
    (he : (⟨f, ⟨ts, []⟩, [⟨[.pv .bool], []⟩], F⟩ : VEnt) ∈ es) {p : (Sh.mk ts []).D} (hF : F p = some (true, ())) {g : FM} {h0 : AH} {args : List AV} (hg : GOK g gl) (hf : g.ok h0) (hgx : ∀ id c, g.c id = some c → g.b id)
    (E : EnvR g [] (unpL ts p).1 args) : ∃ n h', acall P (hooksW W K) (drawnOf P (tabOf K)) n f args h0 = some (.bool true, h') := by
  obtain ⟨d, hd⟩ := C.e1 K (fun _ _ h => h) C.no _ he
  have M : VMem h0 [] g [] ((Sh.mk ts []).unp p).os h0 :=
    ⟨Nat.le_refl _, fun _ _ _ hk => hk, hf, rfl, fun k o x h1 => by simp [Sh.unp, ounpL] at h1, fun k o x id h1 => by simp [Sh.unp, ounpL] at h1, fun id c hc => .inl (hgx id c hc), fun k o x k' o' x' id h1 => by simp [Sh.unp, ounpL] at h1⟩
  obtain ⟨v, h', g', H', S', r1, r2, r3, r4, r5, r6⟩ := hd _ (Nat.le_refl _) [] g [] args h0 p (true, ()) hg hF M E
  have hS' : (Sh.mk [.pv .bool] []).unp (true, ()) = S' := by
    have := r6 (fun S => some S)
    exact Option.some.inj this
  subst hS'
  have hr : SVR g' H' (.pv .bool true) v := r5.get 0 _ v rfl rfl
  obtain ⟨x, hx, hr⟩ := hr
  cases hx
  have : v = .bool true := by have := hr.c1 rfl; simpa [RepC] using this
  subst this
  exact ⟨_, _, r1⟩
end Go.Proofs.YtlpiiifmidehjaaDoorM

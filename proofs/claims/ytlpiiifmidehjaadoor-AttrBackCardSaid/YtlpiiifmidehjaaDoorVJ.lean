/- strings.Join, by the kit's contract: a hook that reads a slice of texts. -/
import Derived.Test.YtlpiiifmidehjaaDoorVN
import Derived.Test.YtlpiiifmidehjaaDoorSH
import Derived.Lib.Join
set_option linter.unusedSimpArgs false
set_option linter.unusedVariables false
namespace Go.Proofs.YtlpiiifmidehjaaDoorM
open Go Go.RowKit
def strsOf : List AV → Option (List (List UInt8))
  | [] => some []
  | .str s :: r => (strsOf r).map fun l => s :: l
  | _ => none
def F_strings_Join (l : List (List UInt8)) (sep : List UInt8) : Option (List UInt8 × Unit) :=
  if l.length ≤ 1000000 ∧ (Lib.join l sep).length ≤ 1000000 then some (Lib.join l sep, ()) else none
def joinHook (args : List AV) (h : AH) : Option (AV × AH) :=
  match args with
  | [.val (.slice none 0 _), .str sep] => (F_strings_Join [] sep).map fun r => (.str r.1, h)
  | [.sl id off len sz, .str sep] => match acells (.sl id off len sz) 1 len h with
    | some cs => match strsOf cs with
      | some l => if l.length = len then (F_strings_Join l sep).map fun r => (.str r.1, h) else none
      | none => none
    | none => none
  | _ => none
theorem strsOf_at : ∀ {cs : List AV} {l : List (List UInt8)}, strsOf cs = some l → cs.length = l.length ∧ ∀ (j : Nat) (s : List UInt8), l[j]? = some s → cs[j]? = some (.str s)
  | [], l, h => by cases h; exact ⟨rfl, fun j s hj => by simp at hj⟩
  | .str s :: r, l, h => by
    obtain ⟨l', h1, rfl⟩ := Option.map_eq_some_iff.1 h
    obtain ⟨h2, h3⟩ := strsOf_at h1
    refine ⟨by simp [h2], fun j t hj => ?_⟩
    cases j with
    | zero => simp at hj; subst hj; rfl
    | succ j => simpa using h3 j t (by simpa using hj)
  | .int _ _ :: _, _, h => by cases h
  | .bool _ :: _, _, h => by cases h
  | .val _ :: _, _, h => by cases h
  | .ptr _ _ :: _, _, h => by cases h
  | .sl _ _ _ _ :: _, _, h => by cases h
  | .map _ :: _, _, h => by cases h
  | .iface _ _ :: _, _, h => by cases h
  | .agg _ :: _, _, h => by cases h
  | .tup _ :: _, _, h => by cases h
  | .func _ _ _ :: _, _, h => by cases h
  | .any :: _, _, h => by cases h
section
variable {P : Program} {B : Nat}
/-- What a call of a known function that leaves all old blocks as they were comes to. -/
theorem res_below {φ : Nat → Loc} {h : AH} {w w' : World} (r : Rel B φ h w) (bl : Below w.heap.size w w') {v : AV} {v' : Value} (hv : ∀ N φ, VR N φ v v') : Res B φ h w v h v' w' := by
  refine ⟨φ, hv _ _, ⟨fun id o hg => ?_, r.base, r.sep, Nat.le_trans r.bs bl.size⟩, ⟨bl.os, bl.tape, bl.output, bl.size, Nat.le_refl _, fun _ hk => hk, fun _ _ => rfl, fun k hk _ => bl.block k hk, fun id o hg ho => .inr ⟨id, o, hg, ho, rfl⟩⟩⟩
  cases hl : o.live with
  | false => cases o <;> first | trivial | cases hl
  | true => rw [bl.block _ (r.lt hg hl)]; exact r.obj id o hg
theorem join_hook {f : FuncId} {fn : Func} {c : Code} (hf : P.funcs[f]? = some fn) (hb : fn.body = some c) (hn : (fn.name == "runtime.NumGoroutine") = false)
    (h0 : ∀ (a : Option Addr) (c : Nat) (sep : ByteArray) (w : World), Calls P f #[.slice a 0 c, .string sep] w fun e w' => e = .returned (.string ⟨#[]⟩) ∧ w' = w)
    (h1 : ∀ (bk o c : Nat) (xs : List ByteArray) (sep : ByteArray) (w : World) (hcells : ∀ (j : Nat) x, xs[j]? = some x → w.cell? ⟨bk, o + j, none⟩ = some (.string x)) (hbk : bk < w.heap.size) (hN : xs.length ≤ 140737488355328) (hcap : xs.length ≤ c) (hlen : (Lib.join (xs.map (·.data.toList)) sep.data.toList).length ≤ 140737488355328),
      Calls P f #[.slice (some ⟨bk, o, none⟩) xs.length c, .string sep] w fun e w' => e = .returned (.string ⟨(Lib.join (xs.map (·.data.toList)) sep.data.toList).toArray⟩) ∧ Below w.heap.size w w') : HookOK P B f joinHook := by
  intro args h v h' hr φ w args' r ha
  have hcf : (callFunc f args'.toArray).run P w = .ok (.enter f args'.toArray) w := by
    unfold callFunc
    simp only [Sem.run_bind, run_program, Result.andThen_ok, hf, hn, Bool.false_eq_true, if_false, hb, Option.isNone_some, Sem.run_pure]
  rw [hcf]
  show Calls P f args'.toArray w _
  unfold joinHook at hr
  split at hr
  · rename_i c sep
    obtain ⟨r0, e0, e1⟩ := Option.map_eq_some_iff.1 hr
    cases e1
    unfold F_strings_Join at e0
    split at e0
    rotate_left
    · cases e0
    cases e0
    obtain ⟨v1, r1, rfl, k1, ha⟩ := ha.inv_cons
    obtain ⟨v2, r2, rfl, k2, ha⟩ := ha.inv_cons
    obtain rfl := ha.inv_nil
    obtain rfl := k2.inv_str
    cases k1
    refine (h0 none c ⟨⟨sep⟩⟩ w).mono ?_
    rintro e w' ⟨rfl, rfl⟩
    exact ⟨_, rfl, Res.pure r (.str _)⟩
  · rename_i id off len sz sep
    split at hr
    rotate_left
    · cases hr
    rename_i cs hcs
    split at hr
    rotate_left
    · cases hr
    rename_i l hl
    split at hr
    rotate_left
    · cases hr
    rename_i hlen
    obtain ⟨r0, e0, e1⟩ := Option.map_eq_some_iff.1 hr
    cases e1
    unfold F_strings_Join at e0
    split at e0
    rotate_left
    · cases e0
    rename_i hb1
    cases e0
    obtain ⟨v1, r1, rfl, k1, ha⟩ := ha.inv_cons
    obtain ⟨v2, r2, rfl, k2, ha⟩ := ha.inv_cons
    obtain rfl := ha.inv_nil
    obtain rfl := k2.inv_str
    cases k1 with
    | sl _ _ _ _ a cap hid hlc hac =>
    subst hlen
    cases l with
    | nil =>
      refine (h0 (some a) cap ⟨⟨sep⟩⟩ w).mono ?_
      rintro e w' ⟨rfl, rfl⟩
      exact ⟨_, rfl, Res.pure r (.str _)⟩
    | cons s l =>
      rcases hac with hc0 | ⟨rfl, hcn⟩
      · simp at hlc; omega
      obtain ⟨q1, q2⟩ := strsOf_at hl
      simp only [acells] at hcs
      split at hcs
      rotate_left
      · cases hcs
      rename_i hsz
      rw [if_neg (by simp)] at hcs
      split at hcs
      rotate_left
      · cases hcs
      rename_i c0 own fz ty hg
      split at hcs
      rotate_left
      · cases hcs
      rename_i hle
      have hcs := Option.some.inj hcs
      obtain ⟨C, e, lo, hi, o1, o2, o3, o4, _⟩ := r.obj _ _ hg
      have hlt := r.lt hg rfl
      refine (h1 (φ id).b ((φ id).o + off) cap ((s :: l).map fun x => ⟨⟨x⟩⟩) ⟨⟨sep⟩⟩ w (fun j x hj => ?_) hlt (by simp at hb1 ⊢; omega) (by simpa using hlc) (by
        have e3 : (((s :: l).map fun x => (⟨⟨x⟩⟩ : ByteArray)).map (·.data.toList)) = s :: l := by rw [List.map_map]; exact List.map_id _
        rw [e3]; show (Lib.join (s :: l) sep).length ≤ _; omega)).mono ?_ |> fun h => by simpa using h
      · rw [List.getElem?_map] at hj
        obtain ⟨t, ht, rfl⟩ := Option.map_eq_some_iff.1 hj
        have h3 := q2 j t ht
        rw [← hcs, List.getElem?_take] at h3
        split at h3
        rotate_left
        · cases h3
        rw [List.getElem?_drop] at h3
        obtain ⟨v, hv, hvr⟩ := o4 _ _ h3
        rw [cell_at o1, show (φ id).o + off + j = (φ id).o + (off + j) by omega, hv, hvr.inv_str]
      · rintro e w' ⟨rfl, bl⟩
        have e3 : (((s :: l).map fun x => (⟨⟨x⟩⟩ : ByteArray)).map (·.data.toList)) = s :: l := by rw [List.map_map]; exact List.map_id _
        rw [e3]
        exact ⟨_, rfl, res_below r bl (fun N φ => .str _)⟩
  · cases hr

theorem strs_rep {g : FM} : ∀ {xs : List (List AV)} {l : List (List UInt8)}, All2 (RepC g .str) xs l → strsOf xs.flatten = some l
  | [], [], _ => rfl
  | x :: xs, s :: l, h => by
    obtain ⟨h1, h2⟩ := h
    cases (show x = [.str s] from h1)
    show (strsOf xs.flatten).map _ = _
    rw [strs_rep h2]; rfl
  | [], _ :: _, h => h.elim
  | _ :: _, [], h => h.elim

theorem joinHook_rep {g : FM} {h : AH} (hok : g.ok h) {l : List (List UInt8)} {sep r : List UInt8} (hq : F_strings_Join l sep = some (r, ())) {x : AV} (hz : LR g (RepC g .str) Ty.str.size x l) : joinHook [x, .str sep] h = some (.str r, h) := by
  rcases hz with ⟨rfl, rfl⟩ | ⟨id, off, rfl, h2⟩
  · simp only [joinHook, hq, Option.map_some]
  · have e1 : ∃ cs, acells (.sl id off l.length Ty.str.size) 1 l.length h = some cs ∧ strsOf cs = some l := by
      cases l with
      | nil => exact ⟨[], rfl, rfl⟩
      | cons s l =>
        rcases h2 with h2 | ⟨c, xs, k1, k2, k3, k4⟩
        · cases h2
        obtain ⟨_, _, _, hg⟩ := hok.1 _ _ k1
        refine ⟨xs.flatten, ?_, strs_rep k4⟩
        simp only [acells, Ty.size]
        rw [if_pos ⟨trivial, Nat.le_refl _⟩, if_neg (by simp)]
        simp only [hg]
        simp only [Ty.size] at k2 k3
        rw [if_pos k2, ← k3]
    obtain ⟨cs, e1, e2⟩ := e1
    simp only [joinHook, e1, e2, if_true, hq, Option.map_some]
def eJoin (f : FuncId) : VEnt := ⟨f, ⟨[.pv (.lst .str), .pv .str], []⟩, [⟨[.pv .str], []⟩], fun q => F_strings_Join q.1 q.2.1⟩
theorem join_sound {Γ : Hooks} {D : Drawn} {f : FuncId} (n : Nat) (hf : Γ f = some joinHook) : SoundE [] (acall P Γ D n) (eJoin f) := by
  intro X g H args h p q hG hq M E
  obtain ⟨l, sep, u⟩ := p
  have hq : F_strings_Join l sep = some q := hq
  have E : EnvR g H [.pv (.lst .str) l, .pv .str sep] args := E
  obtain ⟨x, r1, rfl, hx, E⟩ := envR_cons E
  obtain ⟨y, r2, rfl, hy, E⟩ := envR_cons E
  obtain rfl := envR_nil E
  obtain rfl := pvS hy
  obtain ⟨z, ez, hz⟩ := pvR (t := .lst .str) rfl hx
  cases ez
  obtain ⟨q, uq⟩ := q
  cases uq
  have key := joinHook_rep M.fz hq hz
  refine ⟨.str q, h, g, [], (Sh.mk [.pv .str] []).unp (q, ()), ?_, FM.le.refl g, fun k y hk => by simp [eJoin] at hk, M.none, ⟨rfl, fun d s' y k1 k2 => ?_⟩, fun K => rfl⟩
  · show acall P Γ D n f _ h = _
    rw [acall_hook hf]; exact key
  · cases d with
    | zero =>
      have e1 : (SV.pv .str q) = s' := by
        have : ((Sh.mk [.pv .str] []).unp (q, ())).ts[0]? = some s' := k1
        exact Option.some.inj this
      simp at k2
      subst k2; subst e1
      exact str_pv _
    | succ d => simp at k2
end
end Go.Proofs.YtlpiiifmidehjaaDoorM

/- append and copy, held against the model's. -/
import Derived.Test.YtobhmahlenjheaaM4
set_option linter.unusedSimpArgs false
set_option linter.unusedVariables false
namespace Go.Proofs.YtobhmahlenjheaaM
open Go Go.RowKit

variable {P : Program} {B : Nat} {φ : Nat → Loc} {h : AH} {w : World}

theorem tyApp_some {e t : TypeId} {b : Bool} {ty : Option (TypeId × Bool)} (h : tyApp e ty = some (t, b)) : t = e ∧ b = false ∧ ∃ b', ty = some (e, b') := by
  unfold tyApp at h
  split at h
  · split at h
    · rename_i he; subst he; cases h; exact ⟨rfl, rfl, _, rfl⟩
    · cases h
  · cases h

theorem rel_drew (r : Rel B φ h w) : Rel B φ h w.drew := r.drew (w.drawn + 1)
theorem step_drew (φ : Nat → Loc) (h : AH) (w : World) : Step φ h w φ h w.drew := Step.drew φ h w (w.drawn + 1)

theorem two_args {N : Nat → Prop} {s x : AV} {args' : List Value} (h : VRs N φ [s, x] args') : ∃ s' x', args' = [s', x'] ∧ VR N φ s s' ∧ VR N φ x x' := by
  match args', h with
  | [a, b], h => exact ⟨a, b, rfl, h.head, h.tail.head⟩
  | [], h => exact absurd h.1 (by simp)
  | [_], h => exact absurd h.1 (by simp)
  | _ :: _ :: _ :: _, h => exact absurd h.1 (by simp)
theorem one_arg {N : Nat → Prop} {s : AV} {args' : List Value} (h : VRs N φ [s] args') : ∃ s', args' = [s'] ∧ VR N φ s s' := by
  match args', h with
  | [a], h => exact ⟨a, rfl, h.head⟩
  | [], h => exact absurd h.1 (by simp)
  | _ :: _ :: _, h => exact absurd h.1 (by simp)

set_option maxHeartbeats 1000000 in
theorem append_sound (r : Rel B φ h w) {argTypes : Array TypeId} {ty : TypeId} {args : List AV} {args' : List Value} {v : AV} {h' : AH} (ha : aappend P argTypes args h = some (v, h'))
    (hargs : VRs h.ok φ args args') : ∃ v' w', (Builtin.append_ argTypes ty args'.toArray).run P w = .ok v' w' ∧ Res B φ h w v h' v' w' := by
  unfold aappend at ha
  split at ha
  rotate_left
  · cases ha
  rename_i st xt s x hst hxt
  obtain ⟨s', x', rfl, hs, hx⟩ := two_args hargs
  split at ha
  rotate_left
  · cases ha
  rename_i e he hxd
  split at ha
  rotate_left
  · cases ha
  rename_i i n len hi hn hlen
  split at ha
  rotate_left
  · cases ha
  rename_i xs hroom hxs
  obtain ⟨hsz, hpos, z, hz, hzs⟩ := aroom_some hroom
  obtain ⟨xd, hxu, hni⟩ : ∃ xd, P.underlying xt = some xd ∧ notInt xd = true := by
    cases hu : P.underlying xt with
    | none => simp [hu] at hxd
    | some xd => simp [hu] at hxd; exact ⟨xd, rfl, hxd⟩
  have hund := sliceElem_some he
  have hnl := alen_sound (P := P) hn hx w
  obtain ⟨base, cap, rfl, hlc⟩ := append_shape ha hs hlen
  obtain ⟨new, hnew, hnewV, hnewL⟩ := acells_sound (P := P) r hxs hx
  have hnewS : new.size = n * i.size := by have := hnewV.1; simp at this; omega
  by_cases hfit : len + n ≤ cap
  · -- there is room
    rw [run_append_room (P := P) argTypes ty hst hxt hund hxu hni hi hz hnl hfit, hnew, Result.andThen_ok]
    cases hs with
    | val v0 =>
      unfold aappendAt at ha
      split at ha
      · rename_i he'; cases he'
        split at ha
        · rename_i hn0
          cases ha
          subst hn0
          have hnil : new = #[] := by apply Array.eq_empty_of_size_eq_zero; simpa using hnewS
          subst hnil
          exact ⟨_, _, rfl, Res.pure r (.val _)⟩
        · rename_i hn0; omega
      · rename_i he'; cases he'
      · cases ha
    | sl id off l sz a cap' hid hl' hacap =>
      simp only [alen] at hlen
      cases hlen
      unfold aappendAt at ha
      simp only at ha
      split at ha
      · rename_i hn0
        cases ha
        subst hn0
        have hnil : new = #[] := by apply Array.eq_empty_of_size_eq_zero; simpa using hnewS
        subst hnil
        exact ⟨_, _, rfl, Res.pure r (.sl id off len sz a cap hid hl' hacap)⟩
      · rename_i hn0
        split at ha
        · rename_i c fz ty0 hg
          split at ha
          · rename_i hcond
            obtain ⟨rfl, hoff, hfz, hone⟩ := hcond
            cases ha
            obtain ⟨C, e0, lo, hi', h1, h2, h3, h4, h5, h6⟩ := r.cells hg
            rcases hacap with hc0 | ⟨ha', hcapn⟩
            · omega
            · subst ha'
              have hmul : (len + n) * i.size ≤ cap * i.size := Nat.mul_le_mul_right _ hfit
              rw [Nat.add_mul] at hmul
              obtain ⟨w', hrun, ht, _, C', hC', hCs, hCl⟩ := run_storeCells' (P := P) (φ id).b ((φ id).o + off + len * i.size) e0 lo hi' new.toList 0 C w h1 (by simp; omega) (hnewV.ones hone) (fun j hj hj' => h5 rfl j (by omega) hj')
              have hnewT : new.toList.length = n * i.size := by simpa using hnewS
              have hmove := r.move hg rfl ht ⟨(φ id).b, (φ id).o + off, (φ id).n⟩ rfl (.cells ((c.drop off).take (len * i.size) ++ xs) true (fz - off) (tyApp e ty0)) (by
                show ObjR _ _ _ _ w'.heap[(φ id).b]?
                rw [hC']
                refine ⟨C', e0, lo, hi', rfl, hCs.trans h2, ?_, fun j y hj => ?_, fun _ j hj hj' => h5 rfl j (by simp at hj; omega) (by omega), fun t b ht => ?_⟩
                · simp; omega
                · have hv1 : VRs h.ok φ ((c.drop off).take (len * i.size) ++ xs) ((C'.toList.drop ((φ id).o + off)).take (len * i.size + n * i.size)) := by
                    have e1 : ((C'.toList.drop ((φ id).o + off)).take (len * i.size + n * i.size)) = ((((C.toList.drop (φ id).o).take c.length).drop off).take (len * i.size)) ++ new.toList := by
                      rw [hCl]
                      apply List.ext_getElem?
                      intro j
                      have l1 : (C.toList.take ((φ id).o + off + len * i.size + 0)).length = (φ id).o + off + len * i.size := by simp; omega
                      have l2 : ((((C.toList.drop (φ id).o).take c.length).drop off).take (len * i.size)).length = len * i.size := by simp; omega
                      simp only [List.getElem?_take, List.getElem?_drop, List.getElem?_append, l1, l2]
                      by_cases hj1 : j < len * i.size
                      · rw [if_pos (by omega), if_pos (by omega), if_pos (by omega), if_pos hj1, if_pos hj1, if_pos (by omega)]
                        congr 1; omega
                      · by_cases hj2 : j < len * i.size + n * i.size
                        · rw [if_pos hj2, if_neg (by omega), if_pos (by omega), if_neg hj1]
                          congr 1; omega
                        · rw [if_neg hj2, if_neg hj1, List.getElem?_eq_none (by omega)]
                    rw [e1]
                    exact ((h4.drop off).take _).append hnewV
                  obtain ⟨u, hu, hur⟩ := hv1.at hj
                  rw [List.getElem?_take] at hu
                  split at hu
                  · rw [List.getElem?_drop, Array.getElem?_toList] at hu
                    exact ⟨u, hu, hur.mono (fun _ hk => AH.ok_push ((AH.ok_set hg).2 hk)) fun k hk => ext1_old (AH.ok_lt hk)⟩
                  · cases hu
                · obtain ⟨k1, k2, k3⟩ := tyApp_some ht
                  subst k1 k2
                  obtain ⟨b', k3⟩ := k3
                  exact ⟨(h6 _ _ k3).1, fun hb => by cases hb⟩)
              refine ⟨.slice (some ⟨(φ id).b, (φ id).o + off, none⟩) (len + n) cap, w', ?_, _, ?_, hmove.1, hmove.2⟩
              · simp only [addr_add, hrun, Result.andThen_ok]
              · have := VR.sl (N := ((h.set id .dead).push (.cells ((c.drop off).take (len * i.size) ++ xs) true (fz - off) (tyApp e ty0))).ok) (φ := ext1 φ h.n ⟨(φ id).b, (φ id).o + off, (φ id).n⟩) h.n 0 (len + n) i.size ⟨(φ id).b, (φ id).o + off, none⟩ cap
                  (by have := AH.ok_new (h.set id .dead) (.cells ((c.drop off).take (len * i.size) ++ xs) true (fz - off) (tyApp e ty0)); rwa [AH.set_n] at this) hfit (.inr ⟨by rw [ext1_new]; rfl, by rw [ext1_new]; exact hcapn⟩)
                exact this
          · cases ha
        · cases ha
    | _ => simp [aappendAt] at ha
  · -- a new row
    rw [run_append_grow (P := P) argTypes ty hst hxt hund hxu hni hi hz hnl hsz (by omega)]
    generalize hcut : Question.cut (.appendCap (len + n) cap e) (w.tape w.drawn (.appendCap (len + n) cap e)) = cut
    have hcut' : len + n ≤ cut := by rw [← hcut]; simp only [Question.cut]; omega
    have r1 := rel_drew r
    have s1 := step_drew φ h w
    obtain ⟨new1, hnew1, hnewV1, _⟩ := acells_sound (P := P) r1 hxs hx
    have fin : ∀ (fz0 : Nat) (ty1 : Option (TypeId × Bool)) (hty1 : ∀ t b, ty1 = some (t, b) → e = t ∧ b = false) (h1 : AH) (old : Array Value) (ocs : List AV), (Builtin.firstCells i.size len (.slice base len cap)).run P w.drew = .ok old w.drew → VRs h.ok φ ocs old.toList → ocs.length = len * i.size → h1.n = h.n → Rel B φ h1 w.drew → Step φ h w φ h1 w.drew →
        ∃ v' w', ((Builtin.firstCells i.size len (.slice base len cap)).run P w.drew).andThen (fun old w2 => ((Builtin.firstCells i.size n x').run P w2).andThen fun new w3 =>
          .ok (.slice (some ⟨w3.heap.size, 0, none⟩) (len + n) cut) (w3.alloc (.cells (old ++ (new ++ Builtin.zeroCells z.cells (cut - (len + n)))) e))) = .ok v' w' ∧
          Res B φ h w (.sl h.n 0 (len + n) i.size) (h1.push (.cells (ocs ++ xs) true fz0 ty1)) v' w' := by
      intro fz0 ty1 hty1 h1 old ocs hold holdV holdL hn1 r2 s2
      rw [hold, Result.andThen_ok, hnew1, Result.andThen_ok]
      have hl1 := holdV.1
      have hl2 := hnewV1.1
      simp at hl1 hl2
      have hsize : (old ++ (new1 ++ Builtin.zeroCells z.cells (cut - (len + n)))).size = cut * i.size := by
        simp only [Array.size_append, zeroCells_size, hzs]
        have : (cut - (len + n)) * i.size + (len + n) * i.size = cut * i.size := by rw [← Nat.add_mul]; congr 1; omega
        rw [Nat.add_mul] at this
        omega
      have hf := r2.fresh (ocs ++ xs) (old ++ (new1 ++ Builtin.zeroCells z.cells (cut - (len + n)))) e fz0 ((cut - (len + n)) * i.size) ty1 (fun t b ht => ⟨(hty1 t b ht).1, fun hb => by rw [(hty1 t b ht).2] at hb; cases hb⟩) (by
        have : (old ++ (new1 ++ Builtin.zeroCells z.cells (cut - (len + n)))).toList.take (ocs ++ xs).length = old.toList ++ new1.toList := by
          simp only [Array.toList_append, List.length_append]
          rw [← List.append_assoc, List.take_left' (by simp; omega)]
        rw [this]
        exact (holdV.append hnewV1).mono s2.okm fun _ _ => rfl) (by
        rw [hsize]
        have : (cut - (len + n)) * i.size + (len + n) * i.size = cut * i.size := by rw [← Nat.add_mul]; congr 1; omega
        rw [Nat.add_mul] at this
        simp; omega)
      refine ⟨_, _, rfl, _, ?_, hf.1, s2.trans hf.2⟩
      rw [hn1]
      refine .sl h.n 0 (len + n) i.size _ cut (by have := AH.ok_new h1 (.cells (ocs ++ xs) true fz0 ty1); rwa [hn1] at this) hcut' (.inr ⟨by simp [ext1_new], by simp [ext1_new, hsize]⟩)
    cases hs with
    | val v0 =>
      unfold aappendAt at ha
      split at ha
      · rename_i he'; cases he'
        simp only [alen] at hlen
        cases hlen
        split at ha
        · rename_i hn0; omega
        · cases ha
          have := fin 0 (some (e, false)) (fun t b ht => by cases ht; exact ⟨rfl, rfl⟩) h #[] [] (by simp [Builtin.firstCells]) (VRs.nil _ _) (by simp) rfl r1 s1
          simpa using this
      · rename_i he'; cases he'
      · cases ha
    | sl id off l sz a cap' hid hl' hacap =>
      simp only [alen] at hlen
      cases hlen
      unfold aappendAt at ha
      simp only at ha
      split at ha
      · rename_i hn0; omega
      · split at ha
        · rename_i c fz ty0 hg
          split at ha
          · rename_i hcond
            obtain ⟨rfl, hoff, hfz, hone⟩ := hcond
            cases ha
            obtain ⟨old, hold, holdV, holdL⟩ := acells_sound (P := P) r1 (x := .sl id off len i.size) (sz := i.size) (n := len) (cs := (c.drop off).take (len * i.size)) (by by_cases h0 : len = 0 <;> simp [acells, hg, hoff, h0]) (.sl id off len i.size a cap hid hl' hacap)
            obtain ⟨r2, s2⟩ := r1.kill hg rfl
            exact fin (fz - off) (tyApp e ty0) (fun t b ht => by obtain ⟨k1, k2, _⟩ := tyApp_some ht; exact ⟨k1.symm, k2⟩) (h.set id .dead) old _ hold holdV holdL (AH.set_n _ _ _) r2 (s1.trans s2)
          · cases ha
        · cases ha
    | _ => simp [aappendAt] at ha

end Go.Proofs.YtobhmahlenjheaaM

/- Layer 39 in plain terms: the laws over trees. -/
import Derived.Test.YtobhmahlenjheaaDGP39
set_option linter.unusedSimpArgs false
set_option linter.unusedVariables false
namespace Go.Proofs.YtobhmahlenjheaaM
open Go Go.RowKit

theorem awake39 : F_law39_awake = some true := by
  unfold F_law39_awake
  have h1 := awake39'
  obtain ⟨y, e1, e2⟩ := layer0
  have hn : NS ⟨[97], false, [120], 420, 0⟩ := ⟨by simp, by simp⟩
  have hlen : (nodeT ⟨[97], false, [120], 420, 0⟩).length = 44 := by unfold nodeT; simp [put_len, keyOf_length]
  rw [ROf_eq _ (by simp), Option.bind_some] at h1
  rw [ROf_eq _ (by simp), Option.bind_some, h1, Option.bind_some, Tree_eq [] (by simp) (by simp), Option.bind_some, ROf_eq [] (by simp), Option.bind_some, if_pos (by simp [textT]), Node_eq _ hn, Option.bind_some, if_pos (by rw [hlen]; rfl), if_pos (by rfl)]
  have e3 : idxL ([[97]] : List (List UInt8)) 0 = some [97] := rfl
  rw [e3, Option.bind_some, if_pos (by rfl), e1, Option.bind_some, Option.bind_some, e2]
  rfl
theorem small_NS {t : List Gapi_Node} (h : ∀ n ∈ t, n.xPath.length ≤ 60 ∧ n.xData.length ≤ 60) : ∀ n ∈ t, NS n := fun n hn => ⟨by have := (h n hn).1; omega, by have := (h n hn).2; omega⟩
theorem true_law39_DigestTrees (t : List Gapi_Node) (d : List UInt8) : F_law39_DigestTrees t d = some true := by
  unfold F_law39_DigestTrees
  obtain ⟨b, hb, hf⟩ := Few_eq t 12 (by omega)
  rw [awake39, Option.bind_some, if_neg (by decide), hb, Option.bind_some]
  cases b with
  | false => rw [if_pos (by decide), Option.bind_some, if_pos rfl]
  | true =>
    obtain ⟨h1, h2⟩ := hf rfl
    have hNS := small_NS h2
    rw [if_neg (by decide), Option.bind_some]
    by_cases hd : (d.length : Int) > 60
    · rw [if_pos (by simpa using hd)]
    rw [if_neg (by simpa using hd)]
    have hloop := iter_any t (fun _ => false) (step := L_law39_DigestTrees_1 t) (by omega) (fun i hi => by
      unfold L_law39_DigestTrees_1
      have hn := hNS _ (List.getElem_mem hi)
      rw [if_pos (by omega), idx_of t i hi, Option.bind_some, Node_eq _ hn, Option.bind_some, RNode_eq _ hn, Option.bind_some, if_neg (by simp), if_neg (by simp), wrap_i64 (by omega) (by omega)]
      rfl) (by unfold L_law39_DigestTrees_1; rw [if_neg (by simp)])
    rw [hloop, Option.bind_some]
    have hany : (t.any fun _ => false) = false := by simp
    rw [hany, if_neg (by decide), sumK_inl, ROf_eq _ (by simp), Option.bind_some]
    have hkey : ∃ key, (((if (t.length : Int) > 0 then (quoI .i64 (t.length : Int) 2).bind fun y114 => (idxL t y114).bind fun x115 => (F_ref04_Of x115.xData).bind fun y121 => some y121 else some (keyOf [120])) : Option (List UInt8))) = some key := by
      by_cases h0 : (t.length : Int) > 0
      · have hq : quoI .i64 (t.length : Int) 2 = some ((t.length / 2 : Nat) : Int) := by
          unfold quoI; rw [if_neg (by decide), Int.tdiv_eq_ediv_of_nonneg (by omega), wrap_i64 (by omega) (by omega)]; rfl
        have hlt : t.length / 2 < t.length := by omega
        have hn := hNS _ (List.getElem_mem hlt)
        rw [if_pos h0, hq, Option.bind_some, idx_of t _ hlt, Option.bind_some, ROf_eq _ (by have := hn.2; omega)]
        exact ⟨_, rfl⟩
      · rw [if_neg h0]; exact ⟨_, rfl⟩
    obtain ⟨key, hk⟩ := hkey
    have hfl := finds_len key t
    rw [hk, Option.bind_some, Tree_eq t (by omega) hNS, Option.bind_some, RTree_eq t (by omega) hNS, Option.bind_some, if_pos (by simp), DUnder_eq t (by omega) hNS d (by omega), Option.bind_some, RDUnder_eq t (by omega) hNS d (by omega), Option.bind_some, if_pos (by simp), Find_eq t (by omega) hNS key, Option.bind_some, RFind_eq t (by omega) hNS key, Option.bind_some, Texts_eq _ (by omega)]
    rfl
def movedT (d : List UInt8) (t : List Gapi_Node) : List Gapi_Node := t.map fun n => ⟨d ++ [47] ++ n.xPath, n.xDir, n.xData, n.xMode, n.xTime⟩
theorem belows_moved (d : List UInt8) (hd : d ≠ []) (t : List Gapi_Node) : belows d (movedT d t) = t := by
  unfold belows movedT
  induction t with
  | nil => rfl
  | cons n t ih =>
    rw [List.map_cons, List.filterMap_cons]
    have hb : below d ⟨d ++ [47] ++ n.xPath, n.xDir, n.xData, n.xMode, n.xTime⟩ = some n := by
      unfold below under
      rw [if_neg hd, if_pos (by rw [List.isPrefixOf_iff_prefix]; exact ⟨n.xPath, rfl⟩), if_neg hd]
      congr 1
      cases n
      simp
    rw [hb]
    simp only
    rw [ih]
theorem true_law39_DigestMoved (t : List Gapi_Node) (d : List UInt8) : F_law39_DigestMoved t d = some true := by
  unfold F_law39_DigestMoved
  obtain ⟨b, hb, hf⟩ := Few_eq t 8 (by omega)
  rw [awake39, Option.bind_some, if_neg (by decide), hb, Option.bind_some]
  cases b with
  | false => rw [if_pos (by decide), Option.bind_some, if_pos rfl]
  | true =>
    obtain ⟨h1, h2⟩ := hf rfl
    have hNS := small_NS h2
    rw [if_neg (by decide)]
    by_cases hd : (d.length : Int) > 20
    · rw [if_pos hd, Option.bind_some, if_pos rfl]
    rw [if_neg hd]
    by_cases he : d = []
    · rw [if_pos (by simpa using he), Option.bind_some, if_pos rfl]
    rw [if_neg (by simpa using he)]
    have hpos : 0 < d.length := List.length_pos_iff.2 he
    have hi : idxS d (IntKind.i64.wrap ((d.length : Int) - 1)) = some (((d.getD (d.length - 1) 0).toNat : Nat) : Int) := by
      rw [wrap_i64 (by omega) (by omega), show (d.length : Int) - 1 = ((d.length - 1 : Nat) : Int) by omega]
      exact idx_b d _ (by omega)
    rw [hi, Option.bind_some, Option.bind_some]
    split
    · rfl
    -- each node moved, or one without a path
    have hloop : iter (L_law39_DigestMoved_1 t d) NF (([] : List Gapi_Node), 0) = some (.inr ()) ∨ iter (L_law39_DigestMoved_1 t d) NF (([] : List Gapi_Node), 0) = some (.inl (movedT d t)) := by
      have key : ∀ (e i n : Nat), i + e = t.length → e < n → iter (L_law39_DigestMoved_1 t d) n (movedT d (t.take i), (i : Int)) = some (.inr ()) ∨ iter (L_law39_DigestMoved_1 t d) n (movedT d (t.take i), (i : Int)) = some (.inl (movedT d t)) := by
        intro e
        induction e with
        | zero =>
          intro i n hi hn
          obtain ⟨n, rfl⟩ : ∃ j, n = j + 1 := ⟨n - 1, by omega⟩
          right
          rw [List.take_of_length_le (by omega)]
          refine iter_inr ?_
          unfold L_law39_DigestMoved_1
          rw [if_neg (by simp only; omega)]
        | succ e ih =>
          intro i n hi hn
          obtain ⟨n, rfl⟩ : ∃ j, n = j + 1 := ⟨n - 1, by omega⟩
          have hlt : i < t.length := by omega
          have hn1 := (h2 _ (List.getElem_mem hlt)).1
          by_cases hp : t[i].xPath = []
          · left
            refine iter_inr ?_
            unfold L_law39_DigestMoved_1
            simp only
            rw [if_pos (by omega), idx_of t i hlt, Option.bind_some, if_pos (by simpa using hp)]
          · have step : L_law39_DigestMoved_1 t d (movedT d (t.take i), (i : Int)) = some (.inl (movedT d (t.take (i + 1)), ((i + 1 : Nat) : Int))) := by
              unfold L_law39_DigestMoved_1
              simp only
              rw [if_pos (by omega), idx_of t i hlt, Option.bind_some, if_neg (by simpa using hp), cat_eq _ _ (by simp; omega), Option.bind_some, cat_eq _ _ (by simp; omega), Option.bind_some, app_of _ _ (by unfold movedT; simp; omega), Option.bind_some, wrap_i64 (by omega) (by omega)]
              congr 3
              unfold movedT
              rw [List.take_add_one, List.getElem?_eq_getElem hlt, List.map_append]
              rfl
            rw [iter_inl step]
            exact ih (i + 1) n (by omega) (by omega)
      exact key t.length 0 NF (by omega) (by rw [NF_eq]; omega)
    have hm : ∀ n ∈ movedT d t, NS n := by
      intro n hn
      obtain ⟨m, hm, rfl⟩ := List.mem_map.1 hn
      have := h2 m hm
      refine ⟨?_, ?_⟩
      · show (d ++ [47] ++ m.xPath).length ≤ 1000
        simp; omega
      · show m.xData.length ≤ 1000
        omega
    have hml : (movedT d t).length = t.length := by unfold movedT; simp
    rcases hloop with e | e
    · rw [e, Option.bind_some, sumK_inr]
    · rw [e, Option.bind_some, sumK_inl, DUnder_eq _ (by omega) hm d (by omega), Option.bind_some, Tree_eq t (by omega) hNS, Option.bind_some, belows_moved d he]
      simp
end Go.Proofs.YtobhmahlenjheaaM

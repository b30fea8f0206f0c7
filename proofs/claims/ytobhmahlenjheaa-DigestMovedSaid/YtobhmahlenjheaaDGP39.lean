/- Layer 39 in plain terms: digests of trees. -/
import Derived.Test.YtobhmahlenjheaaDGP02
import Derived.Test.YtobhmahlenjheaaDGPR
import Derived.Test.YtobhmahlenjheaaDGP04c
set_option linter.unusedSimpArgs false
set_option linter.unusedVariables false
namespace Go.Proofs.YtobhmahlenjheaaM
open Go Go.RowKit

theorem HasPrefix_eq (s p : List UInt8) : F_strings_HasPrefix s p = some (p.isPrefixOf s) := by
  unfold F_strings_HasPrefix F_internal_stringslite_HasPrefix
  by_cases h : p.length ≤ s.length
  · have : subS s 0 (p.length : Int) = some (s.take p.length) := by
      unfold subS; rw [if_pos (by omega)]; simp
    rw [if_pos (by omega), this]
    simp only [Option.bind_some]
    congr 1
    rw [Bool.eq_iff_iff, List.isPrefixOf_iff_prefix, List.prefix_iff_eq_take, beq_iff_eq]
    exact eq_comm
  · rw [if_neg (by omega)]
    simp only [Option.bind_some]
    congr 1
    cases hh : p.isPrefixOf s with
    | false => rfl
    | true =>
      rw [List.isPrefixOf_iff_prefix] at hh
      exact absurd hh.length_le h
theorem Under_eq (p d : List UInt8) (hd : d.length ≤ 100000) : F_route_Under p d = some (under p d) := by
  unfold F_route_Under under
  by_cases h : d = []
  · subst h; rfl
  · rw [if_neg (by simpa using h), if_neg h, cat_eq _ _ (by simp; omega), Option.bind_some, HasPrefix_eq]
    rfl

/-- A node's text. -/
def nodeT (n : Gapi_Node) : List UInt8 := (if n.xDir then [100] else [102]) ++ put n.xPath.length 4 ++ n.xPath ++ put n.xMode 2 ++ put n.xTime 4 ++ (if n.xDir then [] else keyOf n.xData)
/-- A small node. -/
def NS (n : Gapi_Node) : Prop := n.xPath.length ≤ 1000 ∧ n.xData.length ≤ 1000
theorem nodeT_len (n : Gapi_Node) (h : NS n) : (nodeT n).length ≤ 1043 := by
  unfold nodeT
  have h2 : (if n.xDir then ([] : List UInt8) else keyOf n.xData).length ≤ 32 := by split <;> simp [keyOf_length]
  have h3 : (if n.xDir then ([100] : List UInt8) else [102]).length = 1 := by split <;> rfl
  simp only [List.length_append, put_len, h3]
  have := h.1
  omega
theorem b100 : byteOf 100 = some 100 := rfl
theorem b102 : byteOf 102 = some 102 := rfl
theorem path_eq (w p : List UInt8) (hw : w.length ≤ 1000000) (hp : p.length ≤ 1000) : F_digest_writer_path ⟨w⟩ p = some ⟨w ++ (put p.length 4 ++ p)⟩ := by
  unfold F_digest_writer_path
  rw [P32_eq, Option.bind_some, cat_eq _ _ (by rw [put_len]; omega), Option.bind_some, app_of _ _ (by simp [put_len]; omega), Option.bind_some]
theorem node_eq (w : List UInt8) (n : Gapi_Node) (hw : w.length ≤ 900000) (h : NS n) : F_digest_writer_node ⟨w⟩ n = some ⟨w ++ nodeT n⟩ := by
  unfold F_digest_writer_node nodeT
  have h1 := h.1
  have h2 := h.2
  have hk := keyOf_length n.xData
  cases hd : n.xDir with
  | true =>
    simp only [if_true, b100, Option.bind_some]
    rw [app_of _ _ (by simp; omega), Option.bind_some, Option.bind_some, path_eq _ _ (by simp; omega) h1, Option.bind_some, P16_eq, Option.bind_some, P32_eq, Option.bind_some, cat_eq _ _ (by simp [put_len]), Option.bind_some]
    simp only
    rw [app_of _ _ (by simp [put_len]; omega), Option.bind_some, if_neg (by simp)]
    simp only [List.append_assoc, List.append_nil]
  | false =>
    simp only [Bool.false_eq_true, if_false, b102, Option.bind_some]
    rw [app_of _ _ (by simp; omega), Option.bind_some, Option.bind_some, path_eq _ _ (by simp; omega) h1, Option.bind_some, P16_eq, Option.bind_some, P32_eq, Option.bind_some, cat_eq _ _ (by simp [put_len]), Option.bind_some]
    simp only
    rw [app_of _ _ (by simp [put_len]; omega), Option.bind_some, if_pos (by simp), Of_eq _ (by omega), Option.bind_some, app_of _ _ (by simp [put_len, hk]; omega), Option.bind_some]
    simp only [List.append_assoc]
theorem Node_eq (n : Gapi_Node) (h : NS n) : F_digest_Node n = some (nodeT n) := by
  unfold F_digest_Node
  have := nodeT_len n h
  have h1 := node_eq [] n (by simp) h
  rw [List.nil_append] at h1
  have hc : chkCap (nodeT n) = some () := by unfold chkCap; rw [if_pos (by unfold capL; omega)]
  rw [h1, Option.bind_some]
  show (chkCap (nodeT n)).bind (fun _ => some (nodeT n)) = some (nodeT n)
  rw [hc, Option.bind_some]
theorem RNode_eq (n : Gapi_Node) (h : NS n) : F_ref39_Node n = some (nodeT n) := by
  have h1 := h.1
  have h2 := h.2
  have hk := keyOf_length n.xData
  have l1 := put_len (n.xPath.length : Int) 4
  have l2 := put_len n.xMode 2
  have l3 := put_len n.xTime 4
  have key : ∀ c : UInt8, (F_ref02_Put (IntKind.u64.wrap (n.xPath.length : Int)) 4).bind (fun y19 => (cat [c] y19).bind fun s21 => (cat s21 n.xPath).bind fun s23 => (F_ref02_Put (IntKind.u64.wrap n.xMode) 2).bind fun y26 => (cat s23 y26).bind fun s28 => (F_ref02_Put (IntKind.u64.wrap n.xTime) 4).bind fun y31 => cat s28 y31)
      = some ([c] ++ put n.xPath.length 4 ++ n.xPath ++ put n.xMode 2 ++ put n.xTime 4) := fun c => by
    rw [RPut4, Option.bind_some, RPut2, RPut4]
    generalize put (n.xPath.length : Int) 4 = p1 at *
    generalize put n.xMode 2 = p2 at *
    generalize put n.xTime 4 = p3 at *
    rw [cat_eq _ _ (by simp only [List.length_cons, List.length_nil]; omega), Option.bind_some, cat_eq _ _ (by simp only [List.length_append, List.length_cons, List.length_nil]; omega), Option.bind_some, Option.bind_some, cat_eq _ _ (by simp only [List.length_append, List.length_cons, List.length_nil]; omega), Option.bind_some, Option.bind_some, cat_eq _ _ (by simp only [List.length_append, List.length_cons, List.length_nil]; omega)]
  have split : ∀ (c : List UInt8), F_ref39_Node n = (((if n.xDir = true then some [100] else some [102]) : Option (List UInt8)).bind fun j13 => ((F_ref02_Put (IntKind.u64.wrap (n.xPath.length : Int)) 4).bind (fun y19 => (cat j13 y19).bind fun s21 => (cat s21 n.xPath).bind fun s23 => (F_ref02_Put (IntKind.u64.wrap n.xMode) 2).bind fun y26 => (cat s23 y26).bind fun s28 => (F_ref02_Put (IntKind.u64.wrap n.xTime) 4).bind fun y31 => cat s28 y31)).bind fun s33 =>
      ((if (!n.xDir) = true then (F_ref04_Of n.xData).bind fun y39 => (cat s33 y39).bind fun s41 => some s41 else some s33) : Option (List UInt8)).bind fun j43 => some j43) := fun _ => by
    unfold F_ref39_Node
    simp only [Option.bind_assoc]
  rw [split []]
  unfold nodeT
  cases hd : n.xDir with
  | true =>
    rw [if_pos rfl, Option.bind_some, key, Option.bind_some, if_neg (by simp), Option.bind_some]
    simp only [if_true, List.append_nil]
  | false =>
    rw [if_neg (by simp), Option.bind_some, key, Option.bind_some, if_pos (by simp), ROf_eq _ (by omega), Option.bind_some]
    generalize put (n.xPath.length : Int) 4 = p1 at *
    generalize put n.xMode 2 = p2 at *
    generalize put n.xTime 4 = p3 at *
    generalize keyOf n.xData = p4 at *
    rw [cat_eq _ _ (by simp only [List.length_append, List.length_cons, List.length_nil]; omega), Option.bind_some, Option.bind_some]
    simp only [Bool.false_eq_true, if_false]

def textT (t : List Gapi_Node) : List UInt8 := t.flatMap nodeT
theorem textT_len : ∀ (t : List Gapi_Node), (∀ n ∈ t, NS n) → (textT t).length ≤ 1043 * t.length := by
  intro t
  induction t with
  | nil => intro _; exact Nat.le_refl _
  | cons n t ih =>
    intro h
    have h1 := nodeT_len n (h n (List.mem_cons_self ..))
    have h2 := ih fun x hx => h x (List.mem_cons_of_mem _ hx)
    unfold textT at *
    rw [List.flatMap_cons, List.length_append, List.length_cons]
    omega
theorem textT_snoc (t : List Gapi_Node) (n : Gapi_Node) : textT (t ++ [n]) = textT t ++ nodeT n := by unfold textT; simp
theorem take_NS {t : List Gapi_Node} (h : ∀ n ∈ t, NS n) (i : Nat) : ∀ n ∈ t.take i, NS n := fun n hn => h n (List.mem_of_mem_take hn)
section
variable (t : List Gapi_Node) (hl : t.length ≤ 100) (h : ∀ n ∈ t, NS n)
include hl h
theorem Tree_eq : F_digest_Tree t = some (keyOf (textT t)) := by
  unfold F_digest_Tree
  have hlen := textT_len t h
  have := iter_pre t textT (step := L_digest_Tree_1 t) (r := textT t) (by omega) (fun i hi => by
    unfold L_digest_Tree_1
    have hn := h _ (List.getElem_mem hi)
    have ht := textT_len _ (take_NS h i)
    rw [List.length_take] at ht
    simp only
    rw [if_pos (by omega), idx_of t i hi, Option.bind_some, node_eq _ _ (by omega) hn, Option.bind_some, wrap_i64 (by omega) (by omega), textT_snoc]
    rfl) (by unfold L_digest_Tree_1; rw [if_neg (by simp)])
  rw [show textT [] = [] from rfl] at this
  rw [this, Option.bind_some]
  unfold chkCap
  rw [if_pos (by unfold capL; omega), Option.bind_some, Of_eq _ (by omega), Option.bind_some]
theorem RTree_eq : F_ref39_Tree t = some (keyOf (textT t)) := by
  unfold F_ref39_Tree F_ref39_text
  have hlen := textT_len t h
  have := iter_pre t textT (step := L_ref39_text_1 t) (r := textT t) (by omega) (fun i hi => by
    unfold L_ref39_text_1
    have hn := h _ (List.getElem_mem hi)
    have ht := textT_len _ (take_NS h i)
    have hn2 := nodeT_len _ hn
    rw [List.length_take] at ht
    simp only
    rw [if_pos (by omega), idx_of t i hi, Option.bind_some, RNode_eq _ hn, Option.bind_some, cat_eq _ _ (by omega), Option.bind_some, wrap_i64 (by omega) (by omega), textT_snoc]
    rfl) (by unfold L_ref39_text_1; rw [if_neg (by simp)])
  rw [show textT [] = [] from rfl] at this
  rw [this, Option.bind_some, Option.bind_some, ROf_eq _ (by omega), Option.bind_some]
end

/-- A node, as it stands below a directory. -/
def below (d : List UInt8) (n : Gapi_Node) : Option Gapi_Node := if under n.xPath d then some ⟨if d = [] then n.xPath else n.xPath.drop (d.length + 1), n.xDir, n.xData, n.xMode, n.xTime⟩ else none
def belows (d : List UInt8) (t : List Gapi_Node) : List Gapi_Node := t.filterMap (below d)
theorem below_NS {d : List UInt8} {n m : Gapi_Node} (h : NS n) (hb : below d n = some m) : NS m := by
  unfold below at hb
  split at hb
  · cases hb
    refine ⟨?_, h.2⟩
    show (if d = [] then n.xPath else n.xPath.drop (d.length + 1)).length ≤ 1000
    have := h.1
    split
    · exact this
    · rw [List.length_drop]; omega
  · cases hb
theorem belows_NS {d : List UInt8} {t : List Gapi_Node} (h : ∀ n ∈ t, NS n) : ∀ n ∈ belows d t, NS n := fun m hm => by
  obtain ⟨n, hn, hb⟩ := List.mem_filterMap.1 hm
  exact below_NS (h n hn) hb
theorem belows_len (d : List UInt8) (t : List Gapi_Node) : (belows d t).length ≤ t.length := List.length_filterMap_le ..
theorem belows_snoc (d : List UInt8) (t : List Gapi_Node) (n : Gapi_Node) : belows d (t ++ [n]) = belows d t ++ (below d n).toList := by
  unfold belows
  rw [List.filterMap_append]
  congr 1
theorem under_len {p d : List UInt8} (hd : d ≠ []) (h : under p d = true) : d.length + 1 ≤ p.length := by
  unfold under at h
  rw [if_neg hd, List.isPrefixOf_iff_prefix] at h
  have := h.length_le
  simpa using this
section
variable (t : List Gapi_Node) (hl : t.length ≤ 100) (h : ∀ n ∈ t, NS n) (d : List UInt8) (hd : d.length ≤ 1000)
include hl h hd
theorem DUnder_eq : F_digest_Under t d = some (keyOf (textT (belows d t))) := by
  unfold F_digest_Under
  have hlb := belows_len d t
  have := iter_pre t (belows d) (step := L_digest_Under_1 t d) (r := belows d t) (by omega) (fun i hi => by
    unfold L_digest_Under_1
    have hn := h _ (List.getElem_mem hi)
    have h1 := hn.1
    have ht := belows_len d (t.take i)
    rw [List.length_take] at ht
    simp only
    rw [if_pos (by omega), idx_of t i hi, Option.bind_some, Under_eq _ _ (by omega), Option.bind_some, wrap_i64 (n := (i : Int) + 1) (by omega) (by omega), belows_snoc]
    cases hu : under t[i].xPath d with
    | false =>
      rw [if_pos (by rfl)]
      unfold below
      rw [hu]
      simp
    | true =>
      rw [if_neg (by decide)]
      unfold below
      rw [hu]
      by_cases he : d = []
      · rw [if_neg (by simp [he]), Option.bind_some, app_of _ _ (by simp; omega), Option.bind_some, if_pos rfl, if_pos he]
        rfl
      · have hlen := under_len he hu
        rw [if_pos (by simp [he]), wrap_i64 (n := (d.length : Int) + 1) (by omega) (by omega), show (d.length : Int) + 1 = ((d.length + 1 : Nat) : Int) by omega, sub_drop _ _ hlen, Option.bind_some, Option.bind_some, app_of _ _ (by simp; omega), Option.bind_some, if_pos rfl, if_neg he]
        rfl) (by unfold L_digest_Under_1; rw [if_neg (by simp)])
  rw [show belows d [] = [] from rfl] at this
  rw [this, Option.bind_some, Tree_eq _ (by omega) (belows_NS h), Option.bind_some]
theorem RDUnder_eq : F_ref39_Under t d = some (keyOf (textT (belows d t))) := by
  unfold F_ref39_Under
  have hlb := belows_len d t
  have := iter_pre t (belows d) (step := L_ref39_Under_1 t d) (r := belows d t) (by omega) (fun i hi => by
    unfold L_ref39_Under_1
    have hn := h _ (List.getElem_mem hi)
    have h1 := hn.1
    have ht := belows_len d (t.take i)
    rw [List.length_take] at ht
    simp only
    rw [if_pos (by omega), idx_of t i hi, Option.bind_some, RUnder_eq _ _ (by omega) (by omega), Option.bind_some, wrap_i64 (n := (i : Int) + 1) (by omega) (by omega), belows_snoc]
    cases hu : under t[i].xPath d with
    | false =>
      rw [if_pos (by rfl)]
      unfold below
      rw [hu]
      simp
    | true =>
      rw [if_neg (by decide)]
      unfold below
      rw [hu]
      by_cases he : d = []
      · rw [if_neg (by simp [he]), Option.bind_some, app_of _ _ (by simp; omega), Option.bind_some, if_pos rfl, if_pos he]
        rfl
      · have hlen := under_len he hu
        rw [if_pos (by simp [he]), wrap_i64 (n := (d.length : Int) + 1) (by omega) (by omega), show (d.length : Int) + 1 = ((d.length + 1 : Nat) : Int) by omega, sub_drop _ _ hlen, Option.bind_some, Option.bind_some, app_of _ _ (by simp; omega), Option.bind_some, if_pos rfl, if_neg he]
        rfl) (by unfold L_ref39_Under_1; rw [if_neg (by simp)])
  rw [show belows d [] = [] from rfl] at this
  rw [this, Option.bind_some, RTree_eq _ (by omega) (belows_NS h), Option.bind_some]
end
def finds (key : List UInt8) (t : List Gapi_Node) : List (List UInt8) := (t.filter fun n => !n.xDir && keyOf n.xData == key).map (·.xPath)
theorem finds_len (key : List UInt8) (t : List Gapi_Node) : (finds key t).length ≤ t.length := by unfold finds; rw [List.length_map]; exact List.length_filter_le ..
theorem finds_snoc (key : List UInt8) (t : List Gapi_Node) (n : Gapi_Node) : finds key (t ++ [n]) = finds key t ++ (if (!n.xDir && keyOf n.xData == key) = true then [n.xPath] else []) := by
  unfold finds
  rw [List.filter_append, List.map_append]
  congr 1
  by_cases hb : (!n.xDir && keyOf n.xData == key) = true
  · rw [if_pos hb]; simp only [List.filter_cons, hb, if_true, List.filter_nil, List.map_cons, List.map_nil]
  · rw [if_neg hb]; simp only [List.filter_cons, hb, if_false, List.filter_nil, List.map_nil]; rfl
section
variable (t : List Gapi_Node) (hl : t.length ≤ 100) (h : ∀ n ∈ t, NS n) (key : List UInt8)
include hl h
theorem Find_eq : F_digest_Find t key = some (finds key t) := by
  unfold F_digest_Find
  have := iter_pre t (finds key) (step := L_digest_Find_1 t key) (r := finds key t) (by omega) (fun i hi => by
    unfold L_digest_Find_1
    have hn := h _ (List.getElem_mem hi)
    have h2 := hn.2
    have ht := finds_len key (t.take i)
    rw [List.length_take] at ht
    simp only
    rw [if_pos (by omega), idx_of t i hi, Option.bind_some, finds_snoc, wrap_i64 (n := (i : Int) + 1) (by omega) (by omega)]
    cases hd : t[i].xDir with
    | true =>
      rw [if_neg (by simp), Option.bind_some, if_neg (by simp), if_neg (by simp)]
      simp
    | false =>
      rw [if_pos (by simp), Of_eq _ (by omega), Option.bind_some, Option.bind_some]
      by_cases hk : keyOf t[i].xData = key
      · rw [if_pos (by simpa using hk), app_of _ _ (by simp; omega), Option.bind_some, if_pos (by simpa using hk)]
        rfl
      · rw [if_neg (by simpa using hk), if_neg (by simpa using hk)]
        simp) (by unfold L_digest_Find_1; rw [if_neg (by simp)])
  rw [show finds key [] = [] from rfl] at this
  rw [this, Option.bind_some]
theorem RFind_eq : F_ref39_Find t key = some (finds key t) := by
  unfold F_ref39_Find
  have := iter_pre t (finds key) (step := L_ref39_Find_1 t key) (r := finds key t) (by omega) (fun i hi => by
    unfold L_ref39_Find_1
    have hn := h _ (List.getElem_mem hi)
    have h2 := hn.2
    have ht := finds_len key (t.take i)
    rw [List.length_take] at ht
    simp only
    rw [if_pos (by omega), idx_of t i hi, Option.bind_some, finds_snoc, wrap_i64 (n := (i : Int) + 1) (by omega) (by omega)]
    cases hd : t[i].xDir with
    | true =>
      rw [if_neg (by simp), Option.bind_some, if_neg (by simp), if_neg (by simp)]
      simp
    | false =>
      rw [if_pos (by simp), ROf_eq _ (by omega), Option.bind_some, Option.bind_some]
      by_cases hk : keyOf t[i].xData = key
      · rw [if_pos (by simpa using hk), Option.bind_some, app_of _ _ (by simp; omega), Option.bind_some, if_pos (by simpa using hk)]
        rfl
      · rw [if_neg (by simpa using hk), if_neg (by simpa using hk)]
        simp) (by unfold L_ref39_Find_1; rw [if_neg (by simp)])
  rw [show finds key [] = [] from rfl] at this
  rw [this, Option.bind_some]
end
theorem Texts_eq (a : List (List UInt8)) (ha : a.length ≤ 10000) : F_ref23_Texts a a = some true := by
  unfold F_ref23_Texts
  have := iter_any a (fun _ => false) (step := L_ref23_Texts_1 a a) (by omega) (fun i hi => by
    unfold L_ref23_Texts_1
    rw [if_pos (by omega), idx_of a i hi, Option.bind_some, Option.bind_some, if_neg (by simp), if_neg (by simp), wrap_i64 (by omega) (by omega)]
    rfl) (by unfold L_ref23_Texts_1; rw [if_neg (by simp)])
  rw [if_neg (by simp), this, Option.bind_some]
  simp [sumK]
theorem Few_eq (t : List Gapi_Node) (m : Int) (hm : m ≤ 1000) : ∃ b, F_law24_Few t m = some b ∧ (b = true → (t.length : Int) ≤ m ∧ ∀ n ∈ t, n.xPath.length ≤ 60 ∧ n.xData.length ≤ 60) := by
  unfold F_law24_Few
  by_cases h : (t.length : Int) > m
  · rw [if_pos h]; exact ⟨_, rfl, fun hh => by cases hh⟩
  · rw [if_neg h]
    have := iter_any t (fun n => decide (n.xPath.length > 60) || decide (n.xData.length > 60)) (step := L_law24_Few_1 t) (by omega) (fun i hi => by
      unfold L_law24_Few_1
      rw [if_pos (by omega), idx_of t i hi, Option.bind_some, wrap_i64 (n := (i : Int) + 1) (by omega) (by omega)]
      by_cases h1 : t[i].xPath.length > 60
      · rw [if_pos (by omega), Option.bind_some, if_pos rfl, if_pos (by simp [h1])]
      · rw [if_neg (by omega), Option.bind_some]
        by_cases h2 : t[i].xData.length > 60
        · rw [if_pos (by simp; omega), if_pos (by simp [h2])]
        · rw [if_neg (by simp; omega), if_neg (by simp; omega)]
          rfl) (by unfold L_law24_Few_1; rw [if_neg (by simp)])
    rw [this, Option.bind_some]
    by_cases ha : (t.any fun n => decide (n.xPath.length > 60) || decide (n.xData.length > 60)) = true
    · rw [if_pos ha]; exact ⟨_, rfl, fun hh => by cases hh⟩
    · rw [if_neg ha]
      refine ⟨_, rfl, fun _ => ⟨by omega, fun n hn => ?_⟩⟩
      simp only [List.any_eq_true, not_exists, not_and] at ha
      have := ha n hn
      simp at this
      exact this
theorem awake39' : (F_ref04_Of [120]).bind (fun k => F_digest_Find [(⟨[97], false, [120], 420, 0⟩ : Gapi_Node)] k) = some [[97]] := by
  rw [ROf_eq _ (by simp), Option.bind_some, Find_eq _ (by simp) (by intro n hn; rw [List.mem_singleton.1 hn]; exact ⟨by simp, by simp⟩)]
  unfold finds
  simp
theorem P32_0 : F_field_P32 0 = some (put 0 4) := P32_eq 0
theorem layer0 : ∃ y, F_digest_Layer ⟨[], [], []⟩ = some y ∧ y.length = 32 := by
  refine ⟨keyOf ([97] ++ put 0 4 ++ [119] ++ put 0 4 ++ [111] ++ put 0 4), ?_, keyOf_length _⟩
  unfold F_digest_Layer F_digest_writer_paths
  have i1 : ∀ b : List UInt8, iter (L_digest_Layer_1 ⟨[], [], []⟩) NF (b, 0) = some b := fun b => by
    rw [NF_add1]; exact iter_inr (by unfold L_digest_Layer_1; rw [if_neg (by simp)])
  have i2 : ∀ b : List UInt8, iter (L_digest_writer_paths_1 []) NF (b, 0) = some b := fun b => by
    rw [NF_add1]; exact iter_inr (by unfold L_digest_writer_paths_1; rw [if_neg (by simp)])
  simp only [List.length_nil, Int.natCast_zero, show byteOf 97 = some 97 from rfl, show byteOf 119 = some 119 from rfl, show byteOf 111 = some 111 from rfl, Option.bind_some, P32_0, i1, i2]
  have e1 : app ([] : List UInt8) [97] = some [97] := rfl
  have e2 : app ([97] : List UInt8) (put 0 4) = some ([97] ++ put 0 4) := app_of _ _ (by simp [put_len])
  have e3 : app ([97] ++ put 0 4) ([119] : List UInt8) = some ([97] ++ put 0 4 ++ [119]) := app_of _ _ (by simp [put_len])
  have e4 : app ([97] ++ put 0 4 ++ [119]) (put 0 4) = some ([97] ++ put 0 4 ++ [119] ++ put 0 4) := app_of _ _ (by simp [put_len])
  have e5 : app ([97] ++ put 0 4 ++ [119] ++ put 0 4) ([111] : List UInt8) = some ([97] ++ put 0 4 ++ [119] ++ put 0 4 ++ [111]) := app_of _ _ (by simp [put_len])
  have e6 : app ([97] ++ put 0 4 ++ [119] ++ put 0 4 ++ [111]) (put 0 4) = some ([97] ++ put 0 4 ++ [119] ++ put 0 4 ++ [111] ++ put 0 4) := app_of _ _ (by simp [put_len])
  have e7 : chkCap ([97] ++ put 0 4 ++ [119] ++ put 0 4 ++ [111] ++ put 0 4) = some () := by unfold chkCap; rw [if_pos (by simp [put_len, capL])]
  simp only [e1, e2, e3, e4, e5, e6, e7, Option.bind_some]
  rw [Of_eq _ (by simp [put_len]), Option.bind_some]
end Go.Proofs.YtobhmahlenjheaaM

/- Law AttrBack. -/
import Derived.Test.YtlpiiifmidehjaaDoorP22
set_option linter.unusedVariables false
set_option linter.unusedSimpArgs false
set_option maxRecDepth 1000000
namespace Go.Proofs.YtlpiiifmidehjaaDoorM
open Go Go.RowKit

theorem i64_id {x : Int} (h1 : -9223372036854775808 ≤ x) (h2 : x < 9223372036854775808) : IntKind.i64.wrap x = x := by
  first
  | exact wrap_i64 h1 h2
  | exact wrap_i64 (by omega) (by omega)
theorem shr_i64 {x : Int} {n : Nat} (h0 : 0 ≤ x) (hn : n < 64) : shrI x .i64 (n : Int) = some (x / 2 ^ n) := by
  unfold shrI
  rw [if_neg (by omega)]
  have : min (n : Int).toNat IntKind.i64.bits = n := by show min n 64 = n; omega
  rw [this, Int.fdiv_eq_ediv_of_nonneg _ (by exact Int.le_of_lt (Int.pow_pos (by omega)))]
theorem quo_i64 {x y : Int} (h0 : 0 ≤ x) (h1 : x < 9223372036854775808) (hy : 0 < y) : quoI .i64 x y = some (x / y) := by
  unfold quoI
  rw [if_neg (by omega), Int.tdiv_eq_ediv_of_nonneg h0]
  have h2 : 0 ≤ x / y := Int.ediv_nonneg h0 (by omega)
  have h3 : x / y ≤ x := Int.ediv_le_self _ h0
  rw [i64_id (by omega) (by omega)]
theorem rem_nn {x y : Int} (h0 : 0 ≤ x) (hy : 0 < y) : remI x y = some (x % y) := by
  unfold remI
  rw [if_neg (by omega), Int.tmod_eq_emod_of_nonneg h0]
theorem and_mask {x : Int} (k : Nat) (hk : k < 63) (h0 : 0 ≤ x) (h1 : x < 9223372036854775808) : andI .i64 x ((2 ^ k - 1 : Nat) : Int) = x % (2 ^ k : Nat) := by
  unfold andI
  obtain ⟨n, rfl⟩ := Int.eq_ofNat_of_zero_le h0
  have hp : 2 ^ k < 2 ^ 63 := Nat.pow_lt_pow_right (by omega) hk
  have e1 : (BitVec.ofInt IntKind.i64.bits (n : Int) &&& BitVec.ofInt IntKind.i64.bits ((2 ^ k - 1 : Nat) : Int)).toNat = n % 2 ^ k := by
    show (BitVec.ofInt 64 (n : Int) &&& BitVec.ofInt 64 ((2 ^ k - 1 : Nat) : Int)).toNat = _
    rw [BitVec.ofInt_natCast, BitVec.ofInt_natCast, BitVec.toNat_and, BitVec.toNat_ofNat, BitVec.toNat_ofNat, Nat.mod_eq_of_lt (by omega), Nat.mod_eq_of_lt (by omega), Nat.and_two_pow_sub_one_eq_mod]
  rw [e1]
  have h2 : n % 2 ^ k < 2 ^ k := Nat.mod_lt _ (Nat.pow_pos (by omega))
  rw [i64_id (by omega) (by omega)]
  simp

def attrF (M O T sz : Int) (d b3 b8 b4 b0 bz : Bool) : ((List UInt8) × (Bool × ((List UInt8) × (Int × (Int × Unit))))) × (Int × Unit) :=
  bif b3 then
    (bif !b8 && !b4 && !b0 then (([], false, [], 0, 0, ()), 12, ())
     else bif (b8 && d) || (b4 && !d) then (([], false, [], 0, 0, ()), 2, ())
     else bif d && !bz then (([], false, [], 0, 0, ()), 2, ()) else (([], d, [], O / 65536 % 512, T, ()), 0, ()))
  else bif d && !bz then (([], false, [], 0, 0, ()), 2, ()) else (([], d, [], (bif d then 493 else 420), T, ()), 0, ())
def attrR (M O T sz : Int) (d : Bool) := attrF M O T sz d (M / 256 == 3) (O / 268435456 == 8) (O / 268435456 == 4) (O / 268435456 == 0) (sz == 0)
section
variable {α β γ : Type}
theorem bind_cg {a a' : Option α} {f : α → Option β} (h : a = a') : a.bind f = a'.bind f := by rw [h]
theorem cond_cg {c c' : Bool} {a b : α} (h : c = c') : cond c a b = cond c' a b := by rw [h]
theorem sumK_cg {x x' : α ⊕ β} {f : α → Option γ} {g : β → Option γ} (h : x = x') : sumK x f g = sumK x' f g := by rw [h]
theorem uI {x : α} {f : α → Option γ} {g : β → Option γ} : sumK (.inl x) f g = f x := Eq.trans (Eq.refl _) (Eq.refl _)
theorem uR {x : β} {f : α → Option γ} {g : β → Option γ} : sumK (.inr x) f g = g x := Eq.trans (Eq.refl _) (Eq.refl _)
theorem bne_not (a b : Int) : (a != b) = !(a == b) := Eq.trans (Eq.refl _) (Eq.refl _)
end

def bringI (n most : Int) : Int := minI (maxI n 0) most
theorem bring_range (n most : Int) (h : 0 ≤ most) : 0 ≤ bringI n most ∧ bringI n most ≤ most := by
  unfold bringI minI maxI
  split <;> split <;> omega

theorem bring_id {n most : Int} (h1 : 0 ≤ n) (h2 : n ≤ most) : bringI n most = n := by
  unfold bringI minI maxI
  split <;> split <;> omega
theorem bring_eq (n m : Int) : F_attr_bring n m = some (bringI n m, ()) := by unfold bringI; exact (Eq.refl _)

section
attribute [local congr] bind_cg cond_cg sumK_cg
variable (made need flags method time crc packed size inner outer offset : Int) (name extra comment : List UInt8)
theorem of_eq (hs : (name.length : Int) ≤ 101) : F_attr_Of (made, need, flags, method, time, crc, packed, size, inner, outer, offset, name, extra, comment, ()) =
    some (attrR (bringI made 65535) (bringI outer 4294967295) (bringI time 4294967295) size (ends name)) := by
  unfold F_attr_Of
  obtain ⟨m1, m2⟩ := bring_range made 65535 (by omega)
  obtain ⟨o1, o2⟩ := bring_range outer 4294967295 (by omega)
  unfold attrR
  have q1 : shrI (bringI made 65535) .i64 8 = some (bringI made 65535 / 256) := shr_i64 (n := 8) m1 (by omega)
  have q2 : shrI (bringI outer 4294967295) .i64 16 = some (bringI outer 4294967295 / 65536) := shr_i64 (n := 16) o1 (by omega)
  have q3 : shrI (bringI outer 4294967295) .i64 28 = some (bringI outer 4294967295 / 268435456) := shr_i64 (n := 28) o1 (by omega)
  have q4 : andI .i64 (bringI outer 4294967295 / 65536) 511 = bringI outer 4294967295 / 65536 % 512 := and_mask 9 (by omega) (by omega) (by omega)
  have hE := suffix_eq name (by omega)
  generalize ends name = d at *
  have hz : ∃ bz, (size == 0) = bz := ⟨_, rfl⟩
  have h3 : ∃ bz, (bringI made 65535 / 256 == 3) = bz := ⟨_, rfl⟩
  have h8 : ∃ bz, (bringI outer 4294967295 / 268435456 == 8) = bz := ⟨_, rfl⟩
  have h4 : ∃ bz, (bringI outer 4294967295 / 268435456 == 4) = bz := ⟨_, rfl⟩
  have h0 : ∃ bz, (bringI outer 4294967295 / 268435456 == 0) = bz := ⟨_, rfl⟩
  obtain ⟨bz, hz⟩ := hz; obtain ⟨b3, h3⟩ := h3; obtain ⟨b8, h8⟩ := h8; obtain ⟨b4, h4⟩ := h4; obtain ⟨b0, h0⟩ := h0
  cases d <;> cases b3 <;> cases b8 <;> cases b4 <;> cases b0 <;> cases bz <;>
    simp only [↓vS, ↓vT, ↓vF, ↓uI, ↓uR, bring_eq, hE, q1, q2, q3, q4, hz, h3, h8, h4, h0, bne_not, vS, vT, vF, Bool.not_true, Bool.not_false, uI, uR, attrF, Bool.true_and, Bool.false_and, Bool.and_false, Bool.and_true, Bool.or_true, Bool.or_false, Bool.false_or, Bool.true_or]

end
/-! ### What a node's header is -/
def hi7 (p : Txt) : Bool := p.any fun b => decide (127 < b.toNat)
def restR (dir : Bool) (data : Txt) (mode time : Int) : Bool := decide (0 ≤ mode ∧ mode ≤ 511 ∧ 0 ≤ time ∧ time ≤ 4294967295) && (!dir || data == [])
abbrev HdrT : Type := Int × Int × Int × Int × Int × Int × Int × Int × Int × Int × Int × Txt × Txt × Txt × Unit
def hdr0 : HdrT := (0, 0, 0, 0, 0, 0, 0, 0, 0, 0, 0, [], [], [], ())
def outerR (dir : Bool) (mode : Int) : Int := bif dir then 1073741824 + mode * 65536 + 16 else 2147483648 + mode * 65536
def nameR (dir : Bool) (path : Txt) : Txt := bif dir then path ++ [47] else path
def flagR (path : Txt) : Int := bif hi7 path then 2048 else 0
def headR (path : Txt) (dir : Bool) (data : Txt) (mode time : Int) : HdrT × Int × Unit :=
  if (okP path && restR dir data mode time) = true then ((798, 20, flagR path, 0, time, 0, 0, 0, 0, outerR dir mode, 0, nameR dir path, [], [], ()), 0, ()) else (hdr0, 1, ())

theorem rest_eq (path : Txt) (dir : Bool) (data : Txt) (mode time : Int) : F_tree_rest (path, dir, data, mode, time, ()) = some (restR dir data mode time, ()) := by
  unfold F_tree_rest restR
  simp only
  by_cases h1 : mode ≥ 0
  · by_cases h2 : mode ≤ 511
    · by_cases h3 : time ≥ 0
      · by_cases h4 : time ≤ 4294967295
        · rw [decide_eq_true h1, decide_eq_true h2, decide_eq_true h3, decide_eq_true h4, decide_eq_true (⟨h1, h2, h3, h4⟩ : 0 ≤ mode ∧ mode ≤ 511 ∧ 0 ≤ time ∧ time ≤ 4294967295)]
          cases dir <;> rfl
        · rw [decide_eq_true h1, decide_eq_true h2, decide_eq_true h3, decide_eq_false h4, decide_eq_false (fun h => h4 h.2.2.2 : ¬ (0 ≤ mode ∧ mode ≤ 511 ∧ 0 ≤ time ∧ time ≤ 4294967295))]; rfl
      · rw [decide_eq_true h1, decide_eq_true h2, decide_eq_false h3, decide_eq_false (fun h => h3 h.2.2.1 : ¬ (0 ≤ mode ∧ mode ≤ 511 ∧ 0 ≤ time ∧ time ≤ 4294967295))]; rfl
    · rw [decide_eq_true h1, decide_eq_false h2, decide_eq_false (fun h => h2 h.2.1 : ¬ (0 ≤ mode ∧ mode ≤ 511 ∧ 0 ≤ time ∧ time ≤ 4294967295))]; rfl
  · rw [decide_eq_false h1, decide_eq_false (fun h => h1 h.1 : ¬ (0 ≤ mode ∧ mode ≤ 511 ∧ 0 ≤ time ∧ time ≤ 4294967295))]; rfl
theorem may_eq (path : Txt) (dir : Bool) (data : Txt) (mode time : Int) (hp : path.length ≤ 100000) : F_tree_May (path, dir, data, mode, time, ()) = some (okP path && restR dir data mode time, ()) := by
  unfold F_tree_May
  rw [check_eq path hp, rest_eq]
  cases okP path <;> rfl
theorem refMay_eq (path : Txt) (dir : Bool) (data : Txt) (mode time : Int) (hp : path.length ≤ 100000) : F_ref15_May (path, dir, data, mode, time, ()) = some (okP path, restR dir data mode time, ()) := by
  unfold F_ref15_May restR
  rw [right_eq path hp]
  simp only
  by_cases h1 : mode ≥ 0
  · by_cases h2 : mode ≤ 511
    · by_cases h3 : time ≥ 0
      · by_cases h4 : time ≤ 4294967295
        · rw [decide_eq_true h1, decide_eq_true h2, decide_eq_true h3, decide_eq_true h4, decide_eq_true (⟨h1, h2, h3, h4⟩ : 0 ≤ mode ∧ mode ≤ 511 ∧ 0 ≤ time ∧ time ≤ 4294967295)]
          cases dir <;> rfl
        · rw [decide_eq_true h1, decide_eq_true h2, decide_eq_true h3, decide_eq_false h4, decide_eq_false (fun h => h4 h.2.2.2 : ¬ (0 ≤ mode ∧ mode ≤ 511 ∧ 0 ≤ time ∧ time ≤ 4294967295))]; rfl
      · rw [decide_eq_true h1, decide_eq_true h2, decide_eq_false h3, decide_eq_false (fun h => h3 h.2.2.1 : ¬ (0 ≤ mode ∧ mode ≤ 511 ∧ 0 ≤ time ∧ time ≤ 4294967295))]; rfl
    · rw [decide_eq_true h1, decide_eq_false h2, decide_eq_false (fun h => h2 h.2.1 : ¬ (0 ≤ mode ∧ mode ≤ 511 ∧ 0 ≤ time ∧ time ≤ 4294967295))]; rfl
  · rw [decide_eq_false h1, decide_eq_false (fun h => h1 h.1 : ¬ (0 ≤ mode ∧ mode ≤ 511 ∧ 0 ≤ time ∧ time ≤ 4294967295))]; rfl

theorem any_drop {α : Type} {f : α → Bool} {l : List α} {k : Nat} (hk : k < l.length) : (l.drop k).any f = (f l[k] || (l.drop (k + 1)).any f) := by
  rw [List.drop_eq_getElem_cons hk, List.any_cons]
theorem containsHi_eq (s : Txt) (hs : s.length ≤ 100000) (hv : vld s = true) : F_strings_ContainsFunc__attr_Head_1 s = some (hi7 s, ()) := by
  have key := iter_inv (step := fun v0 : Txt × Int × Unit => bif decide (v0.2.1 < (v0.1.length : Int)) then ((F_attr_Head_1 (oDecR v0.1 v0.2.1)).bind fun v1 => bif v1.1 == true then (some (.inr (.inl v0.2))) else (some (.inl (v0.1, (oDecN v0.1 v0.2.1, ()))))) else (some (.inr (Sum.inr ()))))
    (fun st : Txt × Int × Unit => ∃ k : Nat, st = (s, (k : Int), ()) ∧ k ≤ s.length ∧ vld (s.drop k) = true ∧ hi7 (s.drop k) = hi7 s) (fun st => s.length - st.2.1.toNat)
    (fun r : (Int × Unit) ⊕ Unit => match r with | .inl x => 0 ≤ x.1 ∧ hi7 s = true | .inr _ => hi7 s = false) (by
      rintro _ ⟨k, rfl, h1, h2, h3⟩
      by_cases hk : k < s.length
      · have c1 : decide ((k : Int) < (s.length : Int)) = true := decide_eq_true (by omega)
        have hz := vld_ne hk h2
        have hle := szU_le (s.drop k)
        rw [List.length_drop] at hle
        simp only [c1, cond_true, oDecR, oDecN, Int.toNat_natCast]
        have hfst : ∀ {b : UInt8}, s[k]? = some b → b = s[k] := fun h => by rw [List.getElem?_eq_getElem hk] at h; exact (Option.some.inj h).symm
        rcases decode_eq s k with h0 | ⟨d1, ⟨d2, b, d3, d4, d5⟩ | ⟨d2, d3, b, d4, d5⟩⟩
        · exact absurd h0 hz
        · left
          have e : F_attr_Head_1 (((Utf8.decode ⟨⟨s⟩⟩ k).1 : Nat) : Int) = some (false, ()) := by
            unfold F_attr_Head_1; rw [decide_eq_false (by omega)]
          rw [e]
          refine ⟨(s, (k : Int) + (Utf8.decode ⟨⟨s⟩⟩ k).2, ()), by simp, ⟨k + szU (s.drop k), ?_, by omega, ?_, ?_⟩, ?_⟩
          · rw [d1]; simp
          · rw [← vld_go hz]; exact h2
          · rw [← h3, d2]
            have hb := hfst d3
            unfold hi7
            rw [any_drop hk, ← hb, decide_eq_false (by omega), Bool.false_or]
          · rw [d1]; simp only; omega
        · right
          have e : F_attr_Head_1 (((Utf8.decode ⟨⟨s⟩⟩ k).1 : Nat) : Int) = some (true, ()) := by
            unfold F_attr_Head_1; rw [decide_eq_true (by omega)]
          rw [e]
          refine ⟨.inl ((k : Int), ()), by simp, by simp, ?_⟩
          rw [← h3]
          have hb := hfst d4
          unfold hi7
          rw [any_drop hk, ← hb, decide_eq_true (by omega), Bool.true_or]
      · right
        have c1 : decide ((k : Int) < (s.length : Int)) = false := decide_eq_false (by omega)
        refine ⟨.inr (), by simp only [c1, cond_false], ?_⟩
        rw [List.drop_of_length_le (by omega)] at h3
        rw [← h3]; rfl) NF (s, 0, ()) ⟨0, rfl, Nat.zero_le _, hv, rfl⟩ (by rw [NF_eq]; simp; omega)
  obtain ⟨r, e, q⟩ := key
  unfold F_strings_ContainsFunc__attr_Head_1 F_strings_IndexFunc__attr_Head_1 F_strings_indexFunc__attr_Head_1
  rw [e]
  rcases r with x | x
  · have : decide (x.1 ≥ 0) = true := decide_eq_true q.1
    simp only [Option.bind_some, sumK, this, q.2]
  · simp only at q
    simp only [Option.bind_some, sumK, q]; rfl

theorem hiLoop2 {σ : Type} (S : Int → σ) (path : Txt) (hl : path.length ≤ 100000) (step : Int × σ → Option ((Int × σ) ⊕ σ))
    (h : ∀ (k f : Int), step (k, S f) = bif decide (k < (path.length : Int)) then (((idxS path k).bind fun v3 => bif decide (v3 > 127) then some (S 2048) else some (S f)).bind fun v4 => some (.inl (IntKind.i64.wrap (k + 1), v4))) else some (.inr (S f))) :
    iter step NF ((0 : Int), S 0) = some (S (bif hi7 path then 2048 else 0)) := by
  have key := iter_inv (step := step)
    (fun st : Int × σ => ∃ k : Nat, st = ((k : Int), S (bif hi7 (path.take k) then 2048 else 0)) ∧ k ≤ path.length) (fun st => path.length - st.1.toNat) (fun r : σ => r = S (bif hi7 path then 2048 else 0)) (by
      rintro _ ⟨k, rfl, g1⟩
      rw [h]
      by_cases hk : k < path.length
      · left
        have c1 : decide ((k : Int) < (path.length : Int)) = true := decide_eq_true (by omega)
        rw [c1, cond_true, idxS_nat hk, Option.bind_some, w64 (x := (k : Int) + 1) (by omega) (by omega)]
        have ht : hi7 (path.take (k + 1)) = (hi7 (path.take k) || decide (127 < path[k].toNat)) := by
          unfold hi7; rw [List.take_succ_eq_append_getElem hk, List.any_append]; simp
        by_cases hb : 127 < path[k].toNat
        · have c2 : decide ((path[k].toNat : Int) > 127) = true := decide_eq_true (by omega)
          refine ⟨((k : Int) + 1, S 2048), by rw [c2, cond_true, Option.bind_some], ⟨k + 1, ?_, by omega⟩, by simp only; omega⟩
          rw [ht, decide_eq_true hb, Bool.or_true]; rfl
        · have c2 : decide ((path[k].toNat : Int) > 127) = false := decide_eq_false (by omega)
          refine ⟨((k : Int) + 1, S (bif hi7 (path.take k) then 2048 else 0)), by rw [c2, cond_false, Option.bind_some], ⟨k + 1, ?_, by omega⟩, by simp only; omega⟩
          rw [ht, decide_eq_false hb, Bool.or_false]; rfl
      · right
        have c1 : decide ((k : Int) < (path.length : Int)) = false := decide_eq_false (by omega)
        refine ⟨_, by rw [c1, cond_false], ?_⟩
        rw [List.take_of_length_le (by omega)]) NF (0, S 0) ⟨0, by simp [hi7], Nat.zero_le _⟩ (by rw [NF_eq]; simp; omega)
  obtain ⟨_, e, rfl⟩ := key
  exact e

theorem or_i64 {a b : Nat} (ha : a < 2 ^ 62) (hb : b < 2 ^ 62) : orI .i64 (a : Int) (b : Int) = ((a ||| b : Nat) : Int) := by
  unfold orI
  have h := Nat.or_lt_two_pow ha hb
  have e : (BitVec.ofInt IntKind.i64.bits (a : Int) ||| BitVec.ofInt IntKind.i64.bits (b : Int)).toNat = a ||| b := by
    show (BitVec.ofInt 64 (a : Int) ||| BitVec.ofInt 64 (b : Int)).toNat = _
    rw [BitVec.ofInt_natCast, BitVec.ofInt_natCast, BitVec.toNat_or, BitVec.toNat_ofNat, BitVec.toNat_ofNat, Nat.mod_eq_of_lt (by omega), Nat.mod_eq_of_lt (by omega)]
  rw [e, i64_id (by omega) (by omega)]
theorem outer_or {m : Nat} (h : m ≤ 511) : orI .i64 2147483648 ((m : Int) * 65536) = 2147483648 + (m : Int) * 65536 ∧ orI .i64 (orI .i64 1073741824 ((m : Int) * 65536)) 16 = 1073741824 + (m : Int) * 65536 + 16 := by
  have e1 : ((m : Int) * 65536) = ((m * 65536 : Nat) : Int) := by simp
  have o1 : (2147483648 ||| m * 65536 : Nat) = 2147483648 + m * 65536 := by
    have := Nat.two_pow_add_eq_or_of_lt (i := 31) (b := m * 65536) (by omega) 1
    rw [show (2 : Nat) ^ 31 * 1 = 2147483648 from rfl] at this; exact this.symm
  have o2 : (1073741824 ||| m * 65536 : Nat) = 1073741824 + m * 65536 := by
    have := Nat.two_pow_add_eq_or_of_lt (i := 30) (b := m * 65536) (by omega) 1
    rw [show (2 : Nat) ^ 30 * 1 = 1073741824 from rfl] at this; exact this.symm
  have o3 : (1073741824 + m * 65536 ||| 16 : Nat) = 1073741824 + m * 65536 + 16 := by
    have := Nat.two_pow_add_eq_or_of_lt (i := 16) (b := 16) (by decide) (16384 + m)
    rw [show (2 : Nat) ^ 16 * (16384 + m) = 1073741824 + m * 65536 from by omega] at this; exact this.symm
  constructor
  · rw [e1]
    have := or_i64 (a := 2147483648) (b := m * 65536) (by omega) (by omega)
    rw [show ((2147483648 : Nat) : Int) = 2147483648 from rfl] at this
    rw [this, o1]; simp
  · rw [e1]
    have := or_i64 (a := 1073741824) (b := m * 65536) (by omega) (by omega)
    rw [show ((1073741824 : Nat) : Int) = 1073741824 from rfl] at this
    rw [this, o2]
    have := or_i64 (a := 1073741824 + m * 65536) (b := 16) (by omega) (by omega)
    rw [show ((16 : Nat) : Int) = 16 from rfl] at this
    rw [this, o3]; simp
theorem shl16 {m : Nat} (h : m ≤ 511) : shlI .i64 (m : Int) 16 = some ((m : Int) * 65536) := by
  unfold shlI
  rw [if_neg (by omega)]
  have : min (16 : Int).toNat IntKind.i64.bits = 16 := rfl
  rw [this, i64_id (by omega) (by omega)]
  rfl

section
attribute [local congr] bind_cg cond_cg sumK_cg
theorem head_eq (path : Txt) (dir : Bool) (data : Txt) (mode time : Int) (hp : path.length ≤ 90000) : F_attr_Head (path, dir, data, mode, time, ()) = some (headR path dir data mode time) := by
  unfold F_attr_Head headR
  rw [may_eq path dir data mode time (by omega)]
  cases hm : (okP path && restR dir data mode time) with
  | false => rfl
  | true =>
    have hok : okP path = true := by simp only [Bool.and_eq_true] at hm; exact hm.1
    have hr : restR dir data mode time = true := by simp only [Bool.and_eq_true] at hm; exact hm.2
    simp only [restR, Bool.and_eq_true, decide_eq_true_eq] at hr
    obtain ⟨⟨r1, r2, r3, r4⟩, r5⟩ := hr
    obtain ⟨m, rfl⟩ := Int.eq_ofNat_of_zero_le r1
    obtain ⟨o1, o2⟩ := outer_or (m := m) (by omega)
    have hc := containsHi_eq path (by omega) ((okP_iff _).1 hok).2.2.1
    have ec := cat_eq path [47] (by simp; omega)
    have es := shl16 (m := m) (by omega)
    unfold outerR nameR flagR
    generalize hi7 path = b at *
    cases dir <;> cases b <;> simp only [↓vS, ↓vT, ↓vF, Bool.not_true, vF, vS, vT, es, hc, ec, o1, o2, if_true]
abbrev RefS : Type := Txt × Bool × Txt × Int × Int × Int × Int × Int × Int × Int × Int × Int × Int × Int × Int × Int × Txt × Txt × Txt × HdrT
theorem refLoop (path : Txt) (dir : Bool) (data : Txt) (mode time outer : Int) (hp : path.length ≤ 90000) : iter (fun v2 : Int × RefS => bif decide (v2.1 < (v2.2.1.length : Int)) then (((idxS v2.2.1 v2.1).bind fun v3 => bif decide (v3 > 127) then (some (v2.2.1, (v2.2.2.1, (v2.2.2.2.1, (v2.2.2.2.2.1, (v2.2.2.2.2.2.1, (v2.2.2.2.2.2.2.1, (v2.2.2.2.2.2.2.2.1, (v2.2.2.2.2.2.2.2.2.1, (v2.2.2.2.2.2.2.2.2.2.1, (v2.2.2.2.2.2.2.2.2.2.2.1, (v2.2.2.2.2.2.2.2.2.2.2.2.1, (v2.2.2.2.2.2.2.2.2.2.2.2.2.1, (v2.2.2.2.2.2.2.2.2.2.2.2.2.2.1, (v2.2.2.2.2.2.2.2.2.2.2.2.2.2.2.1, (v2.2.2.2.2.2.2.2.2.2.2.2.2.2.2.2.1, (v2.2.2.2.2.2.2.2.2.2.2.2.2.2.2.2.2.1, (v2.2.2.2.2.2.2.2.2.2.2.2.2.2.2.2.2.2.1, (v2.2.2.2.2.2.2.2.2.2.2.2.2.2.2.2.2.2.2.1, (v2.2.2.2.2.2.2.2.2.2.2.2.2.2.2.2.2.2.2.2.1, (v2.2.2.2.2.2.2.2.2.2.2.2.2.2.2.2.2.2.2.2.2.1, (v2.2.2.2.2.2.2.2.2.2.2.2.2.2.2.2.2.2.2.2.2.2.1, ((2048 : Int), v2.2.2.2.2.2.2.2.2.2.2.2.2.2.2.2.2.2.2.2.2.2.2.2))))))))))))))))))))))) else (some v2.2)).bind fun v4 => some (.inl (IntKind.i64.wrap (v2.1 + 1), v4))) else (some (Sum.inr v2.2))) NF ((0 : Int), (path, dir, data, mode, time, 0, 0, 0, 0, 0, 0, 0, 0, 0, 0, 0, [], [], [], 798, 20, 0, 0, time, 0, 0, 0, 0, outer, 0, path, [], [], ())) = some (path, dir, data, mode, time, 0, 0, 0, 0, 0, 0, 0, 0, 0, 0, 0, [], [], [], 798, 20, (bif hi7 path then 2048 else 0), 0, time, 0, 0, 0, 0, outer, 0, path, [], [], ()) := by
  exact hiLoop2 (σ := RefS) (fun f => (path, dir, data, mode, time, 0, 0, 0, 0, 0, 0, 0, 0, 0, 0, 0, [], [], [], 798, 20, f, 0, time, 0, 0, 0, 0, outer, 0, path, [], [], ())) path (by omega) _ (fun k f => Eq.refl _)
theorem refHead_eq (path : Txt) (dir : Bool) (data : Txt) (mode time : Int) (hp : path.length ≤ 90000) : F_ref21_Head (path, dir, data, mode, time, ()) = some (headR path dir data mode time) := by
  unfold F_ref21_Head headR
  rw [refMay_eq path dir data mode time (by omega)]
  cases hok : okP path with
  | false => rfl
  | true =>
    cases hr : restR dir data mode time with
    | false => rfl
    | true =>
      simp only [restR, Bool.and_eq_true, decide_eq_true_eq] at hr
      obtain ⟨⟨r1, r2, r3, r4⟩, r5⟩ := hr
      have ec := cat_eq path [47] (by simp; omega)
      have w1 : IntKind.i64.wrap (mode * 65536) = mode * 65536 := i64_id (by omega) (by omega)
      have w2 : IntKind.i64.wrap (2147483648 + mode * 65536) = 2147483648 + mode * 65536 := i64_id (by omega) (by omega)
      have w3 : IntKind.i64.wrap (1073741824 + mode * 65536) = 1073741824 + mode * 65536 := i64_id (by omega) (by omega)
      have w4 : IntKind.i64.wrap (1073741824 + mode * 65536 + 16) = 1073741824 + mode * 65536 + 16 := i64_id (by omega) (by omega)
      simp only [↓vS, ↓vT, ↓vF, Bool.not_true, vF, vS, vT, w1, w2, Bool.and_self, if_true]
      rw [refLoop path dir data mode time _ hp]
      unfold outerR nameR flagR
      generalize hi7 path = b at *
      cases dir <;> cases b <;> simp only [↓vS, ↓vT, ↓vF, vF, vS, vT, ec, w1, w3, w4]
end
theorem of_head (path : Txt) (dir : Bool) (data : Txt) (mode time : Int) (hp : path.length ≤ 100) (h : (headR path dir data mode time).2.1 = 0) :
    F_attr_Of (headR path dir data mode time).1 = some (([], dir, [], mode, time, ()), 0, ()) := by
  unfold headR at h ⊢
  cases hm : (okP path && restR dir data mode time) with
  | false => rw [hm] at h; cases h
  | true =>
    have hok : okP path = true := by simp only [Bool.and_eq_true] at hm; exact hm.1
    have hr : restR dir data mode time = true := by simp only [Bool.and_eq_true] at hm; exact hm.2
    simp only [restR, Bool.and_eq_true, decide_eq_true_eq] at hr
    obtain ⟨⟨r1, r2, r3, r4⟩, r5⟩ := hr
    rw [if_pos rfl]
    show F_attr_Of (798, 20, flagR path, 0, time, 0, 0, 0, 0, outerR dir mode, 0, nameR dir path, [], [], ()) = _
    have hen : ends (nameR dir path) = dir := by
      unfold nameR
      cases dir with
      | true => exact ends_slash path
      | false => exact okP_ends hok
    have hlen : ((nameR dir path).length : Int) ≤ 101 := by
      unfold nameR; cases dir <;> simp <;> omega
    have ho : 0 ≤ outerR dir mode ∧ outerR dir mode ≤ 4294967295 := by unfold outerR; cases dir <;> simp only [cond_true, cond_false] <;> omega
    rw [of_eq (hs := hlen), bring_id (n := 798) (by omega) (by omega), bring_id ho.1 ho.2, bring_id r3 r4, hen]
    unfold attrR
    have k1 : (798 : Int) / 256 = 3 := rfl
    have k2 : outerR dir mode / 65536 % 512 = mode := by unfold outerR; cases dir <;> simp only [cond_true, cond_false] <;> omega
    have k3 : outerR dir mode / 268435456 = bif dir then 4 else 8 := by unfold outerR; cases dir <;> simp only [cond_true, cond_false] <;> omega
    rw [k1, k3]
    unfold attrF
    rw [k2]
    cases dir <;> rfl

theorem awake21 : F_law21_awake = some (true, ()) := by kernel_rfl
theorem true_law21_AttrBack (n : Txt × Bool × Txt × Int × Int × Unit) : F_law21_AttrBack n = some (true, ()) := by
  obtain ⟨path, dir, data, mode, time, u⟩ := n
  unfold F_law21_AttrBack
  rw [awake21]
  simp only [vS, Bool.not_true, vF]
  by_cases h1 : (path.length : Int) > 100
  · rw [decide_eq_true h1, vT]
  by_cases h2 : (data.length : Int) > 100
  · rw [decide_eq_false h1, decide_eq_true h2, vF, vT]
  rw [decide_eq_false h1, decide_eq_false h2, vF, vF]
  rw [head_eq path dir data mode time (by omega), refHead_eq path dir data mode time (by omega), vS, vS]
  have hof := of_head path dir data mode time
  have b1 : ∀ x : Txt, (x == x) = true := fun x => beq_self_eq_true x
  have b2 : ∀ x : Int, (x == x) = true := fun x => beq_self_eq_true x
  have b3 : ∀ x : Int, (x != x) = false := fun x => by simp
  have b4 : ∀ x : Bool, (x == x) = true := fun x => beq_self_eq_true x
  generalize headR path dir data mode time = R at *
  simp only [b1, b2, b3, Bool.and_self, Bool.not_true, vF]
  by_cases h0 : R.2.1 = 0
  · have e0 : (R.2.1 != 0) = false := by rw [h0]; rfl
    rw [e0, vF, hof (by omega) h0, vS]
    simp only [b1, b2, b4, vT, Bool.and_self, vS]
  · have e0 : (R.2.1 != 0) = true := by rw [bne_iff_ne]; exact h0
    rw [e0, vT]
end Go.Proofs.YtlpiiifmidehjaaDoorM

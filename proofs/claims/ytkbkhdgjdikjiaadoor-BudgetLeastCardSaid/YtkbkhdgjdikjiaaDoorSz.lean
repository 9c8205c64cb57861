/- Rules for formulas. Own text of the prover; nothing is assumed. -/
import Derived.Test.YtkbkhdgjdikjiaaDoorSy
namespace Go.SV

/-- One step of a formula, found by its form. -/
class Stp (G : Prop) (S : outParam Prop) : Prop where
  go : S → G
/-- What a condition says. -/
class Sts (G : Prop) (P S : outParam Prop) : Prop where
  go : P → S → G
class Stu (G : Prop) (S : outParam Prop) : Prop where
  go : S → G
class Cnd (t : Bool) (p : outParam Prop) : Prop where
  iff : t = true ↔ p
instance (p : Prop) [Decidable p] : Cnd (decide p) p := ⟨decide_eq_true_iff⟩
instance (a b : Int) : Cnd (a == b) (a = b) := ⟨beq_iff_eq⟩
instance (a b : List UInt8) : Cnd (a == b) (a = b) := ⟨beq_iff_eq⟩

theorem gP_i {m : Option AV} {v : AV} {k : AV → Prop} (h : m = some v) (hk : k v) : gP m k := ⟨v, h, hk⟩
theorem hP_i {m : Option AH} {v : AH} {k : AH → Prop} (h : m = some v) (hk : k v) : hP m k := ⟨v, h, hk⟩
theorem sP_i {m : Option (AV × AH)} {v : AV} {H : AH} {k : AV → AH → Prop} (h : m = some (v, H)) (hk : k v H) : sP m k := ⟨v, H, h, hk⟩
theorem a_i {z : List AV} {H : AH} {k : AV → AH → Prop} (h : k (.ptr H.obs.length 0) (H.push (.cells z))) : aP z H k := ⟨h⟩
theorem j_i {n : Nat} {f : Cur n} {g : Cur n → Prop} (h : g f) : jP n f g := ⟨h⟩
theorem c_i {D : Den} {key : Nat} {as : List AV} {H : AH} {k Q : AV → AH → Prop} (hc : ∃ v H', D key as H = some (v, H') ∧ Q v H') (h : ∀ v H', Q v H' → k v H') : cP D key as H k := by
  obtain ⟨v, H', h1, h2⟩ := hc
  exact ⟨v, H', h1, h v H' h2⟩
theorem v_i {D : Den} {ver kk : Nat} {first cap as : List AV} {H : AH} {k : AV → AH → Prop} (hk : kk < 100000) (h : cP D (kk + ver * 100000) (first ++ as ++ cap) H k) : vP D ver (.fn (.func kk) first cap) as H k := ⟨kk, first, cap, rfl, hk, h⟩

/-! ### Reading out of turn -/
theorem same_ld {n : Option Nat} {v : AV} {H1 H2 : AH} (h : ∀ b, blkOf v = some b → H1.get b = H2.get b) : sameR (.load n (.cst v)) H1 H2 := by
  simp only [sameR, aop, Opd.ev]
  have : aLoad n v H1 = aLoad n v H2 := by
    unfold aLoad
    split
    · rename_i b o; rw [h b rfl]
    · rfl
    · rfl
  rw [this]
  cases aLoad n v H2 <;> rfl
theorem same_vp {n : Option Nat} {cs : List AV} {H1 H2 : AH} : sameR (.load n (.cst (.vp cs))) H1 H2 := same_ld fun b h => by simp [blkOf] at h
theorem same_len {k : LK} {v : AV} {H1 H2 : AH} (h : ∀ b, blkOf v = some b → H1.get b = H2.get b) : sameR (.len k (.cst v)) H1 H2 := by
  simp only [sameR, aop, Opd.ev]
  have : aLen k v H1 = aLen k v H2 := by
    unfold aLen
    cases k <;> cases v <;> first | rfl | (simp only; rw [h _ rfl])
  rw [this]
  cases aLen k v H2 <;> rfl

/-! ### Joins, with what holds there -/
theorem j0 {f : Cur 0} {g : Cur 0 → Prop} (I : AH → Prop) (h1 : ∀ H, I H → f H) (h2 : ∀ j : AH → Prop, (∀ H, I H → j H) → g j) : jP 0 f g := ⟨h2 f h1⟩
theorem j1 {f : Cur 1} {g : Cur 1 → Prop} (I : AV → AH → Prop) (h1 : ∀ a H, I a H → f a H) (h2 : ∀ j : AV → AH → Prop, (∀ a H, I a H → j a H) → g j) : jP 1 f g := ⟨h2 f h1⟩
theorem j2 {f : Cur 2} {g : Cur 2 → Prop} (I : AV → AV → AH → Prop) (h1 : ∀ a b H, I a b H → f a b H) (h2 : ∀ j : AV → AV → AH → Prop, (∀ a b H, I a b H → j a b H) → g j) : jP 2 f g := ⟨h2 f h1⟩
theorem j3 {f : Cur 3} {g : Cur 3 → Prop} (I : AV → AV → AV → AH → Prop) (h1 : ∀ a b c H, I a b c H → f a b c H) (h2 : ∀ j : AV → AV → AV → AH → Prop, (∀ a b c H, I a b c H → j a b c H) → g j) : jP 3 f g := ⟨h2 f h1⟩
theorem j4 {f : Cur 4} {g : Cur 4 → Prop} (I : AV → AV → AV → AV → AH → Prop) (h1 : ∀ a b c d H, I a b c d H → f a b c d H) (h2 : ∀ j : AV → AV → AV → AV → AH → Prop, (∀ a b c d H, I a b c d H → j a b c d H) → g j) : jP 4 f g := ⟨h2 f h1⟩

/-! ### Loops -/
theorem l0 {F : Cur 0 → Cur 0} {H : AH} (I : Nat → AH → Prop) (k0 : Nat) (h0 : I k0 H) (h : ∀ k H, I k H → F (fun H => ∃ m, m < k ∧ I m H) H) : lP 0 F [] H := ⟨I, k0, h0, h⟩
theorem l1 {F : Cur 1 → Cur 1} {a : AV} {H : AH} (I : Nat → AV → AH → Prop) (k0 : Nat) (h0 : I k0 a H) (h : ∀ k a H, I k a H → F (fun a H => ∃ m, m < k ∧ I m a H) a H) : lP 1 F [a] H := ⟨I, k0, h0, h⟩
theorem l2 {F : Cur 2 → Cur 2} {a b : AV} {H : AH} (I : Nat → AV → AV → AH → Prop) (k0 : Nat) (h0 : I k0 a b H) (h : ∀ k a b H, I k a b H → F (fun a b H => ∃ m, m < k ∧ I m a b H) a b H) : lP 2 F [a, b] H := ⟨I, k0, h0, h⟩
theorem l3 {F : Cur 3 → Cur 3} {a b c : AV} {H : AH} (I : Nat → AV → AV → AV → AH → Prop) (k0 : Nat) (h0 : I k0 a b c H) (h : ∀ k a b c H, I k a b c H → F (fun a b c H => ∃ m, m < k ∧ I m a b c H) a b c H) : lP 3 F [a, b, c] H := ⟨I, k0, h0, h⟩
theorem l4 {F : Cur 4 → Cur 4} {a b c d : AV} {H : AH} (I : Nat → AV → AV → AV → AV → AH → Prop) (k0 : Nat) (h0 : I k0 a b c d H) (h : ∀ k a b c d H, I k a b c d H → F (fun a b c d H => ∃ m, m < k ∧ I m a b c d H) a b c d H) : lP 4 F [a, b, c, d] H := ⟨I, k0, h0, h⟩
theorem l5 {F : Cur 5 → Cur 5} {a b c d e : AV} {H : AH} (I : Nat → AV → AV → AV → AV → AV → AH → Prop) (k0 : Nat) (h0 : I k0 a b c d e H) (h : ∀ k a b c d e H, I k a b c d e H → F (fun a b c d e H => ∃ m, m < k ∧ I m a b c d e H) a b c d e H) : lP 5 F [a, b, c, d, e] H := ⟨I, k0, h0, h⟩

/-! ### Conditions -/
theorem i_i {t : Bool} {A B : Prop} (h1 : t = true → A) (h2 : t = false → B) : iP (.bool t) A B := ⟨t, rfl, h1, h2⟩
theorem i_T {t : Bool} {A B : Prop} (ht : t = true) (h : A) : iP (.bool t) A B := ⟨t, rfl, fun _ => h, fun hf => by rw [ht] at hf; simp at hf⟩
theorem i_F {t : Bool} {A B : Prop} (ht : t = false) (h : B) : iP (.bool t) A B := ⟨t, rfl, fun hf => by rw [ht] at hf; simp at hf, fun _ => h⟩
theorem i_dec {p : Prop} [Decidable p] {A B : Prop} (h1 : p → A) (h2 : ¬p → B) : iP (.bool (decide p)) A B := i_i (fun h => h1 (by simpa using h)) fun h => h2 (by simpa using h)
theorem i_decT {p : Prop} [Decidable p] {A B : Prop} (hp : p) (h : A) : iP (.bool (decide p)) A B := i_T (by simpa using hp) h
theorem i_decF {p : Prop} [Decidable p] {A B : Prop} (hp : ¬p) (h : B) : iP (.bool (decide p)) A B := i_F (by simpa using hp) h
theorem i_int {a b : Int} {A B : Prop} (h1 : a = b → A) (h2 : a ≠ b → B) : iP (.bool (a == b)) A B := i_i (fun h => h1 (by simpa using h)) fun h => h2 (by simpa using h)
theorem i_intT {a b : Int} {A B : Prop} (hp : a = b) (h : A) : iP (.bool (a == b)) A B := i_T (by simpa using hp) h
theorem i_intF {a b : Int} {A B : Prop} (hp : a ≠ b) (h : B) : iP (.bool (a == b)) A B := i_F (by simpa using hp) h
theorem i_str {a b : List UInt8} {A B : Prop} (h1 : a = b → A) (h2 : a ≠ b → B) : iP (.bool (a == b)) A B := i_i (fun h => h1 (by simpa using h)) fun h => h2 (by simpa using h)
theorem i_strT {a b : List UInt8} {A B : Prop} (hp : a = b) (h : A) : iP (.bool (a == b)) A B := i_T (by simpa using hp) h
theorem i_strF {a b : List UInt8} {A B : Prop} (hp : a ≠ b) (h : B) : iP (.bool (a == b)) A B := i_F (by simpa using hp) h
theorem i_c {t : Bool} {p : Prop} [c : Cnd t p] {A B : Prop} (h1 : p → A) (h2 : ¬p → B) : iP (.bool t) A B := i_i (fun h => h1 (c.iff.1 h)) fun h => h2 fun hp => by rw [c.iff.2 hp] at h; cases h
theorem i_cT {t : Bool} {p : Prop} [c : Cnd t p] {A B : Prop} (hp : p) (h : A) : iP (.bool t) A B := i_T (c.iff.2 hp) h
theorem i_cF {t : Bool} {p : Prop} [c : Cnd t p] {A B : Prop} (hp : ¬p) (h : B) : iP (.bool t) A B := i_i (fun ht => absurd (c.iff.1 ht) hp) fun _ => h
theorem i_not {t : Bool} {A B : Prop} (h : iP (.bool t) B A) : iP (.bool (!t)) A B := by
  obtain ⟨u, hu, h1, h2⟩ := h
  cases hu
  exact i_i (fun h => h2 (by simpa using h)) fun h => h1 (by simpa using h)
theorem i_bne {a b : Int} {A B : Prop} (h : iP (.bool (a == b)) B A) : iP (.bool (a != b)) A B := i_not h
theorem d_t {v : AV} {A B : Prop} (h : iP v A B) : dP v true A B := h
theorem d_f {v : AV} {A B : Prop} (h : iP v B A) : dP v false A B := by
  obtain ⟨t, ht, h1, h2⟩ := h
  exact ⟨t, ht, h2, h1⟩
theorem p_T {t : Bool} {x y : AV} {k : AV → Prop} (ht : t = true) (h : k x) : pP (.bool t) x y k := ⟨t, rfl, by rw [if_pos ht]; exact h⟩
theorem p_F {t : Bool} {x y : AV} {k : AV → Prop} (ht : t = false) (h : k y) : pP (.bool t) x y k := ⟨t, rfl, by rw [ht]; exact h⟩

/-! ### Operations -/
section
variable {k : AV → Prop} {H : AH}
theorem g_add {κ : IntKind} {a b : Int} (h : k (.int κ (κ.wrap (a + b)))) : gP (aBin .add (.int κ a) (.int κ b)) k := gP_i (by simp [aBin, isShift, aInt]) h
theorem g_sub {κ : IntKind} {a b : Int} (h : k (.int κ (κ.wrap (a - b)))) : gP (aBin .sub (.int κ a) (.int κ b)) k := gP_i (by simp [aBin, isShift, aInt]) h
theorem g_mul {κ : IntKind} {a b : Int} (h : k (.int κ (κ.wrap (a * b)))) : gP (aBin .mul (.int κ a) (.int κ b)) k := gP_i (by simp [aBin, isShift, aInt]) h
theorem g_add64 {a b : Int} (hb : -(2 ^ 63) ≤ a + b ∧ a + b < 2 ^ 63) (h : k (.int .i64 (a + b))) : gP (aBin .add (.int .i64 a) (.int .i64 b)) k := g_add (by rw [wrap_small hb]; exact h)
theorem g_sub64 {a b : Int} (hb : -(2 ^ 63) ≤ a - b ∧ a - b < 2 ^ 63) (h : k (.int .i64 (a - b))) : gP (aBin .sub (.int .i64 a) (.int .i64 b)) k := g_sub (by rw [wrap_small hb]; exact h)
theorem g_mul64 {a b : Int} (hb : -(2 ^ 63) ≤ a * b ∧ a * b < 2 ^ 63) (h : k (.int .i64 (a * b))) : gP (aBin .mul (.int .i64 a) (.int .i64 b)) k := g_mul (by rw [wrap_small hb]; exact h)
theorem g_quo {κ : IntKind} {a b : Int} (hb : b ≠ 0) (h : k (.int κ (κ.wrap (a.tdiv b)))) : gP (aBin .quo (.int κ a) (.int κ b)) k := gP_i (by simp [aBin, isShift, aInt, hb]) h
theorem g_rem {κ : IntKind} {a b : Int} (hb : b ≠ 0) (h : k (.int κ (a.tmod b))) : gP (aBin .rem (.int κ a) (.int κ b)) k := gP_i (by simp [aBin, isShift, aInt, hb]) h
theorem g_eql {κ : IntKind} {a b : Int} (h : k (.bool (a == b))) : gP (aBin .eql (.int κ a) (.int κ b)) k := gP_i (by simp [aBin, isShift, aInt]) h
theorem g_neq {κ : IntKind} {a b : Int} (h : k (.bool (!(a == b)))) : gP (aBin .neq (.int κ a) (.int κ b)) k := gP_i (by simp [aBin, isShift, aInt]; rfl) h
theorem g_lss {κ : IntKind} {a b : Int} (h : k (.bool (decide (a < b)))) : gP (aBin .lss (.int κ a) (.int κ b)) k := gP_i (by simp [aBin, isShift, aInt]) h
theorem g_leq {κ : IntKind} {a b : Int} (h : k (.bool (decide (a ≤ b)))) : gP (aBin .leq (.int κ a) (.int κ b)) k := gP_i (by simp [aBin, isShift, aInt]) h
theorem g_gtr {κ : IntKind} {a b : Int} (h : k (.bool (decide (a > b)))) : gP (aBin .gtr (.int κ a) (.int κ b)) k := gP_i (by simp [aBin, isShift, aInt]) h
theorem g_geq {κ : IntKind} {a b : Int} (h : k (.bool (decide (a ≥ b)))) : gP (aBin .geq (.int κ a) (.int κ b)) k := gP_i (by simp [aBin, isShift, aInt]) h
theorem g_seq {a b : List UInt8} (h : k (.bool (a == b))) : gP (aBin .eql (.str a) (.str b)) k := gP_i rfl h
theorem g_sne {a b : List UInt8} (h : k (.bool (!(a == b)))) : gP (aBin .neq (.str a) (.str b)) k := gP_i rfl h
theorem g_cat {a b : List UInt8} (hl : a.length + b.length ≤ 2 ^ 62) (h : k (.str (a ++ b))) : gP (aBin .add (.str a) (.str b)) k := gP_i (by simp only [aBin, aStr, if_pos hl]) h
theorem g_not {b : Bool} (h : k (.bool (!b))) : gP (aNot (.bool b)) k := gP_i rfl h
theorem g_cv {κ κ' : IntKind} {n : Int} (h : k (.int κ (κ.wrap n))) : gP (aCv κ (.int κ' n)) k := gP_i rfl h
theorem g_cv64 {κ' : IntKind} {n : Int} (hb : -(2 ^ 63) ≤ n ∧ n < 2 ^ 63) (h : k (.int .i64 n)) : gP (aCv .i64 (.int κ' n)) k := g_cv (by rw [wrap_small hb]; exact h)
theorem g_lenS {l : List UInt8} (h : k (.int .i64 l.length)) : gP (aLen .str (.str l) H) k := gP_i rfl h
theorem g_lenN (h : k (.int .i64 0)) : gP (aLen .row .nils H) k := gP_i rfl h
theorem g_lenL {t s : Nat} {xs : List AV} (h : k (.int .i64 xs.length)) : gP (aLen .row (.sl t s xs) H) k := gP_i rfl h
theorem g_lenR {b o n s : Nat} (h : k (.int .i64 n)) : gP (aLen .row (.slr b o n s) H) k := gP_i rfl h
theorem g_faP {o b p : Nat} (h : k (.ptr b (p + o))) : gP (aFieldAddr o (.ptr b p)) k := gP_i rfl h
theorem g_faV {o : Nat} {cs : List AV} (hl : o ≤ cs.length) (h : k (.vp (cs.drop o))) : gP (aFieldAddr o (.vp cs)) k := gP_i (by simp only [aFieldAddr, if_pos hl]) h
theorem g_byte {l : List UInt8} {κ : IntKind} {n : Int} {b : UInt8} (h0 : 0 ≤ n) (hb : l[n.toNat]? = some b) (h : k (.int .u8 b.toNat)) : gP (aIdxStr (.str l) (.int κ n)) k :=
  gP_i (by simp only [aIdxStr, if_pos h0, hb, Option.map_some]) h
theorem g_from {l : List UInt8} {κ : IntKind} {i : Int} (hb : 0 ≤ i ∧ i ≤ l.length) (h : k (.str (l.drop i.toNat))) : gP (aSlcS (.str l) (some (.int κ i)) none) k :=
  gP_i (by simp only [aSlcS, aSlice, if_pos hb, Option.map_some, List.take_length]) h
theorem g_upto {l : List UInt8} {κ : IntKind} {j : Int} (hb : 0 ≤ j ∧ j ≤ l.length) (h : k (.str (l.take j.toNat))) : gP (aSlcS (.str l) none (some (.int κ j))) k :=
  gP_i (by simp only [aSlcS, aSlice, if_pos hb, Option.map_some, List.drop_zero]) h
theorem g_part {l : List UInt8} {κ κ' : IntKind} {i j : Int} (hb : 0 ≤ j ∧ j ≤ l.length ∧ 0 ≤ i ∧ i ≤ j) (h : k (.str ((l.take j.toNat).drop i.toNat))) : gP (aSlcS (.str l) (some (.int κ i)) (some (.int κ' j))) k :=
  gP_i (by simp only [aSlcS, aSlice, if_pos hb, Option.map_some]) h
theorem g_nilP {b o : Nat} (h : k (.ptr b o)) : gP (aNilck (.ptr b o)) k := gP_i rfl h
theorem g_nilV {cs : List AV} (h : k (.vp cs)) : gP (aNilck (.vp cs)) k := gP_i rfl h
theorem g_nilF {f : Nat} {xs ys : List AV} (h : k (.fn (.func f) xs ys)) : gP (aNilck (.fn (.func f) xs ys)) k := gP_i rfl h

/-- Reading of cells that are written no more. -/
theorem g_ldV {cs : List AV} {v : AV} (hv : cs[0]? = some v) (h : k v) : gP (aLoad none (.vp cs) H) k := gP_i hv h
theorem g_ldVN {n : Nat} {cs : List AV} (hl : n ≤ cs.length) (h : k (.agg (cs.take n))) : gP (aLoad (some n) (.vp cs) H) k := gP_i (by simp only [aLoad, if_pos hl]) h
theorem g_ld1 {b o : Nat} {c : List AV} {v : AV} (hc : H.get b = .cells c) (hv : c[o]? = some v) (h : k v) : gP (aLoad none (.ptr b o) H) k := gP_i (by simp only [aLoad, hc, hv]) h
theorem g_ldN {n b o : Nat} {c : List AV} (hc : H.get b = .cells c) (hl : o + n ≤ c.length) (h : k (.agg ((c.drop o).take n))) : gP (aLoad (some n) (.ptr b o) H) k := gP_i (by simp only [aLoad, hc, if_pos hl]) h
theorem g_agg1 {o : Nat} {cs : List AV} {v : AV} (hv : cs[o]? = some v) (h : k v) : gP (aField o none (.agg cs)) k := gP_i hv h
theorem g_aggN {o n : Nat} {cs : List AV} (hl : o + n ≤ cs.length) (h : k (.agg ((cs.drop o).take n))) : gP (aField o (some n) (.agg cs)) k := gP_i (by simp only [aField, part, if_pos hl]) h
theorem g_ext {i : Nat} {vs : List AV} {v : AV} (hv : vs[i]? = some v) (h : k v) : gP (aExtract i (.tup vs)) k := gP_i hv h
end

/-! ### Memory -/
def AH.put (H : AH) (b : Nat) (o : AObj) : AH := ⟨H.obs.set b o, H.toks⟩

theorem put_get {H : AH} {b : Nat} {o : AObj} (hb : b < H.obs.length) (c : Nat) : (H.put b o).get c = if c = b then o else H.get c := by
  simp only [AH.put, AH.get, List.getElem?_set]
  by_cases h : b = c
  · subst h; simp [hb]
  · rw [if_neg h, if_neg (fun e => h e.symm)]
theorem put_len (H : AH) (b : Nat) (o : AObj) : (H.put b o).obs.length = H.obs.length := by simp [AH.put]
theorem put_push (H : AH) (o o' : AObj) : (H.push o).put H.obs.length o' = H.push o' := by simp [AH.put, AH.push]

theorem h_st {n b o : Nat} {x : AV} {H : AH} {c : List AV} {k : AH → Prop} (hc : H.get b = .cells c) (h1 : x.def? = true) (h2 : x.cells.length = n) (h3 : x.cells.all AV.isCell = true) (h4 : o + n ≤ c.length)
    (h : k (H.put b (.cells (splice c o x.cells)))) : hP (aStore n (.ptr b o) x H) k :=
  hP_i (by simp only [aStore, hc, h1, h2, h3, h4, beq_self_eq_true, Bool.and_self, decide_true, if_true]; rfl) h

theorem h_top {n o : Nat} {x : AV} {H : AH} {c c' : List AV} {k : AH → Prop} (h1 : x.def? = true) (h2 : x.cells.length = n) (h3 : x.cells.all AV.isCell = true) (h4 : o + n ≤ c.length) (hc : splice c o x.cells = c')
    (h : k (H.push (.cells c'))) : hP (aStore n (.ptr H.obs.length o) x (H.push (.cells c))) k :=
  h_st (c := c) (push_get _ _) h1 h2 h3 h4 (by rw [put_push, hc]; exact h)

theorem push_old {H : AH} {o : AObj} {b : Nat} (h : b < H.obs.length) : (H.push o).get b = H.get b := (Grow.push H o).get h
/-! ### By place -/
section
variable {k : AV → Prop} {H : AH} {l : List AV} {a b c d e f g h : AV}
theorem g_ext0 (hk : k a) : gP (aExtract 0 (.tup (a :: l))) k := gP_i rfl hk
theorem g_fld0 (hk : k a) : gP (aField 0 none (.agg (a :: l))) k := gP_i rfl hk
theorem g_lp0 (hk : k a) : gP (aLoad none (.ptr H.obs.length 0) (H.push (.cells (a :: l)))) k := gP_i (aLoad_push1 H) hk
theorem g_fv0 (hk : k (.vp (l))) : gP (aFieldAddr 0 (.vp (l))) k := g_faV (by simp) (by simpa using hk)
theorem g_ext1 (hk : k b) : gP (aExtract 1 (.tup (a :: b :: l))) k := gP_i rfl hk
theorem g_fld1 (hk : k b) : gP (aField 1 none (.agg (a :: b :: l))) k := gP_i rfl hk
theorem g_lp1 (hk : k b) : gP (aLoad none (.ptr H.obs.length 1) (H.push (.cells (a :: b :: l)))) k := gP_i (aLoad_push1 H) hk
theorem g_fv1 (hk : k (.vp (l))) : gP (aFieldAddr 1 (.vp (a :: l))) k := g_faV (by simp) (by simpa using hk)
theorem g_ext2 (hk : k c) : gP (aExtract 2 (.tup (a :: b :: c :: l))) k := gP_i rfl hk
theorem g_fld2 (hk : k c) : gP (aField 2 none (.agg (a :: b :: c :: l))) k := gP_i rfl hk
theorem g_lp2 (hk : k c) : gP (aLoad none (.ptr H.obs.length 2) (H.push (.cells (a :: b :: c :: l)))) k := gP_i (aLoad_push1 H) hk
theorem g_fv2 (hk : k (.vp (l))) : gP (aFieldAddr 2 (.vp (a :: b :: l))) k := g_faV (by simp) (by simpa using hk)
theorem g_ext3 (hk : k d) : gP (aExtract 3 (.tup (a :: b :: c :: d :: l))) k := gP_i rfl hk
theorem g_fld3 (hk : k d) : gP (aField 3 none (.agg (a :: b :: c :: d :: l))) k := gP_i rfl hk
theorem g_lp3 (hk : k d) : gP (aLoad none (.ptr H.obs.length 3) (H.push (.cells (a :: b :: c :: d :: l)))) k := gP_i (aLoad_push1 H) hk
theorem g_fv3 (hk : k (.vp (l))) : gP (aFieldAddr 3 (.vp (a :: b :: c :: l))) k := g_faV (by simp) (by simpa using hk)
theorem g_ext4 (hk : k e) : gP (aExtract 4 (.tup (a :: b :: c :: d :: e :: l))) k := gP_i rfl hk
theorem g_fld4 (hk : k e) : gP (aField 4 none (.agg (a :: b :: c :: d :: e :: l))) k := gP_i rfl hk
theorem g_lp4 (hk : k e) : gP (aLoad none (.ptr H.obs.length 4) (H.push (.cells (a :: b :: c :: d :: e :: l)))) k := gP_i (aLoad_push1 H) hk
theorem g_fv4 (hk : k (.vp (l))) : gP (aFieldAddr 4 (.vp (a :: b :: c :: d :: l))) k := g_faV (by simp) (by simpa using hk)
theorem g_ext5 (hk : k f) : gP (aExtract 5 (.tup (a :: b :: c :: d :: e :: f :: l))) k := gP_i rfl hk
theorem g_fld5 (hk : k f) : gP (aField 5 none (.agg (a :: b :: c :: d :: e :: f :: l))) k := gP_i rfl hk
theorem g_lp5 (hk : k f) : gP (aLoad none (.ptr H.obs.length 5) (H.push (.cells (a :: b :: c :: d :: e :: f :: l)))) k := gP_i (aLoad_push1 H) hk
theorem g_fv5 (hk : k (.vp (l))) : gP (aFieldAddr 5 (.vp (a :: b :: c :: d :: e :: l))) k := g_faV (by simp) (by simpa using hk)
theorem g_ext6 (hk : k g) : gP (aExtract 6 (.tup (a :: b :: c :: d :: e :: f :: g :: l))) k := gP_i rfl hk
theorem g_fld6 (hk : k g) : gP (aField 6 none (.agg (a :: b :: c :: d :: e :: f :: g :: l))) k := gP_i rfl hk
theorem g_lp6 (hk : k g) : gP (aLoad none (.ptr H.obs.length 6) (H.push (.cells (a :: b :: c :: d :: e :: f :: g :: l)))) k := gP_i (aLoad_push1 H) hk
theorem g_fv6 (hk : k (.vp (l))) : gP (aFieldAddr 6 (.vp (a :: b :: c :: d :: e :: f :: l))) k := g_faV (by simp) (by simpa using hk)
theorem g_ext7 (hk : k h) : gP (aExtract 7 (.tup (a :: b :: c :: d :: e :: f :: g :: h :: l))) k := gP_i rfl hk
theorem g_fld7 (hk : k h) : gP (aField 7 none (.agg (a :: b :: c :: d :: e :: f :: g :: h :: l))) k := gP_i rfl hk
theorem g_lp7 (hk : k h) : gP (aLoad none (.ptr H.obs.length 7) (H.push (.cells (a :: b :: c :: d :: e :: f :: g :: h :: l)))) k := gP_i (aLoad_push1 H) hk
theorem g_fv7 (hk : k (.vp (l))) : gP (aFieldAddr 7 (.vp (a :: b :: c :: d :: e :: f :: g :: l))) k := g_faV (by simp) (by simpa using hk)
theorem g_faP0 {o b : Nat} (hk : k (.ptr b o)) : gP (aFieldAddr o (.ptr b 0)) k := gP_i (by simp [aFieldAddr]) hk
theorem g_ldv (hk : k a) : gP (aLoad none (.vp (a :: l)) H) k := gP_i rfl hk
theorem g_ldv1 (hk : k (.agg [a])) : gP (aLoad (some 1) (.vp [a]) H) k := gP_i rfl hk
theorem g_ln1 (hk : k (.agg [a])) : gP (aLoad (some 1) (.ptr H.obs.length 0) (H.push (.cells [a]))) k := gP_i (by simp [aLoad, push_get]) hk
theorem g_ldv2 (hk : k (.agg [a, b])) : gP (aLoad (some 2) (.vp [a, b]) H) k := gP_i rfl hk
theorem g_ln2 (hk : k (.agg [a, b])) : gP (aLoad (some 2) (.ptr H.obs.length 0) (H.push (.cells [a, b]))) k := gP_i (by simp [aLoad, push_get]) hk
theorem g_ldv3 (hk : k (.agg [a, b, c])) : gP (aLoad (some 3) (.vp [a, b, c]) H) k := gP_i rfl hk
theorem g_ln3 (hk : k (.agg [a, b, c])) : gP (aLoad (some 3) (.ptr H.obs.length 0) (H.push (.cells [a, b, c]))) k := gP_i (by simp [aLoad, push_get]) hk
theorem g_ldv4 (hk : k (.agg [a, b, c, d])) : gP (aLoad (some 4) (.vp [a, b, c, d]) H) k := gP_i rfl hk
theorem g_ln4 (hk : k (.agg [a, b, c, d])) : gP (aLoad (some 4) (.ptr H.obs.length 0) (H.push (.cells [a, b, c, d]))) k := gP_i (by simp [aLoad, push_get]) hk
theorem g_ldv5 (hk : k (.agg [a, b, c, d, e])) : gP (aLoad (some 5) (.vp [a, b, c, d, e]) H) k := gP_i rfl hk
theorem g_ln5 (hk : k (.agg [a, b, c, d, e])) : gP (aLoad (some 5) (.ptr H.obs.length 0) (H.push (.cells [a, b, c, d, e]))) k := gP_i (by simp [aLoad, push_get]) hk
theorem g_ldv6 (hk : k (.agg [a, b, c, d, e, f])) : gP (aLoad (some 6) (.vp [a, b, c, d, e, f]) H) k := gP_i rfl hk
theorem g_ln6 (hk : k (.agg [a, b, c, d, e, f])) : gP (aLoad (some 6) (.ptr H.obs.length 0) (H.push (.cells [a, b, c, d, e, f]))) k := gP_i (by simp [aLoad, push_get]) hk
theorem g_ldv7 (hk : k (.agg [a, b, c, d, e, f, g])) : gP (aLoad (some 7) (.vp [a, b, c, d, e, f, g]) H) k := gP_i rfl hk
theorem g_ln7 (hk : k (.agg [a, b, c, d, e, f, g])) : gP (aLoad (some 7) (.ptr H.obs.length 0) (H.push (.cells [a, b, c, d, e, f, g]))) k := gP_i (by simp [aLoad, push_get]) hk
theorem g_lskip {n : Option Nat} {b o : Nat} {x : AObj} (hb : b < H.obs.length) (hk : gP (aLoad n (.ptr b o) H) k) : gP (aLoad n (.ptr b o) (H.push x)) k := by
  obtain ⟨v, hv, hk⟩ := hk
  exact ⟨v, by simpa only [aLoad, push_old hb] using hv, hk⟩
end

theorem c_eq {D : Den} {key : Nat} {as : List AV} {H H1 : AH} {v : AV} {k : AV → AH → Prop} (hc : D key as H = some (v, H1)) (h : k v H1) : cP D key as H k := ⟨v, H1, hc, h⟩
theorem c_gr {D : Den} {key : Nat} {as : List AV} {H : AH} {v : AV} {k : AV → AH → Prop} (hc : ∃ H', D key as H = some (v, H') ∧ Grow H H') (h : ∀ H', Grow H H' → k v H') : cP D key as H k := by
  obtain ⟨H', h1, h2⟩ := hc
  exact ⟨v, H', h1, h H' h2⟩
theorem eq_of {D : Den} {key : Nat} {as : List AV} {H : AH} {r : AV} (h : ∃ v H', D key as H = some (v, H') ∧ v = r ∧ H' = H) : D key as H = some (r, H) := by
  obtain ⟨v, H', h1, rfl, rfl⟩ := h; exact h1
theorem gr_of {D : Den} {key : Nat} {as : List AV} {H : AH} {r : AV} (h : ∃ v H', D key as H = some (v, H') ∧ v = r ∧ Grow H H') : ∃ H', D key as H = some (r, H') ∧ Grow H H' := by
  obtain ⟨v, H', h1, rfl, h2⟩ := h; exact ⟨H', h1, h2⟩
theorem gr_eq {D : Den} {key : Nat} {as : List AV} {H : AH} {r : AV} (h : D key as H = some (r, H)) : ∃ H', D key as H = some (r, H') ∧ Grow H H' := ⟨H, h, .refl H⟩

/-! ### The steps, by their forms -/
section
variable {k : AV → Prop} {H : AH} {l : List AV} {a b c d e f g h : AV}
instance {κ : IntKind} {a b : Int} : Stp (gP (aBin .eql (.int κ a) (.int κ b)) k) (k (.bool (a == b))) := ⟨g_eql⟩
instance {κ : IntKind} {a b : Int} : Stp (gP (aBin .neq (.int κ a) (.int κ b)) k) (k (.bool (!(a == b)))) := ⟨g_neq⟩
instance {a b : List UInt8} : Stp (gP (aBin .eql (.str a) (.str b)) k) (k (.bool (a == b))) := ⟨g_seq⟩
instance {a b : List UInt8} : Stp (gP (aBin .neq (.str a) (.str b)) k) (k (.bool (!(a == b)))) := ⟨g_sne⟩
instance {κ : IntKind} {a b : Int} : Stp (gP (aBin .lss (.int κ a) (.int κ b)) k) (k (.bool (decide (a < b)))) := ⟨g_lss⟩
instance {κ : IntKind} {a b : Int} : Stp (gP (aBin .leq (.int κ a) (.int κ b)) k) (k (.bool (decide (a ≤ b)))) := ⟨g_leq⟩
instance {κ : IntKind} {a b : Int} : Stp (gP (aBin .gtr (.int κ a) (.int κ b)) k) (k (.bool (decide (a > b)))) := ⟨g_gtr⟩
instance {κ : IntKind} {a b : Int} : Stp (gP (aBin .geq (.int κ a) (.int κ b)) k) (k (.bool (decide (a ≥ b)))) := ⟨g_geq⟩
instance {v : AV} {A B : Prop} : Stp (dP v true A B) (iP v A B) := ⟨d_t⟩
instance {v : AV} {A B : Prop} : Stp (dP v false A B) (iP v B A) := ⟨d_f⟩
instance {t : Bool} {A B : Prop} : Stp (iP (.bool (!t)) A B) (iP (.bool t) B A) := ⟨i_not⟩
instance {b : Bool} : Stp (gP (aNot (.bool b)) k) (k (.bool (!b))) := ⟨g_not⟩
instance {l : List UInt8} : Stp (gP (aLen .str (.str l) H) k) (k (.int .i64 l.length)) := ⟨g_lenS⟩
instance {t s : Nat} {xs : List AV} : Stp (gP (aLen .row (.sl t s xs) H) k) (k (.int .i64 xs.length)) := ⟨g_lenL⟩
instance  : Stp (gP (aLen .row .nils H) k) (k (.int .i64 0)) := ⟨g_lenN⟩
instance {b o n s : Nat} : Stp (gP (aLen .row (.slr b o n s) H) k) (k (.int .i64 n)) := ⟨g_lenR⟩
instance {o b p : Nat} : Stp (gP (aFieldAddr o (.ptr b p)) k) (k (.ptr b (p + o))) := ⟨g_faP⟩
instance {o b : Nat} : Stp (gP (aFieldAddr o (.ptr b 0)) k) (k (.ptr b o)) := ⟨g_faP0⟩
instance {b o : Nat} : Stp (gP (aNilck (.ptr b o)) k) (k (.ptr b o)) := ⟨g_nilP⟩
instance {cs : List AV} : Stp (gP (aNilck (.vp cs)) k) (k (.vp cs)) := ⟨g_nilV⟩
instance {f : Nat} {xs ys : List AV} : Stp (gP (aNilck (.fn (.func f) xs ys)) k) (k (.fn (.func f) xs ys)) := ⟨g_nilF⟩
instance {z : List AV} {H : AH} {k : AV → AH → Prop} : Stp (aP z H k) (k (.ptr H.obs.length 0) (H.push (.cells z))) := ⟨a_i⟩
instance  : Stp (gP (aLoad none (.vp (a :: l)) H) k) (k a) := ⟨g_ldv⟩
instance  : Stp (gP (aExtract 0 (.tup (a :: l))) k) (k a) := ⟨g_ext0⟩
instance  : Stp (gP (aExtract 1 (.tup (a :: b :: l))) k) (k b) := ⟨g_ext1⟩
instance  : Stp (gP (aExtract 2 (.tup (a :: b :: c :: l))) k) (k c) := ⟨g_ext2⟩
instance  : Stp (gP (aExtract 3 (.tup (a :: b :: c :: d :: l))) k) (k d) := ⟨g_ext3⟩
instance  : Stp (gP (aField 0 none (.agg (a :: l))) k) (k a) := ⟨g_fld0⟩
instance  : Stp (gP (aField 1 none (.agg (a :: b :: l))) k) (k b) := ⟨g_fld1⟩
instance  : Stp (gP (aField 2 none (.agg (a :: b :: c :: l))) k) (k c) := ⟨g_fld2⟩
instance  : Stp (gP (aField 3 none (.agg (a :: b :: c :: d :: l))) k) (k d) := ⟨g_fld3⟩
instance  : Stp (gP (aField 4 none (.agg (a :: b :: c :: d :: e :: l))) k) (k e) := ⟨g_fld4⟩
instance  : Stp (gP (aField 5 none (.agg (a :: b :: c :: d :: e :: f :: l))) k) (k f) := ⟨g_fld5⟩
instance  : Stp (gP (aLoad none (.ptr H.obs.length 0) (H.push (.cells (a :: l)))) k) (k a) := ⟨g_lp0⟩
instance  : Stp (gP (aLoad none (.ptr H.obs.length 1) (H.push (.cells (a :: b :: l)))) k) (k b) := ⟨g_lp1⟩
instance  : Stp (gP (aLoad none (.ptr H.obs.length 2) (H.push (.cells (a :: b :: c :: l)))) k) (k c) := ⟨g_lp2⟩
instance  : Stp (gP (aLoad none (.ptr H.obs.length 3) (H.push (.cells (a :: b :: c :: d :: l)))) k) (k d) := ⟨g_lp3⟩
instance  : Stp (gP (aLoad none (.ptr H.obs.length 4) (H.push (.cells (a :: b :: c :: d :: e :: l)))) k) (k e) := ⟨g_lp4⟩
instance  : Stp (gP (aLoad none (.ptr H.obs.length 5) (H.push (.cells (a :: b :: c :: d :: e :: f :: l)))) k) (k f) := ⟨g_lp5⟩
instance  : Stp (gP (aLoad none (.ptr H.obs.length 6) (H.push (.cells (a :: b :: c :: d :: e :: f :: g :: l)))) k) (k g) := ⟨g_lp6⟩
instance  : Stp (gP (aLoad none (.ptr H.obs.length 7) (H.push (.cells (a :: b :: c :: d :: e :: f :: g :: h :: l)))) k) (k h) := ⟨g_lp7⟩
instance  : Stp (gP (aFieldAddr 0 (.vp (l))) k) (k (.vp (l))) := ⟨g_fv0⟩
instance  : Stp (gP (aFieldAddr 1 (.vp (a :: l))) k) (k (.vp (l))) := ⟨g_fv1⟩
instance  : Stp (gP (aFieldAddr 2 (.vp (a :: b :: l))) k) (k (.vp (l))) := ⟨g_fv2⟩
instance  : Stp (gP (aFieldAddr 3 (.vp (a :: b :: c :: l))) k) (k (.vp (l))) := ⟨g_fv3⟩
instance  : Stp (gP (aFieldAddr 4 (.vp (a :: b :: c :: d :: l))) k) (k (.vp (l))) := ⟨g_fv4⟩
instance  : Stp (gP (aFieldAddr 5 (.vp (a :: b :: c :: d :: e :: l))) k) (k (.vp (l))) := ⟨g_fv5⟩
instance  : Stp (gP (aLoad (some 1) (.vp [a]) H) k) (k (.agg [a])) := ⟨g_ldv1⟩
instance  : Stp (gP (aLoad (some 2) (.vp [a, b]) H) k) (k (.agg [a, b])) := ⟨g_ldv2⟩
instance  : Stp (gP (aLoad (some 3) (.vp [a, b, c]) H) k) (k (.agg [a, b, c])) := ⟨g_ldv3⟩
instance  : Stp (gP (aLoad (some 4) (.vp [a, b, c, d]) H) k) (k (.agg [a, b, c, d])) := ⟨g_ldv4⟩
instance  : Stp (gP (aLoad (some 5) (.vp [a, b, c, d, e]) H) k) (k (.agg [a, b, c, d, e])) := ⟨g_ldv5⟩
instance  : Stp (gP (aLoad (some 6) (.vp [a, b, c, d, e, f]) H) k) (k (.agg [a, b, c, d, e, f])) := ⟨g_ldv6⟩
instance  : Stp (gP (aLoad (some 7) (.vp [a, b, c, d, e, f, g]) H) k) (k (.agg [a, b, c, d, e, f, g])) := ⟨g_ldv7⟩
instance  : Stp (gP (aLoad (some 1) (.ptr H.obs.length 0) (H.push (.cells [a]))) k) (k (.agg [a])) := ⟨g_ln1⟩
instance  : Stp (gP (aLoad (some 2) (.ptr H.obs.length 0) (H.push (.cells [a, b]))) k) (k (.agg [a, b])) := ⟨g_ln2⟩
instance  : Stp (gP (aLoad (some 3) (.ptr H.obs.length 0) (H.push (.cells [a, b, c]))) k) (k (.agg [a, b, c])) := ⟨g_ln3⟩
instance  : Stp (gP (aLoad (some 4) (.ptr H.obs.length 0) (H.push (.cells [a, b, c, d]))) k) (k (.agg [a, b, c, d])) := ⟨g_ln4⟩
instance  : Stp (gP (aLoad (some 5) (.ptr H.obs.length 0) (H.push (.cells [a, b, c, d, e]))) k) (k (.agg [a, b, c, d, e])) := ⟨g_ln5⟩
instance  : Stp (gP (aLoad (some 6) (.ptr H.obs.length 0) (H.push (.cells [a, b, c, d, e, f]))) k) (k (.agg [a, b, c, d, e, f])) := ⟨g_ln6⟩
instance  : Stp (gP (aLoad (some 7) (.ptr H.obs.length 0) (H.push (.cells [a, b, c, d, e, f, g]))) k) (k (.agg [a, b, c, d, e, f, g])) := ⟨g_ln7⟩
instance {a b : Int} : Sts (gP (aBin .add (.int .i64 a) (.int .i64 b)) k) (-(2 ^ 63) ≤ a + b ∧ a + b < 2 ^ 63) (k (.int .i64 (a + b))) := ⟨g_add64⟩
instance {a b : Int} : Sts (gP (aBin .sub (.int .i64 a) (.int .i64 b)) k) (-(2 ^ 63) ≤ a - b ∧ a - b < 2 ^ 63) (k (.int .i64 (a - b))) := ⟨g_sub64⟩
instance {a b : Int} : Sts (gP (aBin .mul (.int .i64 a) (.int .i64 b)) k) (-(2 ^ 63) ≤ a * b ∧ a * b < 2 ^ 63) (k (.int .i64 (a * b))) := ⟨g_mul64⟩
instance {κ : IntKind} {a b : Int} : Sts (gP (aBin .quo (.int κ a) (.int κ b)) k) (b ≠ 0) (k (.int κ (κ.wrap (a.tdiv b)))) := ⟨g_quo⟩
instance {κ : IntKind} {a b : Int} : Sts (gP (aBin .rem (.int κ a) (.int κ b)) k) (b ≠ 0) (k (.int κ (a.tmod b))) := ⟨g_rem⟩
instance {κ' : IntKind} {n : Int} : Sts (gP (aCv .i64 (.int κ' n)) k) (-(2 ^ 63) ≤ n ∧ n < 2 ^ 63) (k (.int .i64 n)) := ⟨g_cv64⟩
instance {κ : IntKind} {a b : Int} : Stu (gP (aBin .add (.int κ a) (.int κ b)) k) (k (.int κ (κ.wrap (a + b)))) := ⟨g_add⟩
instance {κ : IntKind} {a b : Int} : Stu (gP (aBin .sub (.int κ a) (.int κ b)) k) (k (.int κ (κ.wrap (a - b)))) := ⟨g_sub⟩
instance {κ : IntKind} {a b : Int} : Stu (gP (aBin .mul (.int κ a) (.int κ b)) k) (k (.int κ (κ.wrap (a * b)))) := ⟨g_mul⟩
instance {κ κ' : IntKind} {n : Int} : Stu (gP (aCv κ (.int κ' n)) k) (k (.int κ (κ.wrap n))) := ⟨g_cv⟩
end

/-! ### Walks over texts, and functions as values -/
theorem Grow.put {H H1 : AH} {b : Nat} {o : AObj} (h : Grow H H1) (hb : H.obs.length ≤ b) : Grow H (H1.put b o) := by
  obtain ⟨⟨l, hl⟩, ht⟩ := h
  refine ⟨?_, ht⟩
  simp only [AH.put, hl]
  rw [List.set_append_right _ _ hb]
  exact ⟨_, rfl⟩
theorem Grow.len {H H' : AH} (h : Grow H H') : H.obs.length ≤ H'.obs.length := by
  obtain ⟨⟨l, hl⟩, _⟩ := h
  rw [hl, List.length_append]; omega
theorem Grow.pushed {H H1 : AH} {o : AObj} (h : Grow H H1) : Grow H (H1.push o) := h.trans (.push _ _)

theorem s_range {l : List UInt8} {H : AH} {k : AV → AH → Prop} (h : k (.ptr H.obs.length 0) (H.push (.iter l 0))) : sP (aop [] (.rangeS (.cst (.str l))) H) k := sP_i rfl h
theorem s_next {l : List UInt8} {b pos : Nat} {H : AH} {k : AV → AH → Prop} (hg : H.get b = .iter l pos)
    (h1 : pos < l.length → k (.tup [.bool true, .int .i64 pos, .int .i32 (Utf8.decode ⟨l.toArray⟩ pos).1]) (H.put b (.iter l (pos + (Utf8.decode ⟨l.toArray⟩ pos).2))))
    (h2 : l.length ≤ pos → k (.tup [.bool false]) H) : sP (aop [] (.nextS (.cst (.ptr b 0))) H) k := by
  by_cases h : pos < l.length
  · exact sP_i (by simp only [aop, Opd.ev, hg, if_pos h]; rfl) (h1 h)
  · exact sP_i (by simp only [aop, Opd.ev, hg, if_neg h]) (h2 (by omega))

theorem v_0 {D : Den} {kk : Nat} {as : List AV} {H : AH} {k : AV → AH → Prop} (hk : kk < 100000) (h : cP D kk as H k) : vP D 0 (.fn (.func kk) [] []) as H k := v_i hk (by simpa using h)
theorem v_c {D : Den} {kk : Nat} {as cap l : List AV} {H : AH} {k : AV → AH → Prop} (hk : kk < 100000) (hl : as ++ cap = l) (h : cP D kk l H k) : vP D 0 (.fn (.func kk) [] cap) as H k := v_i hk (by subst hl; simpa using h)
theorem g_eqb {neg a b : Bool} {k : AV → Prop} (h : k (.bool (if neg then !(a == b) else (a == b)))) : gP (aEqv .bool neg (.bool a) (.bool b)) k := gP_i rfl h

theorem decode_pos (s : ByteArray) (pos : Nat) : 0 < (Utf8.decode s pos).2 := by
  unfold Utf8.decode
  simp only
  split
  · exact Nat.succ_pos _
  · split
    · split <;> exact Nat.succ_pos _
    · split
      · split <;> exact Nat.succ_pos _
      · split
        · split <;> exact Nat.succ_pos _
        · exact Nat.succ_pos _

/-- The characters from a place on. -/
def runesF (l : List UInt8) : Nat → Nat → List (Nat × Int)
  | 0, _ => []
  | n + 1, pos => if pos < l.length then (pos, ((Utf8.decode ⟨l.toArray⟩ pos).1 : Int)) :: runesF l n (pos + (Utf8.decode ⟨l.toArray⟩ pos).2) else []
def runes (l : List UInt8) : List (Nat × Int) := runesF l l.length 0

theorem runesF_end {l : List UInt8} {n pos : Nat} (h : l.length ≤ pos) : runesF l n pos = [] := by
  cases n with
  | zero => rfl
  | succ n => rw [runesF, if_neg (by omega)]
theorem runesF_more {l : List UInt8} : ∀ {n pos : Nat} (m : Nat), l.length - pos ≤ n → n ≤ m → runesF l m pos = runesF l n pos := by
  intro n
  induction n with
  | zero => intro pos m h _; rw [runesF_end (by omega), runesF_end (by omega)]
  | succ n ih =>
    intro pos m h hm
    obtain ⟨m, rfl⟩ : ∃ k, m = k + 1 := ⟨m - 1, by omega⟩
    rw [runesF, runesF]
    split
    · have := decode_pos ⟨l.toArray⟩ pos
      rw [ih m (by omega) (by omega)]
    · rfl
theorem runesF_step {l : List UInt8} {n pos : Nat} (h : pos < l.length) (hn : l.length - pos ≤ n) :
    runesF l n pos = (pos, ((Utf8.decode ⟨l.toArray⟩ pos).1 : Int)) :: runesF l (n - 1) (pos + (Utf8.decode ⟨l.toArray⟩ pos).2) := by
  cases n with
  | zero => omega
  | succ n => rw [runesF, if_pos h]; rfl
end Go.SV

/- Rules for formulas. Rows of what stands for values, rows that grow, new cells, functions made: rules for formulas. Maps in the abstract machine, as functions. Own text of the prover; nothing is assumed. -/
import Derived.Test.YtmbaaiifdjoibaaGreatDoorLd
namespace Go.SV

/-- One step of a formula, found by its form. -/
class Stp (G : Prop) (S : outParam Prop) : Prop where
  go : S → G
/-- What a condition says. -/
class Sts (G : Prop) (P S : outParam Prop) : Prop where
  go : P → S → G
class Stu (G : Prop) (S : outParam Prop) : Prop where
  go : S → G
class Cnd (t : Bool) (p : outParam Prop) : Prop where
  iff : t = true ↔ p
instance (p : Prop) [Decidable p] : Cnd (decide p) p := ⟨decide_eq_true_iff⟩
instance (a b : Int) : Cnd (a == b) (a = b) := ⟨beq_iff_eq⟩
instance (a b : List UInt8) : Cnd (a == b) (a = b) := ⟨beq_iff_eq⟩

theorem gP_i {m : Option AV} {v : AV} {k : AV → Prop} (h : m = some v) (hk : k v) : gP m k := ⟨v, h, hk⟩
theorem a_i {z : List AV} {H : AH} {k : AV → AH → Prop} (h : k (.ptr H.obs.length 0) (H.push (.cells z))) : aP z H k := ⟨h⟩
/-! ### Reading out of turn -/
/-! ### Joins, with what holds there -/
/-! ### Loops -/
theorem l0 {F : Cur 0 → Cur 0} {H : AH} (I : Nat → AH → Prop) (k0 : Nat) (h0 : I k0 H) (h : ∀ k H, I k H → F (fun H => ∃ m, m < k ∧ I m H) H) : lP 0 F [] H := ⟨I, k0, h0, h⟩
theorem l1 {F : Cur 1 → Cur 1} {a : AV} {H : AH} (I : Nat → AV → AH → Prop) (k0 : Nat) (h0 : I k0 a H) (h : ∀ k a H, I k a H → F (fun a H => ∃ m, m < k ∧ I m a H) a H) : lP 1 F [a] H := ⟨I, k0, h0, h⟩
theorem l2 {F : Cur 2 → Cur 2} {a b : AV} {H : AH} (I : Nat → AV → AV → AH → Prop) (k0 : Nat) (h0 : I k0 a b H) (h : ∀ k a b H, I k a b H → F (fun a b H => ∃ m, m < k ∧ I m a b H) a b H) : lP 2 F [a, b] H := ⟨I, k0, h0, h⟩
/-! ### Conditions -/
theorem i_i {t : Bool} {A B : Prop} (h1 : t = true → A) (h2 : t = false → B) : iP (.bool t) A B := ⟨t, rfl, h1, h2⟩
theorem i_T {t : Bool} {A B : Prop} (ht : t = true) (h : A) : iP (.bool t) A B := ⟨t, rfl, fun _ => h, fun hf => by rw [ht] at hf; simp at hf⟩
theorem i_F {t : Bool} {A B : Prop} (ht : t = false) (h : B) : iP (.bool t) A B := ⟨t, rfl, fun hf => by rw [ht] at hf; simp at hf, fun _ => h⟩
theorem i_intT {a b : Int} {A B : Prop} (hp : a = b) (h : A) : iP (.bool (a == b)) A B := i_T (by simpa using hp) h
theorem i_c {t : Bool} {p : Prop} [c : Cnd t p] {A B : Prop} (h1 : p → A) (h2 : ¬p → B) : iP (.bool t) A B := i_i (fun h => h1 (c.iff.1 h)) fun h => h2 fun hp => by rw [c.iff.2 hp] at h; cases h
theorem i_not {t : Bool} {A B : Prop} (h : iP (.bool t) B A) : iP (.bool (!t)) A B := by
  obtain ⟨u, hu, h1, h2⟩ := h
  cases hu
  exact i_i (fun h => h2 (by simpa using h)) fun h => h1 (by simpa using h)
theorem d_t {v : AV} {A B : Prop} (h : iP v A B) : dP v true A B := h
theorem d_f {v : AV} {A B : Prop} (h : iP v B A) : dP v false A B := by
  obtain ⟨t, ht, h1, h2⟩ := h
  exact ⟨t, ht, h2, h1⟩
/-! ### Operations -/
section
variable {k : AV → Prop} {H : AH}
theorem g_add {κ : IntKind} {a b : Int} (h : k (.int κ (κ.wrap (a + b)))) : gP (aBin .add (.int κ a) (.int κ b)) k := gP_i (by simp [aBin, isShift, aInt]) h
theorem g_sub {κ : IntKind} {a b : Int} (h : k (.int κ (κ.wrap (a - b)))) : gP (aBin .sub (.int κ a) (.int κ b)) k := gP_i (by simp [aBin, isShift, aInt]) h
theorem g_mul {κ : IntKind} {a b : Int} (h : k (.int κ (κ.wrap (a * b)))) : gP (aBin .mul (.int κ a) (.int κ b)) k := gP_i (by simp [aBin, isShift, aInt]) h
theorem g_add64 {a b : Int} (hb : -(2 ^ 63) ≤ a + b ∧ a + b < 2 ^ 63) (h : k (.int .i64 (a + b))) : gP (aBin .add (.int .i64 a) (.int .i64 b)) k := g_add (by rw [wrap_small hb]; exact h)
theorem g_sub64 {a b : Int} (hb : -(2 ^ 63) ≤ a - b ∧ a - b < 2 ^ 63) (h : k (.int .i64 (a - b))) : gP (aBin .sub (.int .i64 a) (.int .i64 b)) k := g_sub (by rw [wrap_small hb]; exact h)
theorem g_mul64 {a b : Int} (hb : -(2 ^ 63) ≤ a * b ∧ a * b < 2 ^ 63) (h : k (.int .i64 (a * b))) : gP (aBin .mul (.int .i64 a) (.int .i64 b)) k := g_mul (by rw [wrap_small hb]; exact h)
theorem g_quo {κ : IntKind} {a b : Int} (hb : b ≠ 0) (h : k (.int κ (κ.wrap (a.tdiv b)))) : gP (aBin .quo (.int κ a) (.int κ b)) k := gP_i (by simp [aBin, isShift, aInt, hb]) h
theorem g_rem {κ : IntKind} {a b : Int} (hb : b ≠ 0) (h : k (.int κ (a.tmod b))) : gP (aBin .rem (.int κ a) (.int κ b)) k := gP_i (by simp [aBin, isShift, aInt, hb]) h
theorem g_eql {κ : IntKind} {a b : Int} (h : k (.bool (a == b))) : gP (aBin .eql (.int κ a) (.int κ b)) k := gP_i (by simp [aBin, isShift, aInt]) h
theorem g_neq {κ : IntKind} {a b : Int} (h : k (.bool (!(a == b)))) : gP (aBin .neq (.int κ a) (.int κ b)) k := gP_i (by simp [aBin, isShift, aInt]; rfl) h
theorem g_lss {κ : IntKind} {a b : Int} (h : k (.bool (decide (a < b)))) : gP (aBin .lss (.int κ a) (.int κ b)) k := gP_i (by simp [aBin, isShift, aInt]) h
theorem g_leq {κ : IntKind} {a b : Int} (h : k (.bool (decide (a ≤ b)))) : gP (aBin .leq (.int κ a) (.int κ b)) k := gP_i (by simp [aBin, isShift, aInt]) h
theorem g_gtr {κ : IntKind} {a b : Int} (h : k (.bool (decide (a > b)))) : gP (aBin .gtr (.int κ a) (.int κ b)) k := gP_i (by simp [aBin, isShift, aInt]) h
theorem g_geq {κ : IntKind} {a b : Int} (h : k (.bool (decide (a ≥ b)))) : gP (aBin .geq (.int κ a) (.int κ b)) k := gP_i (by simp [aBin, isShift, aInt]) h
theorem g_seq {a b : List UInt8} (h : k (.bool (a == b))) : gP (aBin .eql (.str a) (.str b)) k := gP_i rfl h
theorem g_sne {a b : List UInt8} (h : k (.bool (!(a == b)))) : gP (aBin .neq (.str a) (.str b)) k := gP_i rfl h
theorem g_cat {a b : List UInt8} (hl : a.length + b.length ≤ 2 ^ 62) (h : k (.str (a ++ b))) : gP (aBin .add (.str a) (.str b)) k := gP_i (by simp only [aBin, aStr, if_pos hl]) h
theorem g_not {b : Bool} (h : k (.bool (!b))) : gP (aNot (.bool b)) k := gP_i rfl h
theorem g_cv {κ κ' : IntKind} {n : Int} (h : k (.int κ (κ.wrap n))) : gP (aCv κ (.int κ' n)) k := gP_i rfl h
theorem g_cv64 {κ' : IntKind} {n : Int} (hb : -(2 ^ 63) ≤ n ∧ n < 2 ^ 63) (h : k (.int .i64 n)) : gP (aCv .i64 (.int κ' n)) k := g_cv (by rw [wrap_small hb]; exact h)
theorem g_lenS {l : List UInt8} (h : k (.int .i64 l.length)) : gP (aLen .str (.str l) H) k := gP_i rfl h
theorem g_lenN (h : k (.int .i64 0)) : gP (aLen .row .nils H) k := gP_i rfl h
theorem g_lenL {t s : Nat} {xs : List AV} (h : k (.int .i64 xs.length)) : gP (aLen .row (.sl t s xs) H) k := gP_i rfl h
theorem g_lenR {b o n s : Nat} (h : k (.int .i64 n)) : gP (aLen .row (.slr b o n s) H) k := gP_i rfl h
theorem g_faP {o b p : Nat} (h : k (.ptr b (p + o))) : gP (aFieldAddr o (.ptr b p)) k := gP_i rfl h
theorem g_faV {o : Nat} {cs : List AV} (hl : o ≤ cs.length) (h : k (.vp (cs.drop o))) : gP (aFieldAddr o (.vp cs)) k := gP_i (by simp only [aFieldAddr, if_pos hl]) h
theorem g_byte {l : List UInt8} {κ : IntKind} {n : Int} {b : UInt8} (h0 : 0 ≤ n) (hb : l[n.toNat]? = some b) (h : k (.int .u8 b.toNat)) : gP (aIdxStr (.str l) (.int κ n)) k :=
  gP_i (by simp only [aIdxStr, if_pos h0, hb, Option.map_some]) h
theorem g_nilP {b o : Nat} (h : k (.ptr b o)) : gP (aNilck (.ptr b o)) k := gP_i rfl h
theorem g_nilV {cs : List AV} (h : k (.vp cs)) : gP (aNilck (.vp cs)) k := gP_i rfl h
theorem g_nilF {f : Nat} {xs ys : List AV} (h : k (.fn (.func f) xs ys)) : gP (aNilck (.fn (.func f) xs ys)) k := gP_i rfl h

end

/-! ### Memory -/
def AH.put (H : AH) (b : Nat) (o : AObj) : AH := ⟨H.obs.set b o, H.toks⟩

theorem put_get {H : AH} {b : Nat} {o : AObj} (hb : b < H.obs.length) (c : Nat) : (H.put b o).get c = if c = b then o else H.get c := by
  simp only [AH.put, AH.get, List.getElem?_set]
  by_cases h : b = c
  · subst h; simp [hb]
  · rw [if_neg h, if_neg (fun e => h e.symm)]
theorem put_len (H : AH) (b : Nat) (o : AObj) : (H.put b o).obs.length = H.obs.length := by simp [AH.put]
/-! ### By place -/
section
variable {k : AV → Prop} {H : AH} {l : List AV} {a b c d e f g h : AV}
theorem g_ext0 (hk : k a) : gP (aExtract 0 (.tup (a :: l))) k := gP_i rfl hk
theorem g_fld0 (hk : k a) : gP (aField 0 none (.agg (a :: l))) k := gP_i rfl hk
theorem g_lp0 (hk : k a) : gP (aLoad none (.ptr H.obs.length 0) (H.push (.cells (a :: l)))) k := gP_i (aLoad_push1 H) hk
theorem g_fv0 (hk : k (.vp (l))) : gP (aFieldAddr 0 (.vp (l))) k := g_faV (by simp) (by simpa using hk)
theorem g_ext1 (hk : k b) : gP (aExtract 1 (.tup (a :: b :: l))) k := gP_i rfl hk
theorem g_fld1 (hk : k b) : gP (aField 1 none (.agg (a :: b :: l))) k := gP_i rfl hk
theorem g_lp1 (hk : k b) : gP (aLoad none (.ptr H.obs.length 1) (H.push (.cells (a :: b :: l)))) k := gP_i (aLoad_push1 H) hk
theorem g_fv1 (hk : k (.vp (l))) : gP (aFieldAddr 1 (.vp (a :: l))) k := g_faV (by simp) (by simpa using hk)
theorem g_ext2 (hk : k c) : gP (aExtract 2 (.tup (a :: b :: c :: l))) k := gP_i rfl hk
theorem g_fld2 (hk : k c) : gP (aField 2 none (.agg (a :: b :: c :: l))) k := gP_i rfl hk
theorem g_lp2 (hk : k c) : gP (aLoad none (.ptr H.obs.length 2) (H.push (.cells (a :: b :: c :: l)))) k := gP_i (aLoad_push1 H) hk
theorem g_fv2 (hk : k (.vp (l))) : gP (aFieldAddr 2 (.vp (a :: b :: l))) k := g_faV (by simp) (by simpa using hk)
theorem g_ext3 (hk : k d) : gP (aExtract 3 (.tup (a :: b :: c :: d :: l))) k := gP_i rfl hk
theorem g_fld3 (hk : k d) : gP (aField 3 none (.agg (a :: b :: c :: d :: l))) k := gP_i rfl hk
theorem g_lp3 (hk : k d) : gP (aLoad none (.ptr H.obs.length 3) (H.push (.cells (a :: b :: c :: d :: l)))) k := gP_i (aLoad_push1 H) hk
theorem g_fv3 (hk : k (.vp (l))) : gP (aFieldAddr 3 (.vp (a :: b :: c :: l))) k := g_faV (by simp) (by simpa using hk)
theorem g_fld4 (hk : k e) : gP (aField 4 none (.agg (a :: b :: c :: d :: e :: l))) k := gP_i rfl hk
theorem g_lp4 (hk : k e) : gP (aLoad none (.ptr H.obs.length 4) (H.push (.cells (a :: b :: c :: d :: e :: l)))) k := gP_i (aLoad_push1 H) hk
theorem g_fv4 (hk : k (.vp (l))) : gP (aFieldAddr 4 (.vp (a :: b :: c :: d :: l))) k := g_faV (by simp) (by simpa using hk)
theorem g_fld5 (hk : k f) : gP (aField 5 none (.agg (a :: b :: c :: d :: e :: f :: l))) k := gP_i rfl hk
theorem g_lp5 (hk : k f) : gP (aLoad none (.ptr H.obs.length 5) (H.push (.cells (a :: b :: c :: d :: e :: f :: l)))) k := gP_i (aLoad_push1 H) hk
theorem g_fv5 (hk : k (.vp (l))) : gP (aFieldAddr 5 (.vp (a :: b :: c :: d :: e :: l))) k := g_faV (by simp) (by simpa using hk)
theorem g_lp6 (hk : k g) : gP (aLoad none (.ptr H.obs.length 6) (H.push (.cells (a :: b :: c :: d :: e :: f :: g :: l)))) k := gP_i (aLoad_push1 H) hk
theorem g_lp7 (hk : k h) : gP (aLoad none (.ptr H.obs.length 7) (H.push (.cells (a :: b :: c :: d :: e :: f :: g :: h :: l)))) k := gP_i (aLoad_push1 H) hk
theorem g_faP0 {o b : Nat} (hk : k (.ptr b o)) : gP (aFieldAddr o (.ptr b 0)) k := gP_i (by simp [aFieldAddr]) hk
theorem g_ldv (hk : k a) : gP (aLoad none (.vp (a :: l)) H) k := gP_i rfl hk
theorem g_ldv1 (hk : k (.agg [a])) : gP (aLoad (some 1) (.vp [a]) H) k := gP_i rfl hk
theorem g_ln1 (hk : k (.agg [a])) : gP (aLoad (some 1) (.ptr H.obs.length 0) (H.push (.cells [a]))) k := gP_i (by simp [aLoad, push_get]) hk
theorem g_ldv2 (hk : k (.agg [a, b])) : gP (aLoad (some 2) (.vp [a, b]) H) k := gP_i rfl hk
theorem g_ln2 (hk : k (.agg [a, b])) : gP (aLoad (some 2) (.ptr H.obs.length 0) (H.push (.cells [a, b]))) k := gP_i (by simp [aLoad, push_get]) hk
theorem g_ldv3 (hk : k (.agg [a, b, c])) : gP (aLoad (some 3) (.vp [a, b, c]) H) k := gP_i rfl hk
theorem g_ln3 (hk : k (.agg [a, b, c])) : gP (aLoad (some 3) (.ptr H.obs.length 0) (H.push (.cells [a, b, c]))) k := gP_i (by simp [aLoad, push_get]) hk
theorem g_ldv4 (hk : k (.agg [a, b, c, d])) : gP (aLoad (some 4) (.vp [a, b, c, d]) H) k := gP_i rfl hk
theorem g_ln4 (hk : k (.agg [a, b, c, d])) : gP (aLoad (some 4) (.ptr H.obs.length 0) (H.push (.cells [a, b, c, d]))) k := gP_i (by simp [aLoad, push_get]) hk
theorem g_ldv5 (hk : k (.agg [a, b, c, d, e])) : gP (aLoad (some 5) (.vp [a, b, c, d, e]) H) k := gP_i rfl hk
theorem g_ln5 (hk : k (.agg [a, b, c, d, e])) : gP (aLoad (some 5) (.ptr H.obs.length 0) (H.push (.cells [a, b, c, d, e]))) k := gP_i (by simp [aLoad, push_get]) hk
theorem g_ldv6 (hk : k (.agg [a, b, c, d, e, f])) : gP (aLoad (some 6) (.vp [a, b, c, d, e, f]) H) k := gP_i rfl hk
theorem g_ln6 (hk : k (.agg [a, b, c, d, e, f])) : gP (aLoad (some 6) (.ptr H.obs.length 0) (H.push (.cells [a, b, c, d, e, f]))) k := gP_i (by simp [aLoad, push_get]) hk
theorem g_ldv7 (hk : k (.agg [a, b, c, d, e, f, g])) : gP (aLoad (some 7) (.vp [a, b, c, d, e, f, g]) H) k := gP_i rfl hk
theorem g_ln7 (hk : k (.agg [a, b, c, d, e, f, g])) : gP (aLoad (some 7) (.ptr H.obs.length 0) (H.push (.cells [a, b, c, d, e, f, g]))) k := gP_i (by simp [aLoad, push_get]) hk
end

theorem c_eq {D : Den} {key : Nat} {az : List AV} {H H1 : AH} {v : AV} {k : AV → AH → Prop} (hc : D key az H = some (v, H1)) (h : k v H1) : cP D key az H k := ⟨v, H1, hc, h⟩
theorem eq_of {D : Den} {key : Nat} {az : List AV} {H : AH} {r : AV} (h : ∃ v H', D key az H = some (v, H') ∧ v = r ∧ H' = H) : D key az H = some (r, H) := by
  obtain ⟨v, H', h1, rfl, rfl⟩ := h; exact h1
/-! ### The steps, by their forms -/
section
variable {k : AV → Prop} {H : AH} {l : List AV} {a b c d e f g h : AV}
instance {κ : IntKind} {a b : Int} : Stp (gP (aBin .eql (.int κ a) (.int κ b)) k) (k (.bool (a == b))) := ⟨g_eql⟩
instance {κ : IntKind} {a b : Int} : Stp (gP (aBin .neq (.int κ a) (.int κ b)) k) (k (.bool (!(a == b)))) := ⟨g_neq⟩
instance {a b : List UInt8} : Stp (gP (aBin .eql (.str a) (.str b)) k) (k (.bool (a == b))) := ⟨g_seq⟩
instance {a b : List UInt8} : Stp (gP (aBin .neq (.str a) (.str b)) k) (k (.bool (!(a == b)))) := ⟨g_sne⟩
instance {κ : IntKind} {a b : Int} : Stp (gP (aBin .lss (.int κ a) (.int κ b)) k) (k (.bool (decide (a < b)))) := ⟨g_lss⟩
instance {κ : IntKind} {a b : Int} : Stp (gP (aBin .leq (.int κ a) (.int κ b)) k) (k (.bool (decide (a ≤ b)))) := ⟨g_leq⟩
instance {κ : IntKind} {a b : Int} : Stp (gP (aBin .gtr (.int κ a) (.int κ b)) k) (k (.bool (decide (a > b)))) := ⟨g_gtr⟩
instance {κ : IntKind} {a b : Int} : Stp (gP (aBin .geq (.int κ a) (.int κ b)) k) (k (.bool (decide (a ≥ b)))) := ⟨g_geq⟩
instance {v : AV} {A B : Prop} : Stp (dP v true A B) (iP v A B) := ⟨d_t⟩
instance {v : AV} {A B : Prop} : Stp (dP v false A B) (iP v B A) := ⟨d_f⟩
instance {t : Bool} {A B : Prop} : Stp (iP (.bool (!t)) A B) (iP (.bool t) B A) := ⟨i_not⟩
instance {b : Bool} : Stp (gP (aNot (.bool b)) k) (k (.bool (!b))) := ⟨g_not⟩
instance {l : List UInt8} : Stp (gP (aLen .str (.str l) H) k) (k (.int .i64 l.length)) := ⟨g_lenS⟩
instance {t s : Nat} {xs : List AV} : Stp (gP (aLen .row (.sl t s xs) H) k) (k (.int .i64 xs.length)) := ⟨g_lenL⟩
instance  : Stp (gP (aLen .row .nils H) k) (k (.int .i64 0)) := ⟨g_lenN⟩
instance {b o n s : Nat} : Stp (gP (aLen .row (.slr b o n s) H) k) (k (.int .i64 n)) := ⟨g_lenR⟩
instance {o b p : Nat} : Stp (gP (aFieldAddr o (.ptr b p)) k) (k (.ptr b (p + o))) := ⟨g_faP⟩
instance {o b : Nat} : Stp (gP (aFieldAddr o (.ptr b 0)) k) (k (.ptr b o)) := ⟨g_faP0⟩
instance {b o : Nat} : Stp (gP (aNilck (.ptr b o)) k) (k (.ptr b o)) := ⟨g_nilP⟩
instance {cs : List AV} : Stp (gP (aNilck (.vp cs)) k) (k (.vp cs)) := ⟨g_nilV⟩
instance {f : Nat} {xs ys : List AV} : Stp (gP (aNilck (.fn (.func f) xs ys)) k) (k (.fn (.func f) xs ys)) := ⟨g_nilF⟩
instance {z : List AV} {H : AH} {k : AV → AH → Prop} : Stp (aP z H k) (k (.ptr H.obs.length 0) (H.push (.cells z))) := ⟨a_i⟩
instance  : Stp (gP (aLoad none (.vp (a :: l)) H) k) (k a) := ⟨g_ldv⟩
instance  : Stp (gP (aExtract 0 (.tup (a :: l))) k) (k a) := ⟨g_ext0⟩
instance  : Stp (gP (aExtract 1 (.tup (a :: b :: l))) k) (k b) := ⟨g_ext1⟩
instance  : Stp (gP (aExtract 2 (.tup (a :: b :: c :: l))) k) (k c) := ⟨g_ext2⟩
instance  : Stp (gP (aExtract 3 (.tup (a :: b :: c :: d :: l))) k) (k d) := ⟨g_ext3⟩
instance  : Stp (gP (aField 0 none (.agg (a :: l))) k) (k a) := ⟨g_fld0⟩
instance  : Stp (gP (aField 1 none (.agg (a :: b :: l))) k) (k b) := ⟨g_fld1⟩
instance  : Stp (gP (aField 2 none (.agg (a :: b :: c :: l))) k) (k c) := ⟨g_fld2⟩
instance  : Stp (gP (aField 3 none (.agg (a :: b :: c :: d :: l))) k) (k d) := ⟨g_fld3⟩
instance  : Stp (gP (aField 4 none (.agg (a :: b :: c :: d :: e :: l))) k) (k e) := ⟨g_fld4⟩
instance  : Stp (gP (aField 5 none (.agg (a :: b :: c :: d :: e :: f :: l))) k) (k f) := ⟨g_fld5⟩
instance  : Stp (gP (aLoad none (.ptr H.obs.length 0) (H.push (.cells (a :: l)))) k) (k a) := ⟨g_lp0⟩
instance  : Stp (gP (aLoad none (.ptr H.obs.length 1) (H.push (.cells (a :: b :: l)))) k) (k b) := ⟨g_lp1⟩
instance  : Stp (gP (aLoad none (.ptr H.obs.length 2) (H.push (.cells (a :: b :: c :: l)))) k) (k c) := ⟨g_lp2⟩
instance  : Stp (gP (aLoad none (.ptr H.obs.length 3) (H.push (.cells (a :: b :: c :: d :: l)))) k) (k d) := ⟨g_lp3⟩
instance  : Stp (gP (aLoad none (.ptr H.obs.length 4) (H.push (.cells (a :: b :: c :: d :: e :: l)))) k) (k e) := ⟨g_lp4⟩
instance  : Stp (gP (aLoad none (.ptr H.obs.length 5) (H.push (.cells (a :: b :: c :: d :: e :: f :: l)))) k) (k f) := ⟨g_lp5⟩
instance  : Stp (gP (aLoad none (.ptr H.obs.length 6) (H.push (.cells (a :: b :: c :: d :: e :: f :: g :: l)))) k) (k g) := ⟨g_lp6⟩
instance  : Stp (gP (aLoad none (.ptr H.obs.length 7) (H.push (.cells (a :: b :: c :: d :: e :: f :: g :: h :: l)))) k) (k h) := ⟨g_lp7⟩
instance  : Stp (gP (aFieldAddr 0 (.vp (l))) k) (k (.vp (l))) := ⟨g_fv0⟩
instance  : Stp (gP (aFieldAddr 1 (.vp (a :: l))) k) (k (.vp (l))) := ⟨g_fv1⟩
instance  : Stp (gP (aFieldAddr 2 (.vp (a :: b :: l))) k) (k (.vp (l))) := ⟨g_fv2⟩
instance  : Stp (gP (aFieldAddr 3 (.vp (a :: b :: c :: l))) k) (k (.vp (l))) := ⟨g_fv3⟩
instance  : Stp (gP (aFieldAddr 4 (.vp (a :: b :: c :: d :: l))) k) (k (.vp (l))) := ⟨g_fv4⟩
instance  : Stp (gP (aFieldAddr 5 (.vp (a :: b :: c :: d :: e :: l))) k) (k (.vp (l))) := ⟨g_fv5⟩
instance  : Stp (gP (aLoad (some 1) (.vp [a]) H) k) (k (.agg [a])) := ⟨g_ldv1⟩
instance  : Stp (gP (aLoad (some 2) (.vp [a, b]) H) k) (k (.agg [a, b])) := ⟨g_ldv2⟩
instance  : Stp (gP (aLoad (some 3) (.vp [a, b, c]) H) k) (k (.agg [a, b, c])) := ⟨g_ldv3⟩
instance  : Stp (gP (aLoad (some 4) (.vp [a, b, c, d]) H) k) (k (.agg [a, b, c, d])) := ⟨g_ldv4⟩
instance  : Stp (gP (aLoad (some 5) (.vp [a, b, c, d, e]) H) k) (k (.agg [a, b, c, d, e])) := ⟨g_ldv5⟩
instance  : Stp (gP (aLoad (some 6) (.vp [a, b, c, d, e, f]) H) k) (k (.agg [a, b, c, d, e, f])) := ⟨g_ldv6⟩
instance  : Stp (gP (aLoad (some 7) (.vp [a, b, c, d, e, f, g]) H) k) (k (.agg [a, b, c, d, e, f, g])) := ⟨g_ldv7⟩
instance  : Stp (gP (aLoad (some 1) (.ptr H.obs.length 0) (H.push (.cells [a]))) k) (k (.agg [a])) := ⟨g_ln1⟩
instance  : Stp (gP (aLoad (some 2) (.ptr H.obs.length 0) (H.push (.cells [a, b]))) k) (k (.agg [a, b])) := ⟨g_ln2⟩
instance  : Stp (gP (aLoad (some 3) (.ptr H.obs.length 0) (H.push (.cells [a, b, c]))) k) (k (.agg [a, b, c])) := ⟨g_ln3⟩
instance  : Stp (gP (aLoad (some 4) (.ptr H.obs.length 0) (H.push (.cells [a, b, c, d]))) k) (k (.agg [a, b, c, d])) := ⟨g_ln4⟩
instance  : Stp (gP (aLoad (some 5) (.ptr H.obs.length 0) (H.push (.cells [a, b, c, d, e]))) k) (k (.agg [a, b, c, d, e])) := ⟨g_ln5⟩
instance  : Stp (gP (aLoad (some 6) (.ptr H.obs.length 0) (H.push (.cells [a, b, c, d, e, f]))) k) (k (.agg [a, b, c, d, e, f])) := ⟨g_ln6⟩
instance  : Stp (gP (aLoad (some 7) (.ptr H.obs.length 0) (H.push (.cells [a, b, c, d, e, f, g]))) k) (k (.agg [a, b, c, d, e, f, g])) := ⟨g_ln7⟩
instance {a b : Int} : Sts (gP (aBin .add (.int .i64 a) (.int .i64 b)) k) (-(2 ^ 63) ≤ a + b ∧ a + b < 2 ^ 63) (k (.int .i64 (a + b))) := ⟨g_add64⟩
instance {a b : Int} : Sts (gP (aBin .sub (.int .i64 a) (.int .i64 b)) k) (-(2 ^ 63) ≤ a - b ∧ a - b < 2 ^ 63) (k (.int .i64 (a - b))) := ⟨g_sub64⟩
instance {a b : Int} : Sts (gP (aBin .mul (.int .i64 a) (.int .i64 b)) k) (-(2 ^ 63) ≤ a * b ∧ a * b < 2 ^ 63) (k (.int .i64 (a * b))) := ⟨g_mul64⟩
instance {κ : IntKind} {a b : Int} : Sts (gP (aBin .quo (.int κ a) (.int κ b)) k) (b ≠ 0) (k (.int κ (κ.wrap (a.tdiv b)))) := ⟨g_quo⟩
instance {κ : IntKind} {a b : Int} : Sts (gP (aBin .rem (.int κ a) (.int κ b)) k) (b ≠ 0) (k (.int κ (a.tmod b))) := ⟨g_rem⟩
instance {κ' : IntKind} {n : Int} : Sts (gP (aCv .i64 (.int κ' n)) k) (-(2 ^ 63) ≤ n ∧ n < 2 ^ 63) (k (.int .i64 n)) := ⟨g_cv64⟩
instance {κ : IntKind} {a b : Int} : Stu (gP (aBin .add (.int κ a) (.int κ b)) k) (k (.int κ (κ.wrap (a + b)))) := ⟨g_add⟩
instance {κ : IntKind} {a b : Int} : Stu (gP (aBin .sub (.int κ a) (.int κ b)) k) (k (.int κ (κ.wrap (a - b)))) := ⟨g_sub⟩
instance {κ : IntKind} {a b : Int} : Stu (gP (aBin .mul (.int κ a) (.int κ b)) k) (k (.int κ (κ.wrap (a * b)))) := ⟨g_mul⟩
instance {κ κ' : IntKind} {n : Int} : Stu (gP (aCv κ (.int κ' n)) k) (k (.int κ (κ.wrap n))) := ⟨g_cv⟩
end

/-! ### Walks over texts, and functions as values -/
theorem Grow.put {H H1 : AH} {b : Nat} {o : AObj} (h : Grow H H1) (hb : H.obs.length ≤ b) : Grow H (H1.put b o) := by
  obtain ⟨⟨l, hl⟩, ht⟩ := h
  refine ⟨?_, ht⟩
  simp only [AH.put, hl]
  rw [List.set_append_right _ _ hb]
  exact ⟨_, rfl⟩
theorem Grow.len {H H' : AH} (h : Grow H H') : H.obs.length ≤ H'.obs.length := by
  obtain ⟨⟨l, hl⟩, _⟩ := h
  rw [hl, List.length_append]; omega
end Go.SV

namespace Go.SV

/-! ### Rows -/
def F2 {α : Type} (R : AV → α → Prop) (xs : List AV) (l : List α) : Prop := xs.length = l.length ∧ ∀ (i : Nat) x y, xs[i]? = some x → l[i]? = some y → R x y

theorem F2.nil {α : Type} {R : AV → α → Prop} : F2 R [] [] := ⟨rfl, fun i x y h => by simp at h⟩
theorem F2.app {α : Type} {R : AV → α → Prop} {xs ys : List AV} {l m : List α} (h : F2 R xs l) (k : F2 R ys m) : F2 R (xs ++ ys) (l ++ m) := by
  refine ⟨by simp [h.1, k.1], fun i a b ha hb => ?_⟩
  rcases Nat.lt_or_ge i xs.length with hl | hl
  · rw [List.getElem?_append_left hl] at ha
    rw [List.getElem?_append_left (by rw [← h.1]; exact hl)] at hb
    exact h.2 i a b ha hb
  · rw [List.getElem?_append_right hl] at ha
    rw [List.getElem?_append_right (by rw [← h.1]; exact hl)] at hb
    rw [h.1] at ha
    exact k.2 _ a b ha hb
theorem F2.map {α : Type} {R : AV → α → Prop} (f : α → AV) (hf : ∀ x, R (f x) x) (l : List α) : F2 R (l.map f) l := by
  refine ⟨by simp, fun i a b ha hb => ?_⟩
  rw [List.getElem?_map, hb] at ha
  simp only [Option.map_some, Option.some.injEq] at ha
  subst ha; exact hf b

def RowOf {α : Type} (s : Nat) (R : AV → α → Prop) (v : AV) (l : List α) : Prop := (v = .nils ∧ l = []) ∨ ∃ t xs, v = .sl t s xs ∧ F2 R xs l

section
variable {α : Type} {s : Nat} {R : AV → α → Prop} {v : AV} {l : List α}

theorem RowOf.cell (h : RowOf s R v l) : v.isCell = true := by
  rcases h with ⟨rfl, _⟩ | ⟨t, xs, rfl, _⟩ <;> rfl
theorem RowOf.cells (h : RowOf s R v l) : v.cells = [v] := by
  rcases h with ⟨rfl, _⟩ | ⟨t, xs, rfl, _⟩ <;> rfl
theorem RowOf.def (h : RowOf s R v l) : v.def? = true := by
  rcases h with ⟨rfl, _⟩ | ⟨t, xs, rfl, _⟩ <;> rfl

end

/-- Whole numbers. -/
def IsI (x : AV) (n : Int) : Prop := x = .int .i64 n
theorem IsI.cells {x : AV} {n : Int} (h : IsI x n) : x.cells = [.int .i64 n] := by rw [h]; rfl

/-! ### Rows that grow -/
def Tok (H0 H : AH) (s : Nat) (v : AV) (xs : List AV) : Prop := (v = .nils ∧ xs = []) ∨ ∃ t te, v = .sl t s xs ∧ H0.toks.length ≤ t ∧ H.toks[t]? = some (xs.length, s, te)

theorem Tok.nil (H0 H : AH) (s : Nat) : Tok H0 H s .nils [] := .inl ⟨rfl, rfl⟩
theorem Tok.same {H0 H H' : AH} {s : Nat} {v : AV} {xs : List AV} (h : Tok H0 H s v xs) (e : H'.toks = H.toks) : Tok H0 H' s v xs := by
  rcases h with h | ⟨t, te, h1, h2, h3⟩
  · exact .inl h
  · exact .inr ⟨t, te, h1, h2, by rw [e]; exact h3⟩
theorem Tok.grow {H0 H H' : AH} {s : Nat} {v : AV} {xs : List AV} (h : Tok H0 H s v xs) (g : Grow H H') : Tok H0 H' s v xs := by
  rcases h with h | ⟨t, te, h1, h2, h3⟩
  · exact .inl h
  · refine .inr ⟨t, te, h1, h2, ?_⟩
    rw [g.tok (by rcases Nat.lt_or_ge t H.toks.length with h | h; exact h; rw [List.getElem?_eq_none h] at h3; simp at h3)]
    exact h3
theorem Tok.row {α : Type} {R : AV → α → Prop} {H0 H : AH} {s : Nat} {v : AV} {xs : List AV} {l : List α} (h : Tok H0 H s v xs) (hf : F2 R xs l) : RowOf s R v l := by
  rcases h with ⟨rfl, rfl⟩ | ⟨t, _, rfl, _, _⟩
  · exact .inl ⟨rfl, List.eq_nil_of_length_eq_zero (by rw [← hf.1]; rfl)⟩
  · exact .inr ⟨t, xs, rfl, hf⟩
/-! ### New cells and functions -/
/-- A cell that stands since long. -/
def Holds (H : AH) (b : Nat) (c : List AV) : Prop := b < H.obs.length ∧ H.get b = .cells c
theorem Holds.push (H : AH) (c : List AV) : Holds (H.push (.cells c)) H.obs.length c := ⟨by rw [push_len]; omega, push_get _ _⟩
theorem Holds.grow {H H' : AH} {b : Nat} {c : List AV} (h : Holds H b c) (g : Grow H H') : Holds H' b c := ⟨Nat.lt_of_lt_of_le h.1 g.len, by rw [g.get h.1]; exact h.2⟩
/-! ### Writing to cells that stand -/
/-- All but one block stays as it is. -/
structure Keep (b : Nat) (H H' : AH) : Prop where
  len : H.obs.length ≤ H'.obs.length
  get : ∀ c, c < H.obs.length → c ≠ b → H'.get c = H.get c
theorem Keep.refl (b : Nat) (H : AH) : Keep b H H := ⟨Nat.le_refl _, fun _ _ _ => rfl⟩
theorem Keep.trans {b : Nat} {H1 H2 H3 : AH} (h : Keep b H1 H2) (k : Keep b H2 H3) : Keep b H1 H3 :=
  ⟨Nat.le_trans h.len k.len, fun c hc hn => (k.get c (Nat.lt_of_lt_of_le hc h.len) hn).trans (h.get c hc hn)⟩
theorem Keep.of {b : Nat} {H H' : AH} (g : Grow H H') : Keep b H H' := ⟨g.len, fun _ hc _ => g.get hc⟩
theorem Keep.put {b : Nat} {H : AH} (o : AObj) (hb : b < H.obs.length) : Keep b H (H.put b o) := ⟨by rw [put_len]; exact Nat.le_refl _, fun c _ hn => by rw [put_get hb, if_neg hn]⟩
theorem Keep.obs {b : Nat} {H H1 H2 : AH} (h : Keep b H H1) (e : H2.obs = H1.obs) : Keep b H H2 := by
  refine ⟨by rw [e]; exact h.len, fun c hc hn => ?_⟩
  rw [← h.get c hc hn]; simp only [AH.get, e]
theorem Holds.keep {b c : Nat} {H H' : AH} {l : List AV} (h : Holds H c l) (k : Keep b H H') (hn : c ≠ b) : Holds H' c l := ⟨Nat.lt_of_lt_of_le h.1 k.len, by rw [k.get c h.1 hn]; exact h.2⟩
end Go.SV

namespace Go.SV

/-- Entries of a map, and what it tells. -/
structure MapIs (K : KeyK) {κ : Type} (enc : κ → AV) (f : κ → Option AV) (es : List (AV × AV × Nat)) (clk : Nat) : Prop where
  keys : ∀ e ∈ es, ∃ k, e.1 = enc k
  find : ∀ k, ∃ r, aFind K (enc k) es 0 = some r ∧ r.map (·.2) = f k
  born : ∀ (i : Nat) e, es[i]? = some e → e.2.2 < clk
  nodup : ∀ (i j : Nat) e e', es[i]? = some e → es[j]? = some e' → e.2.2 = e'.2.2 → i = j

def MapAt (K : KeyK) {κ : Type} (enc : κ → AV) (f : κ → Option AV) (H : AH) (b : Nat) : Prop := b < H.obs.length ∧ ∃ es clk, H.get b = .map es clk ∧ MapIs K enc f es clk

/-- Keys can be told apart. -/
def Keyed (K : KeyK) {κ : Type} [DecidableEq κ] (enc : κ → AV) : Prop := ∀ a b, keyEq K (enc a) (enc b) = some (decide (a = b))

theorem MapIs.empty (K : KeyK) {κ : Type} (enc : κ → AV) : MapIs K enc (fun _ => none) [] 0 := ⟨fun e h => by simp at h, fun k => ⟨none, rfl, rfl⟩, fun i e h => by simp at h, fun i j e e' h => by simp at h⟩
theorem MapAt.grow {K : KeyK} {κ : Type} {enc : κ → AV} {f : κ → Option AV} {H H' : AH} {b : Nat} (h : MapAt K enc f H b) (g : Grow H H') : MapAt K enc f H' b := by
  obtain ⟨h1, es, clk, h2, h3⟩ := h
  exact ⟨Nat.lt_of_lt_of_le h1 g.len, es, clk, by rw [g.get h1]; exact h2, h3⟩
theorem MapAt.put {K : KeyK} {κ : Type} {enc : κ → AV} {f : κ → Option AV} {H : AH} {b c : Nat} {o : AObj} (h : MapAt K enc f H b) (hc : c < H.obs.length) (hne : b ≠ c) : MapAt K enc f (H.put c o) b := by
  obtain ⟨h1, es, clk, h2, h3⟩ := h
  exact ⟨by rw [put_len]; exact h1, es, clk, by rw [put_get hc, if_neg hne]; exact h2, h3⟩

theorem MapAt.push (K : KeyK) {κ : Type} (enc : κ → AV) (H : AH) : MapAt K enc (fun _ => none) (H.push (.map [] 0)) H.obs.length := ⟨by rw [push_len]; omega, [], 0, push_get _ _, .empty K enc⟩

section
variable {K : KeyK} {κ : Type} [DecidableEq κ] {enc : κ → AV} {f : κ → Option AV}

theorem Keyed.key (h : Keyed K enc) (k : κ) : isKey K (enc k) = true := by simp [isKey, h k k]
theorem Keyed.inj (h : Keyed K enc) {a b : κ} (e : enc a = enc b) : a = b := by
  have h1 := h a b
  rw [e, h b b] at h1
  simpa using h1



/-! ### Rules -/
/-- A map of which an entry is at hand, by its stamp. -/
def MapE (K : KeyK) (enc : κ → AV) (f : κ → Option AV) (H : AH) (b : Nat) (x : κ) (st : Nat) : Prop :=
  b < H.obs.length ∧ ∃ es clk i e, H.get b = .map es clk ∧ MapIs K enc f es clk ∧ aFind K (enc x) es 0 = some (some (i, e.2.1)) ∧ es[i]? = some e ∧ e.2.2 = st

end

theorem MapE.at {K : KeyK} {κ : Type} {enc : κ → AV} {f : κ → Option AV} {H : AH} {b st : Nat} {x : κ} (h : MapE K enc f H b x st) : MapAt K enc f H b := by
  obtain ⟨h1, es, clk, i, e, h2, h3, _⟩ := h
  exact ⟨h1, es, clk, h2, h3⟩

end Go.SV

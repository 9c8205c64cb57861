/- Contracts: tags, further. Own text of the prover; nothing is assumed. -/
import Derived.Test.YtkbkhdgjdikjiaaGreatDoorCa
set_option maxRecDepth 100000
namespace Go.SV

variable {T : Nat → Option Entry}

theorem beq_dec (a b : List UInt8) : (a == b) = decide (a = b) := by rw [Bool.eq_iff_iff]; simp

def realTail (s : List UInt8) : Bool := match s with
  | [] => true
  | a :: l => (a == 101 || a == 69) && allD 10 (sign l)
def real (s : List UInt8) : Bool :=
  let t := sign s
  let r := t.drop (dcount 10 t)
  if pre [46] r then
    let u := cut [46] r
    if dcount 10 t + dcount 10 u = 0 then false else realTail (u.drop (dcount 10 u))
  else if dcount 10 t = 0 then false else realTail r

theorem real_ok (hT : Has T) (s : List UInt8) (hs : s.length < 2 ^ 60) (H : AH) :
    Den.of T 93 [.str s] H = some (.bool (real s), H) := by
  refine eq_of (w93_ok hT ?_)
  unfold w93
  have l3 := sign_len s
  have d1 := fun H => digits_ok hT (sign s) 10 (by omega) H
  (repeat (first | (with_reducible first | refine Stp.go ?_ | (refine i_cT ?_ ?_; · first | assumption | decide | exact rfl) | (refine i_cF ?_ ?_; · first | assumption | decide | exact rfl) | (refine i_T ?_ ?_; · first | assumption | exact rfl) | (refine i_F ?_ ?_; · first | assumption | exact rfl) | (refine Sts.go ?_ ?_; · first | omega | decide) | refine Stu.go ?_) | with_reducible refine c_eq (sign_ok hT _ _) ?_ | with_reducible refine c_eq (d1 _) ?_))
  have c1 := dcount_le 10 (sign s)
  have hl : ((sign s).drop (dcount 10 (sign s))).length < 2 ^ 60 := by rw [List.length_drop]; omega
  refine j2 (fun a b H' => ∃ (r : List UInt8) (n : Nat), a = .str r ∧ b = .int .i64 n ∧ n < 2 ^ 60 ∧ r.length < 2 ^ 60 ∧ H = H' ∧ real s = if dcount 10 (sign s) + n = 0 then false else realTail r) ?_ ?_
  · rintro _ _ _ ⟨r, n, rfl, rfl, hn, hr, rfl, he⟩
    cases r with
    | nil =>
      (repeat' (first | (first | (with_reducible first | refine Stp.go ?_ | (refine i_cT ?_ ?_; · first | assumption | decide | exact rfl) | (refine i_cF ?_ ?_; · first | assumption | decide | exact rfl) | (refine i_T ?_ ?_; · first | assumption | exact rfl) | (refine i_F ?_ ?_; · first | assumption | exact rfl) | (refine Sts.go ?_ ?_; · first | omega | decide) | refine Stu.go ?_) | refine j_i ?_) | (with_reducible first | refine i_c (fun h => ?_) (fun h => ?_) | refine i_i (fun h => ?_) (fun h => ?_))))
      · exact ⟨by rw [he, if_pos (by omega)], rfl⟩
      · exact ⟨by rw [he, if_neg (by omega)]; rfl, rfl⟩
    | cons a l =>
      have hne : a :: l ≠ [] := nofun
      have e1 : (a.toNat : Int) = 101 ↔ a = 101 := u8i a 101 (by decide)
      have e2 : (a.toNat : Int) = 69 ↔ a = 69 := u8i a 69 (by decide)
      have hl : l.length < 2 ^ 60 := by simp at hr; omega
      have l4 := sign_len l
      have a1 := fun H => all_ok hT (sign l) 10 (by omega) H
      have hb : ∀ {k : AV → Prop}, k (.int .u8 a.toNat) → gP (aIdxStr (.str (a :: l)) (.int .i64 0)) k := fun h => g_byte (b := a) (by decide) rfl h
      have hf : ∀ {k : AV → Prop}, k (.str l) → gP (aSlcS (.str (a :: l)) (some (.int .i64 1)) none) k := fun h => g_from (by simp; omega) h
      (repeat' (first | (first | (with_reducible first | refine Stp.go ?_ | (refine i_cT ?_ ?_; · first | assumption | decide | exact rfl) | (refine i_cF ?_ ?_; · first | assumption | decide | exact rfl) | (refine i_T ?_ ?_; · first | assumption | exact rfl) | (refine i_F ?_ ?_; · first | assumption | exact rfl) | (refine Sts.go ?_ ?_; · first | omega | decide) | refine Stu.go ?_) | refine j_i ?_) | with_reducible refine c_eq (sign_ok hT _ _) ?_ | with_reducible refine c_eq (a1 _) ?_ | refine hb ?_ | refine hf ?_ | (with_reducible first | refine i_c (fun h => ?_) (fun h => ?_) | refine i_i (fun h => ?_) (fun h => ?_))))
      · exact ⟨by rw [he, if_pos (by omega)], rfl⟩
      · rename_i h0
        exact ⟨by rw [he, if_neg (by omega)]; simp [realTail, e1.1 h], rfl⟩
      · exact ⟨by rw [he, if_neg (by omega)]; simp [realTail, e2.1 h], rfl⟩
      · rename_i h1
        have h1' : a ≠ 101 := fun e => h1 (e1.2 e)
        have h2' : a ≠ 69 := fun e => h (e2.2 e)
        exact ⟨by rw [he, if_neg (by omega)]; simp [realTail, h1', h2'], rfl⟩
  · intro j hj
    have l5 := cut_len [46] ((sign s).drop (dcount 10 (sign s)))
    have d2 := fun H => digits_ok hT (cut [46] ((sign s).drop (dcount 10 (sign s)))) 10 (by omega) H
    have c2 := dcount_le 10 (cut [46] ((sign s).drop (dcount 10 (sign s))))
    (repeat' (first | (first | (with_reducible first | refine Stp.go ?_ | (refine i_cT ?_ ?_; · first | assumption | decide | exact rfl) | (refine i_cF ?_ ?_; · first | assumption | decide | exact rfl) | (refine i_T ?_ ?_; · first | assumption | exact rfl) | (refine i_F ?_ ?_; · first | assumption | exact rfl) | (refine Sts.go ?_ ?_; · first | omega | decide) | refine Stu.go ?_) | refine j_i ?_) | with_reducible refine c_eq (cutPrefix_ok hT _ _ _) ?_ | with_reducible refine c_eq (d2 _) ?_ | (with_reducible first | refine i_c (fun h => ?_) (fun h => ?_) | refine i_i (fun h => ?_) (fun h => ?_))))
    · refine hj _ _ _ ⟨_, _, rfl, rfl, by omega, by rw [List.length_drop]; omega, rfl, ?_⟩
      unfold real; simp only [h, if_true]
    · refine hj _ _ _ ⟨_, 0, rfl, rfl, by omega, ?_, rfl, ?_⟩
      · exact hl
      · unfold real; simp only [h, Bool.false_eq_true, if_false, Nat.add_zero]

def tNull : List UInt8 := [110, 117, 108, 108]
def tBool : List UInt8 := [98, 111, 111, 108]
def tInt : List UInt8 := [105, 110, 116]
def tFloat : List UInt8 := [102, 108, 111, 97, 116]
def tStr : List UInt8 := [115, 116, 114]
def tSeq : List UInt8 := [115, 101, 113]
def tMap : List UInt8 := [109, 97, 112]

def resolve (s : List UInt8) : List UInt8 :=
  if s = [] ∨ s = [126] ∨ s = [110, 117, 108, 108] ∨ s = [78, 117, 108, 108] ∨ s = [78, 85, 76, 76] then tNull
  else if s = [116, 114, 117, 101] ∨ s = [84, 114, 117, 101] ∨ s = [84, 82, 85, 69] ∨ s = [102, 97, 108, 115, 101] ∨ s = [70, 97, 108, 115, 101] ∨ s = [70, 65, 76, 83, 69] then tBool
  else if s = [46, 110, 97, 110] ∨ s = [46, 78, 97, 78] ∨ s = [46, 78, 65, 78] then tFloat
  else if sign s = [46, 105, 110, 102] ∨ sign s = [46, 73, 110, 102] ∨ sign s = [46, 73, 78, 70] then tFloat
  else if whole s then tInt else if real s then tFloat else tStr

theorem resolve_ok (hT : Has T) (s : List UInt8) (hs : s.length < 2 ^ 60) (H : AH) :
    Den.of T 54 [.str s] H = some (.str (resolve s), H) := by
  refine eq_of (w54_ok hT ?_)
  unfold w54
  have hw := fun H => whole_ok hT s hs H
  have hr := fun H => real_ok hT s hs H
  refine j1 (fun a H' => a = .bool (decide (s = [] ∨ s = [126] ∨ s = [110, 117, 108, 108] ∨ s = [78, 117, 108, 108] ∨ s = [78, 85, 76, 76])) ∧ H = H') ?_ ?_
  · rintro _ _ ⟨rfl, rfl⟩
    (with_reducible first | refine i_c (fun h => ?_) (fun h => ?_) | refine i_i (fun h => ?_) (fun h => ?_))
    · exact ⟨by rw [resolve, if_pos h]; rfl, rfl⟩
    have n1 := h
    refine j1 (fun a H' => a = .bool (decide (s = [116, 114, 117, 101] ∨ s = [84, 114, 117, 101] ∨ s = [84, 82, 85, 69] ∨ s = [102, 97, 108, 115, 101] ∨ s = [70, 97, 108, 115, 101] ∨ s = [70, 65, 76, 83, 69])) ∧ H = H') ?_ ?_
    · rintro _ _ ⟨rfl, rfl⟩
      (with_reducible first | refine i_c (fun h => ?_) (fun h => ?_) | refine i_i (fun h => ?_) (fun h => ?_))
      · exact ⟨by rw [resolve, if_neg n1, if_pos h]; rfl, rfl⟩
      have n2 := h
      refine j1 (fun a H' => a = .bool (decide (s = [46, 110, 97, 110] ∨ s = [46, 78, 97, 78] ∨ s = [46, 78, 65, 78])) ∧ H = H') ?_ ?_
      · rintro _ _ ⟨rfl, rfl⟩
        (with_reducible first | refine i_c (fun h => ?_) (fun h => ?_) | refine i_i (fun h => ?_) (fun h => ?_))
        · exact ⟨by rw [resolve, if_neg n1, if_neg n2, if_pos h]; rfl, rfl⟩
        have n3 := h
        refine c_eq (sign_ok hT _ _) ?_
        refine j1 (fun a H' => a = .bool (decide (sign s = [46, 105, 110, 102] ∨ sign s = [46, 73, 110, 102] ∨ sign s = [46, 73, 78, 70])) ∧ H = H') ?_ ?_
        · rintro _ _ ⟨rfl, rfl⟩
          (with_reducible first | refine i_c (fun h => ?_) (fun h => ?_) | refine i_i (fun h => ?_) (fun h => ?_))
          · exact ⟨by rw [resolve, if_neg n1, if_neg n2, if_neg n3, if_pos h]; rfl, rfl⟩
          have n4 := h
          (repeat' (first | (first | (with_reducible first | refine Stp.go ?_ | (refine i_cT ?_ ?_; · first | assumption | decide | exact rfl) | (refine i_cF ?_ ?_; · first | assumption | decide | exact rfl) | (refine i_T ?_ ?_; · first | assumption | exact rfl) | (refine i_F ?_ ?_; · first | assumption | exact rfl) | (refine Sts.go ?_ ?_; · first | omega | decide) | refine Stu.go ?_) | refine j_i ?_) | with_reducible refine c_eq (hw _) ?_ | with_reducible refine c_eq (hr _) ?_ | (with_reducible first | refine i_c (fun h => ?_) (fun h => ?_) | refine i_i (fun h => ?_) (fun h => ?_))))
          · exact ⟨by rw [resolve, if_neg n1, if_neg n2, if_neg n3, if_neg n4, if_pos h]; rfl, rfl⟩
          · rename_i h5
            exact ⟨by rw [resolve, if_neg n1, if_neg n2, if_neg n3, if_neg n4, if_neg (by simp [h5]), if_pos h]; rfl, rfl⟩
          · rename_i h5
            exact ⟨by rw [resolve, if_neg n1, if_neg n2, if_neg n3, if_neg n4, if_neg (by simp [h5]), if_neg (by simp [h])]; rfl, rfl⟩
        · intro j hj
          (repeat' (first | (first | (with_reducible first | refine Stp.go ?_ | (refine i_cT ?_ ?_; · first | assumption | decide | exact rfl) | (refine i_cF ?_ ?_; · first | assumption | decide | exact rfl) | (refine i_T ?_ ?_; · first | assumption | exact rfl) | (refine i_F ?_ ?_; · first | assumption | exact rfl) | (refine Sts.go ?_ ?_; · first | omega | decide) | refine Stu.go ?_) | refine j_i ?_) | (with_reducible first | refine i_c (fun h => ?_) (fun h => ?_) | refine i_i (fun h => ?_) (fun h => ?_))))
          all_goals exact hj _ _ ⟨by simp [beq_dec, *], rfl⟩
      · intro j hj
        (repeat' (first | (first | (with_reducible first | refine Stp.go ?_ | (refine i_cT ?_ ?_; · first | assumption | decide | exact rfl) | (refine i_cF ?_ ?_; · first | assumption | decide | exact rfl) | (refine i_T ?_ ?_; · first | assumption | exact rfl) | (refine i_F ?_ ?_; · first | assumption | exact rfl) | (refine Sts.go ?_ ?_; · first | omega | decide) | refine Stu.go ?_) | refine j_i ?_) | (with_reducible first | refine i_c (fun h => ?_) (fun h => ?_) | refine i_i (fun h => ?_) (fun h => ?_))))
        all_goals exact hj _ _ ⟨by simp [beq_dec, *], rfl⟩
    · intro j hj
      (repeat' (first | (first | (with_reducible first | refine Stp.go ?_ | (refine i_cT ?_ ?_; · first | assumption | decide | exact rfl) | (refine i_cF ?_ ?_; · first | assumption | decide | exact rfl) | (refine i_T ?_ ?_; · first | assumption | exact rfl) | (refine i_F ?_ ?_; · first | assumption | exact rfl) | (refine Sts.go ?_ ?_; · first | omega | decide) | refine Stu.go ?_) | refine j_i ?_) | (with_reducible first | refine i_c (fun h => ?_) (fun h => ?_) | refine i_i (fun h => ?_) (fun h => ?_))))
      all_goals exact hj _ _ ⟨by simp [beq_dec, *], rfl⟩
  · intro j hj
    (repeat' (first | (first | (with_reducible first | refine Stp.go ?_ | (refine i_cT ?_ ?_; · first | assumption | decide | exact rfl) | (refine i_cF ?_ ?_; · first | assumption | decide | exact rfl) | (refine i_T ?_ ?_; · first | assumption | exact rfl) | (refine i_F ?_ ?_; · first | assumption | exact rfl) | (refine Sts.go ?_ ?_; · first | omega | decide) | refine Stu.go ?_) | refine j_i ?_) | (with_reducible first | refine i_c (fun h => ?_) (fun h => ?_) | refine i_i (fun h => ?_) (fun h => ?_))))
    all_goals exact hj _ _ ⟨by simp [beq_dec, *], rfl⟩

def plain (t : List UInt8) : Bool := t == tNull || t == tBool || t == tInt || t == tFloat

theorem plain_ok (hT : Has T) (s : List UInt8) (H : AH) :
    Den.of T 137 [.str s] H = some (.bool (plain s), H) := by
  refine eq_of (w137_ok hT ?_)
  unfold w137
  (repeat' (first | (first | (with_reducible first | refine Stp.go ?_ | (refine i_cT ?_ ?_; · first | assumption | decide | exact rfl) | (refine i_cF ?_ ?_; · first | assumption | decide | exact rfl) | (refine i_T ?_ ?_; · first | assumption | exact rfl) | (refine i_F ?_ ?_; · first | assumption | exact rfl) | (refine Sts.go ?_ ?_; · first | omega | decide) | refine Stu.go ?_) | refine j_i ?_) | (with_reducible first | refine i_c (fun h => ?_) (fun h => ?_) | refine i_i (fun h => ?_) (fun h => ?_))))
  all_goals exact ⟨by simp [plain, tNull, tBool, tInt, tFloat, *], rfl⟩

def core (t : List UInt8) : Bool := t == tSeq || t == tMap || t == tStr || plain t

theorem core_ok (hT : Has T) (s : List UInt8) (H : AH) :
    Den.of T 104 [.str s] H = some (.bool (core s), H) := by
  refine eq_of (w104_ok hT ?_)
  unfold w104
  (repeat' (first | (first | (with_reducible first | refine Stp.go ?_ | (refine i_cT ?_ ?_; · first | assumption | decide | exact rfl) | (refine i_cF ?_ ?_; · first | assumption | decide | exact rfl) | (refine i_T ?_ ?_; · first | assumption | exact rfl) | (refine i_F ?_ ?_; · first | assumption | exact rfl) | (refine Sts.go ?_ ?_; · first | omega | decide) | refine Stu.go ?_) | refine j_i ?_) | with_reducible refine c_eq (plain_ok hT _ _) ?_ | (with_reducible first | refine i_c (fun h => ?_) (fun h => ?_) | refine i_i (fun h => ?_) (fun h => ?_))))
  all_goals exact ⟨by simp [core, tSeq, tMap, tStr, *], rfl⟩

end Go.SV

/- The law of texts without quotes, in the abstract machine. Own text of the prover; nothing is assumed. -/
import Derived.Test.YtaimiohndbajjaaDoorPy
import Derived.Test.YtaimiohndbajjaaDoorQh
import Derived.Test.YtaimiohndbajjaaDoorQv
set_option maxRecDepth 100000
namespace Go.SV

variable {T : Nat → Option Entry}

theorem lawPlain (hT : Has T) (hK : Knows T) (hB : KnowsB T) (hQ : KnowsT T) (hE : KnowsE T) (hP : KnowsP T) (s : List UInt8) (hs : s.length < 2 ^ 63) (H : AH) (hp : 0 < H.toks.length) :
    ∃ H', Den.of T 5 [.str s] H = some (.bool true, H') ∧ Grow H H' := by
  refine gr_of (w5_ok hT ?_)
  unfold w5
  refine c_gr (alive2_ok hT hK hB hQ hE H hp) fun H1 g1 => ?_
  refine Stp.go ?_
  refine i_F rfl ?_
  refine j1 (fun x H' => x = .bool (decide (1000 < s.length) || !plainT s) ∧ Grow H H') ?_ ?_
  rotate_left
  · intro j hj
    refine Stp.go ?_
    refine Stp.go ?_
    refine d_f ?_
    refine i_c (fun h => hj _ _ ⟨by rw [decide_eq_true (show 1000 < s.length by omega)]; rfl, g1⟩) (fun h => ?_)
    refine c_gb g1 (plainT_ok hT hK s (by omega) H1) fun H2 g2 => ?_
    refine Stp.go ?_
    exact hj _ _ ⟨by rw [decide_eq_false (show ¬ 1000 < s.length by omega)]; rfl, g2⟩
  rintro _ H2 ⟨rfl, g2⟩
  refine i_i (fun h => ⟨rfl, g2⟩) (fun h => ?_)
  rw [Bool.or_eq_false_iff] at h
  obtain ⟨hl0, hpl0⟩ := h
  have hl : s.length ≤ 1000 := by
    have := of_decide_eq_false hl0
    omega
  have hpl : plainT s = true := by simpa using hpl0
  obtain ⟨hne, f1, f2, f3, f4, f5⟩ := plain_has hpl
  obtain ⟨m1, m2, m3, m4, m5, m6, m7⟩ := plain_more hpl
  have hlen := List.length_pos_iff.2 hne
  have hnb : noneB s [10, 13, 9, 44, 91, 93, 123, 125] = true := by
    rw [noneB, List.all_eq_true]
    intro b hb
    have hn := plain_bytes hpl b hb
    rw [Bool.not_eq_true']
    rw [← Bool.not_eq_true, List.contains_iff_mem] at hn ⊢
    intro hm
    refine hn ?_
    have : ∀ c ∈ ([10, 13, 9, 44, 91, 93, 123, 125] : List UInt8), c ∈ never := by decide
    exact this b hm
  refine j1 (fun x H' => x = .bool false ∧ Grow H H') ?_ ?_
  rotate_left
  · intro j hj
    refine c_eq (hP.none s _ H2 (by omega) (by decide) (by decide) (by decide) hnb) ?_
    refine d_f ?_
    refine i_F rfl ?_
    have u32 : ∀ a : UInt8, ((a.toNat : Int) = 32) → a = 32 := fun a e => UInt8.toNat_inj.1 (by show a.toNat = 32; omega)
    have u58 : ∀ a : UInt8, ((a.toNat : Int) = 58) → a = 58 := fun a e => UInt8.toNat_inj.1 (by show a.toNat = 58; omega)
    have hg0 := List.getElem?_eq_getElem hlen
    have hll : s.length - 1 < s.length := by omega
    have hgl := List.getElem?_eq_getElem hll
    generalize s[0] = a at hg0
    generalize s[s.length - 1] = z at hgl
    refine g_byte (b := a) (by decide) hg0 ?_
    refine Stp.go ?_
    refine d_f ?_
    refine i_c (fun e => absurd (by rw [hg0, u32 a e]) f1) (fun _ => ?_)
    refine Stp.go ?_
    refine g_sub64 (by omega) ?_
    refine g_byte (b := z) (by omega) (by rw [show ((s.length : Int) - 1).toNat = s.length - 1 by omega]; exact hgl) ?_
    refine Stp.go ?_
    refine d_f ?_
    refine i_c (fun e => absurd (by rw [hgl, u32 z e]) f2) (fun _ => ?_)
    refine c_eq (hK.contains s [58, 32] H2 (by omega)) ?_
    rw [f4]
    refine d_f ?_
    refine i_F rfl ?_
    refine c_eq (hK.contains s [32, 35] H2 (by omega)) ?_
    rw [f5]
    refine d_f ?_
    refine i_F rfl ?_
    refine Stp.go ?_
    refine g_sub64 (by omega) ?_
    refine g_byte (b := z) (by omega) (by rw [show ((s.length : Int) - 1).toNat = s.length - 1 by omega]; exact hgl) ?_
    refine Stp.go ?_
    refine hj _ _ ⟨?_, g2⟩
    rw [beq_eq_false_iff_ne.2 fun e => f3 (by rw [hgl, u58 z e])]
  rintro _ H3 ⟨rfl, g3⟩
  refine i_F rfl ?_
  have ap : ∀ q : List UInt8, (s ++ q).length = s.length + q.length := fun q => List.length_append
  refine g_cat (by simp; omega) ?_
  refine c_gb g3 (plainT_ok hT hK (s ++ [58]) (by rw [ap]; simp; omega) H3) fun H4 g4 => ?_
  rw [m1]
  refine Stp.go ?_
  refine d_t ?_
  refine i_T rfl ?_
  refine g_cat (by simp; omega) ?_
  refine c_gb g4 (plainT_ok hT hK (s ++ [32]) (by rw [ap]; simp; omega) H4) fun H5 g5 => ?_
  rw [m2]
  refine Stp.go ?_
  refine d_t ?_
  refine i_T rfl ?_
  refine g_cat (by simp; omega) ?_
  refine c_gb g5 (plainT_ok hT hK (32 :: s) (by simp; omega) H5) fun H6 g6 => ?_
  rw [m3]
  refine Stp.go ?_
  refine d_t ?_
  refine i_T rfl ?_
  refine g_cat (by simp; omega) ?_
  refine c_gb g6 (plainT_ok hT hK (s ++ [32, 35]) (by rw [ap]; simp; omega) H6) fun H7 g7 => ?_
  rw [m4]
  refine Stp.go ?_
  refine d_t ?_
  refine i_T rfl ?_
  refine g_cat (by simp; omega) ?_
  refine c_gb g7 (plainT_ok hT hK (s ++ [44]) (by rw [ap]; simp; omega) H7) fun H8 g8 => ?_
  rw [m5]
  refine Stp.go ?_
  refine d_t ?_
  refine i_T rfl ?_
  refine g_cat (by simp; omega) ?_
  refine c_gb g8 (plainT_ok hT hK (s ++ [120]) (by rw [ap]; simp; omega) H8) fun H9 g9 => ?_
  rw [m6]
  refine d_t ?_
  refine i_T rfl ?_
  refine g_cat (by simp; omega) ?_
  refine c_gb g9 (plainT_ok hT hK (s ++ [32, 120]) (by rw [ap]; simp; omega) H9) fun H10 g10 => ?_
  rw [m7]
  exact ⟨rfl, g10⟩

end Go.SV

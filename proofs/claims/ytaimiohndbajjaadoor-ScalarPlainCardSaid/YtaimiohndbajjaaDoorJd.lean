/- The library's search for any of some characters, in whatever text none of them stands: walked. Own text of the prover; nothing is assumed. -/
import Derived.Shelf.Strings.IndexAnyAll
import Derived.Shelf.Strings.Builder1
import Derived.Shelf.Small.Utf8
import Derived.Laws.RangeAny
import Derived.Laws.Runes
import Derived.Lib.OthersKept
import Derived.Lib.IndexLaws
import Derived.Lib.QuoteLoop
import Derived.Lib.TrimUEq
import Derived.Lib.MapLaws
import Derived.WalkMore
import Derived.Deep.DeepBigQuietO
import Derived.Below
import Derived.Test.YtaimiohndbajjaaDoorProg
set_option maxRecDepth 100000
namespace Go.SV
open Go.Proofs Go.Shelf Go.RowKit Go.Lib BigFrame

theorem encode_last (r : Int) (h1 : 128 ≤ r) : ∃ (k : Nat) (z : UInt8), (Utf8.encode r).size = k + 1 ∧ (1 ≤ k ∧ k ≤ 3) ∧ (Utf8.encode r).data.toList[k]? = some z ∧ 128 ≤ z.toNat := by
  have hm : ∀ n : Nat, 128 ≤ (UInt8.ofNat (128 + n % 64)).toNat := fun n => by simp; omega
  have hc : 128 ≤ (if Utf8.valid r = true then r.toNat else Utf8.runeError) := by
    split
    · omega
    · decide
  unfold Utf8.encode
  simp only
  generalize (if Utf8.valid r = true then r.toNat else Utf8.runeError) = c at *
  rw [if_neg (show ¬ c < 128 by omega)]
  by_cases c1 : c < 2048
  · simp only [if_pos c1]
    exact ⟨1, UInt8.ofNat (128 + c % 64), rfl, by decide, rfl, hm _⟩
  by_cases c2 : c < 65536
  · simp only [if_neg c1, if_pos c2]
    exact ⟨2, UInt8.ofNat (128 + c % 64), rfl, by decide, rfl, hm _⟩
  · simp only [if_neg c1, if_neg c2]
    exact ⟨3, UInt8.ofNat (128 + c % 64), rfl, by decide, rfl, hm _⟩
theorem noIdx {l : List UInt8} {z : UInt8} (h : ∀ b ∈ l, b ≠ z) : Lib.indexByte l z = -1 := by
  have hge := Lib.indexByte_ge l z
  by_cases hn : Lib.indexByte l z = -1
  · exact hn
  obtain ⟨i, hi⟩ : ∃ i : Nat, Lib.indexByte l z = i := ⟨(Lib.indexByte l z).toNat, by omega⟩
  exact absurd rfl (h z (List.mem_of_getElem? (Lib.indexByte_some hi).1))


def AsciiB (s : ByteArray) : Prop := ∀ (j : Nat) b, s.data.toList[j]? = some b → b.toNat < 128
theorem asciiB_at {s : ByteArray} (h : AsciiB s) (i : Nat) (hi : i < s.size) : (s[i]'hi).toNat < 128 := h i _ (Lib.data_getElem? s i hi)

variable {P : Program} {ρ : Ren}

set_option maxHeartbeats 4000000 in
set_option maxRecDepth 1000000 in
theorem idxRune_err (L : Lays.n152 P ρ) (s : ByteArray) (w : World) (hascii : ∀ (j : Nat) b, s.data.toList[j]? = some b → b.toNat < 128) :
    Calls P (ρ.f 152) #[.string s, .int .i32 65533] w fun e w' => e = .returned (.int .i64 (-1)) ∧ ∃ pos, w' = w.iter s pos := by
  have HA : Aside (∀ (j : Nat) b, s.data.toList[j]? = some b → b.toNat < 128) := hascii
  clear hascii
  have t3 := L.t3; have a3 := L.a3; have z3 := L.z3; have v3 := L.v3
  have t4 := L.t4; have a4 := L.a4; have z4 := L.z4; have v4 := L.v4
  have t5 := L.t5; have a5 := L.a5; have z5 := L.z5; have v5 := L.v5
  have t9 := L.t9; have a9 := L.a9; have z9 := L.z9; have v9 := L.v9
  have t21 := L.t21; have a21 := L.a21; have z21 := L.z21; have v21 := L.v21
  go_enter L.f152, Body.n152_ntmps ρ
  go_wp2
  go_loopg [5, 6] s.size (fun g _ _ wx => ∃ i : Nat, i + g = s.size ∧ wx = w.iter s i)
  case atStart => exact ⟨0, by omega, rfl⟩
  case round =>
    obtain ⟨i, hig, rfl⟩ := hrel
    cases gk with
    | zero =>
      obtain rfl : i = s.size := by omega
      have hnx := run_next_end (P := P) w s s.size
      go_wp2
      go_ret
      exact ⟨rfl, _, rfl⟩
    | succ g =>
      have hi : i < s.size := by omega
      obtain ⟨x, hx⟩ : ∃ x : UInt8, s[i]'hi = x := ⟨_, rfl⟩
      have hxl : s.data.toList[i]? = some x := by rw [← hx]; exact Lib.data_getElem? s i hi
      have hx128 : x.toNat < 128 := HA.out i x hxl
      have hnx := fun ty => run_next_ascii (P := P) w s i ty hi (by rw [hx]; exact hx128)
      rw [hx] at hnx
      have hne : ((x.toNat : Int) == 65533) = false := beq_eq_false_iff_ne.2 (by omega)
      clear hxl hx
      go_wp2
      go_roundg g
      case measure => omega
      case rel => exact ⟨i + 1, by omega, rfl⟩
theorem below_drewN (w : World) : ∀ n : Nat, Below w.heap.size w (w.drewN n) := by
  intro n
  exact ⟨rfl, rfl, rfl, Nat.le_refl _, fun _ _ => rfl⟩

set_option maxHeartbeats 4000000 in
set_option maxRecDepth 1000000 in
theorem idxRune_big (L : Lays.n152 P ρ) (s : ByteArray) (r : Int) (w : World) (h1 : 128 ≤ r) (h2 : r ≤ 1114111) (hne : r ≠ 65533) (hv : Lib.validRune r = true) (rs : ByteArray) (hrs : Utf8.encode r = rs) (k : Nat) (hk : rs.size = k + 1) (hk1 : 1 ≤ k ∧ k ≤ 3) (z : UInt8) (hz : rs[k]'(by omega) = z) (hs : s.size < 4294967281)
    (hno : ∀ i, i ≤ s.size → Lib.indexByte (s.extract i s.size).data.toList z = -1) (hnz : ∀ (i : Nat) (h : i < s.size), (s[i]'h) ≠ z) :
    Calls P (ρ.f 152) #[.string s, .int .i32 r] w fun e w' => e = .returned (.int .i64 (-1)) ∧ Below w.heap.size w w' := by
  have HN : Aside (∀ i, i ≤ s.size → Lib.indexByte (s.extract i s.size).data.toList z = -1) := hno
  have HZ : Aside (∀ (i : Nat) (h : i < s.size), (s[i]'h) ≠ z) := hnz
  clear hno hnz
  have mixed := L.mixed
  have hnb : (r == 65533) = false := beq_eq_false_iff_ne.2 hne
  have hl : decide (r < 128) = false := decide_eq_false (by omega)
  have t3 := L.t3; have a3 := L.a3; have z3 := L.z3; have v3 := L.v3
  have t4 := L.t4; have a4 := L.a4; have z4 := L.z4; have v4 := L.v4
  have t5 := L.t5; have a5 := L.a5; have z5 := L.z5; have v5 := L.v5
  have t9 := L.t9; have a9 := L.a9; have z9 := L.z9; have v9 := L.v9
  have t21 := L.t21; have a21 := L.a21; have z21 := L.z21; have v21 := L.v21
  have e119 : ∀ args w, (callFunc (ρ.f 119) args).run P w = .ok (.enter (ρ.f 119) args) w := enters_of L.f119 (by kernel_rfl) rfl
  have e137 : ∀ args w, (callFunc (ρ.f 137) args).run P w = .ok (.enter (ρ.f 137) args) w := enters_of L.f137 (by kernel_rfl) rfl
  go_enter L.f152, Body.n152_ntmps ρ
  go_wp2_with (go_at_fn (ρ.f 119); refine (Any.utf8_ValidRune { L with } _ _).mono ?_; rintro e w' ⟨rfl, hw⟩; rw [hw, hv])
  apply wp_scope_straight
  go_wp2
  go_loopg [9, 10] 0 (fun g i f wx => g = 0 ∧ i = .int .i64 (k : Int) ∧ f = .int .i64 0 ∧ wx = w)
  case atStart => exact ⟨rfl, rfl, rfl, rfl⟩
  case round =>
    obtain ⟨rfl, rfl, rfl, rfl⟩ := hrel
    by_cases hks : k < s.size
    · obtain ⟨x, hx⟩ : ∃ x : UInt8, s[k]'hks = x := ⟨_, rfl⟩
      have hxz : ((x.toNat : Int) == (z.toNat : Int)) = false := beq_eq_false_iff_ne.2 (by
        have := HZ.out k hks
        rw [hx] at this
        intro e
        exact this (UInt8.toNat_inj.1 (by omega)))
      have hsz : (k : Int) < (s.size : Int) := by omega
      have hix := HN.out (k + 1) (by omega)
      have hback : ((z.toNat : Int)).toNat.toUInt8 = z := by simp
      go_wp2
      apply wp_scope_straight
      go_wp2
      go_region_o
      all_goals go_wp2
      all_goals go_big_quiet_o ((refine (Any.strings_IndexByte { L with } _ _ _).mono ?_; rintro e w' ⟨he, hw⟩; rw [hback, hix] at he; exact ⟨he, _, hw⟩))
      all_goals go_wp2
      rw [Exit.noGoto_ret]
      go_wp2
      rw [Exit.noGoto_ret]
      go_wp2
      go_ret
      all_goals exact ⟨rfl, by first | exact Below.drew (Below.refl _ _) | exact ⟨rfl, rfl, rfl, Nat.le_refl _, fun _ _ => rfl⟩ | exact below_drewN _ _⟩
    · have hsz : ¬ ((k : Int) < (s.size : Int)) := by omega
      go_wp2
      go_ret
      exact ⟨rfl, Below.refl _ _⟩
theorem idxRune_no (L : Lays.n152 P ρ) (s : ByteArray) (r : Int) (w : World) (hs : s.size < 4294967281) (ha : AsciiB s) (h0 : 0 ≤ r) (hv : Lib.validRune r = true) (hn : r < 128 → Lib.indexByte s.data.toList r.toNat.toUInt8 = -1) :
    Calls P (ρ.f 152) #[.string s, .int .i32 r] w fun e w' => e = .returned (.int .i64 (-1)) ∧ Below w.heap.size w w' := by
  rcases Int.lt_or_le r 128 with h | h
  · refine (Any.strings_IndexRune_ascii L s r w h0 h).mono ?_
    rintro e w' ⟨rfl, rfl⟩
    exact ⟨by rw [hn h], Below.refl _ _⟩
  by_cases he : r = 65533
  · subst he
    refine (idxRune_err L s w ha).mono ?_
    rintro e w' ⟨rfl, pos, rfl⟩
    exact ⟨rfl, (Below.refl _ _).alloc (Nat.le_refl _) _⟩
  have h2 : r ≤ 1114111 := by
    simp only [Lib.validRune, decide_eq_true_eq] at hv
    omega
  obtain ⟨k, z, hk, hk1, hz, hz1⟩ := encode_last r h
  have hz2 : (Utf8.encode r)[k]'(by omega) = z := by
    have := Lib.data_getElem? (Utf8.encode r) k (by omega)
    rw [hz] at this
    exact (Option.some.inj this).symm
  refine idxRune_big L s r w h h2 he hv _ rfl k hk hk1 z hz2 hs (fun i hi => noIdx fun b hb e => ?_) (fun i hi e => ?_)
  · have : b ∈ s.data.toList := by
      rw [ByteArray.data_extract, Array.toList_extract] at hb
      exact List.mem_of_mem_drop (List.mem_of_mem_take hb)
    obtain ⟨j, hj⟩ := List.getElem?_of_mem this
    have := ha j b hj
    rw [e] at this
    omega
  · have := asciiB_at ha i hi
    rw [e] at this
    omega

theorem below_iterAt {B : Nat} (w : World) (k : Nat) (h : B ≤ k) (s : ByteArray) (p : Nat) : Below B w (w.iterAt k s p) := by
  refine ⟨rfl, rfl, rfl, by simp [World.iterAt], fun j hj => ?_⟩
  have : ¬ k = j := by omega
  simp [World.iterAt, Array.getElem?_setIfInBounds, this]

set_option maxHeartbeats 8000000 in
set_option maxRecDepth 1000000 in
theorem idxAny_no (L : Lays.n153 P ρ) (s chars : ByteArray) (w : World) (h2 : 2 ≤ chars.size) (hcs : chars.size < 4294967281) (h8 : s.size ≤ 8) (hascii : AsciiB chars) (hno : ∀ x : UInt8, x.toNat < 128 → s.data.toList.contains x = true → Lib.indexByte chars.data.toList x = -1) :
    Calls P (ρ.f 153) #[.string s, .string chars] w fun e w' => e = .returned (.int .i64 (-1)) ∧ Below w.heap.size w w' := by
  have HA : Aside (AsciiB chars) := hascii
  have HN : Aside (∀ x : UInt8, x.toNat < 128 → s.data.toList.contains x = true → Lib.indexByte chars.data.toList x = -1) := hno
  clear hascii hno
  have hemp : chars.toList.isEmpty = false := by
    rw [Lib.toList_data]
    cases h : chars.data.toList with
    | nil => have := Lib.size_eq chars; rw [h, List.length_nil] at this; omega
    | cons _ _ => rfl
  have hn1 : ((chars.size : Int) == 1) = false := beq_eq_false_iff_ne.2 (by omega)
  have h8z : decide ((8 : Int) < (s.size : Int)) = false := decide_eq_false (by omega)
  have t3 := L.t3; have a3 := L.a3; have z3 := L.z3; have v3 := L.v3
  have t4 := L.t4; have a4 := L.a4; have z4 := L.z4; have v4 := L.v4
  have t5 := L.t5; have a5 := L.a5; have z5 := L.z5; have v5 := L.v5
  have t9 := L.t9; have a9 := L.a9; have z9 := L.z9; have v9 := L.v9
  have t21 := L.t21; have a21 := L.a21; have z21 := L.z21; have v21 := L.v21
  have e152 : ∀ args w, (callFunc (ρ.f 152) args).run P w = .ok (.enter (ρ.f 152) args) w := enters_of L.f152 (by kernel_rfl) rfl
  have e226 : ∀ args w, (callFunc (ρ.f 226) args).run P w = .ok (.enter (ρ.f 226) args) w := enters_of L.f226 (by kernel_rfl) rfl
  go_enter L.f153, Body.n153_ntmps ρ
  go_wp2_with (go_at_fn (ρ.f 226); refine (Any.strings_shouldUseASCIISet { L with } _ _).mono ?_; rintro e w' ⟨rfl, hw⟩; rw [hw, h8z])
  go_loopg [9, 10] s.size (fun g _ _ wx => ∃ i : Nat, g = s.size - i ∧ wx.heap[w.heap.size]? = some (.stringIter s i) ∧ Below w.heap.size w wx)
  case atStart => exact ⟨0, by omega, World.iter_heap w s 0, (Below.refl _ _).alloc (Nat.le_refl _) _⟩
  case round =>
    obtain ⟨i, hig, hit, hb⟩ := hrel
    have HB : Aside (Below w.heap.size w wr) := hb
    clear hb
    by_cases hlt : i < s.size
    rotate_left
    · have hnx := fun ty => run_next_end_at (P := P) wr w.heap.size s i ty hit hlt
      go_wp2
      go_ret
      exact ⟨rfl, HB.out⟩
    · have hnx := fun ty => run_next_any_at (P := P) wr w.heap.size s i ty hit hlt
      have hw1 := Lib.iterAt_heap wr w.heap.size s i (i + (Utf8.decode s i).2) hit
      have hv : Lib.validRune ((Utf8.decode s i).1 : Int) = true := by
        rw [← Lib.decodeL_drop, Lib.decodeL_N, Lib.validRune, decide_eq_true_eq]
        have := Lib.decodeN_valid (s.data.toList.drop i).length ((s.data.toList.drop i).getD 0 0).toNat ((s.data.toList.drop i).getD 1 0).toNat ((s.data.toList.drop i).getD 2 0).toNat ((s.data.toList.drop i).getD 3 0).toNat ((s.data.toList.drop i).getD 0 0).toNat_lt
        omega
      have hd : 1 ≤ (Utf8.decode s i).2 ∧ (((Utf8.decode s i).1 : Int) < 128 → Lib.indexByte chars.data.toList ((Utf8.decode s i).1 : Int).toNat.toUInt8 = -1) := by
        rcases Nat.lt_or_ge (s[i]'hlt).toNat 128 with h | h
        · rw [decode_ascii s i hlt h]
          refine ⟨Nat.le_refl _, fun _ => ?_⟩
          have e : (((s[i]'hlt).toNat : Int)).toNat.toUInt8 = s[i]'hlt := by simp
          rw [e]
          refine HN.out _ h ?_
          rw [List.contains_iff_mem]
          exact List.mem_of_getElem? (Lib.data_getElem? s i hlt)
        · have := decode_high s i hlt h
          exact ⟨this.2, fun h2 => by omega⟩
      have hle := decode_le s i
      have HD : Aside (1 ≤ (Utf8.decode s i).2 ∧ (((Utf8.decode s i).1 : Int) < 128 → Lib.indexByte chars.data.toList ((Utf8.decode s i).1 : Int).toNat.toUInt8 = -1)) := hd
      have HV : Aside (Lib.validRune ((Utf8.decode s i).1 : Int) = true) := hv
      clear hd hv
      have HW : Aside ((wr.iterAt w.heap.size s (i + (Utf8.decode s i).2)).heap[w.heap.size]? = some (.stringIter s (i + (Utf8.decode s i).2))) := hw1
      clear hw1
      generalize Utf8.decode s i = d at *
      have hb2 : Below w.heap.size wr (wr.iterAt w.heap.size s (i + d.2)) := below_iterAt wr _ (Nat.le_refl _) s _
      have HB2 : Aside (Below w.heap.size wr (wr.iterAt w.heap.size s (i + d.2))) := hb2
      clear hb2
      generalize wr.iterAt w.heap.size s (i + d.2) = w1 at *
      go_wp2_with (go_at_fn (ρ.f 152); refine (idxRune_no { L with } _ _ _ hcs HA.out (by omega) HV.out HD.out.2).mono ?_; rintro e w' ⟨rfl, hw⟩)
      go_roundg (s.size - (i + d.2))
      case measure => have := HD.out.1; omega
      case rel =>
        have hlt2 := (Array.getElem?_eq_some_iff.1 HW.out).1
        exact ⟨i + d.2, rfl, by rw [hw.block _ hlt2]; exact HW.out, (HB.out.trans HB2.out).trans (hw.mono (by omega))⟩

set_option maxHeartbeats 1000000 in
theorem cAny_of (L : Lays.n150 P ρ) (s chars : ByteArray) (w : World) (r : Int) (c : Calls P (ρ.f 153) #[.string s, .string chars] w fun e w' => e = .returned (.int .i64 r) ∧ Below w.heap.size w w') :
    Calls P (ρ.f 150) #[.string s, .string chars] w fun e w' => e = .returned (.bool (decide (0 ≤ r))) ∧ Below w.heap.size w w' := by
  have t3 := L.t3; have a3 := L.a3; have z3 := L.z3; have v3 := L.v3
  have t4 := L.t4; have a4 := L.a4; have z4 := L.z4; have v4 := L.v4
  have t9 := L.t9; have a9 := L.a9; have z9 := L.z9; have v9 := L.v9
  have e153 : ∀ args w, (callFunc (ρ.f 153) args).run P w = .ok (.enter (ρ.f 153) args) w := enters_of L.f153 (by kernel_rfl) rfl
  go_enter L.f150, Body.n150_ntmps ρ
  go_wp2_with (go_at_fn (ρ.f 153); refine c.mono ?_; rintro e w' ⟨rfl, hw⟩)
  go_ret
  exact ⟨rfl, hw⟩

/-- None of the bytes of a text is one of some ASCII ones. -/
theorem cAny_none (L : Lays.n150 P ρ) (h116 : (P.info? (ρ.t 116)).map (fun i => (i.zero, i.size)) = some (some (.agg (Array.replicate 256 (.bool false))), 256)) (s chars : ByteArray) (w : World) (h2 : 2 ≤ chars.size) (hs : s.size < 4294967281) (hcs : chars.size < 4294967281) (ha : AsciiB chars)
    (hn : ∀ b ∈ s.data.toList, chars.data.toList.contains b = false) :
    Calls P (ρ.f 150) #[.string s, .string chars] w fun e w' => e = .returned (.bool (Lib.containsAny s.data.toList chars.data.toList)) ∧ Below w.heap.size w w' := by
  have hi : Lib.indexAny s.data.toList chars.data.toList = -1 := Lib.indexAny_none fun j b _ hb => hn b (List.mem_of_getElem? hb)
  have hc : Lib.containsAny s.data.toList chars.data.toList = decide ((0 : Int) ≤ -1) := by rw [Lib.containsAny, hi]
  rw [hc]
  refine cAny_of L s chars w (-1) ?_
  by_cases h8 : s.size ≤ 8
  · refine idxAny_no { L with } s chars w h2 hcs h8 ha fun x hx hm => noIdx fun b hb e => ?_
    rw [List.contains_iff_mem] at hm
    have := hn x hm
    rw [← e, ← Bool.not_eq_true, List.contains_iff_mem] at this
    exact this hb
  · refine (Any.strings_IndexAny_long { L with } (zero_of_info h116).1 (zero_of_info h116).2 s chars w h2 (by omega) hs hcs ha).mono fun e w' ⟨h1, h2⟩ => ⟨by rw [h1, hi], ?_⟩
    rw [h2]
    exact ((Below.refl _ _).alloc (Nat.le_refl _) _).alloc (by simp) _

end Go.SV

/- A strings.Builder in the abstract machine: its check of copies, and its text. Own text of the prover; nothing is assumed. -/
import Derived.Test.YtmbaaiifdjoibaaGreatDoorLd
import Derived.Shelf.Strings.Builder1
set_option maxRecDepth 100000
namespace Go.SV
open Go.Proofs Go.Shelf Go.RowKit
variable {P : Program} {ρ : Ren} {E : Env} {H : AH} {w : World}

set_option maxHeartbeats 2000000 in
theorem text_walk (L : Lays.n169 P ρ) (X : Builder.Extra P ρ) (b n cap : Nat) (p q : Option Addr) (s : ByteArray) (w w2 : World)
    (c1 : w.drew.cell? ⟨b, 1, none⟩ = some (.slice p n cap))
    (hSD : (Builtin.unsafeSliceData_ #[(ρ.t 37)] (ρ.t 127) #[.slice p n cap]).run P w.drew = .ok (.pointer q) w.drew)
    (hUS : (Builtin.unsafeString_ #[(ρ.t 127), (ρ.t 3)] (ρ.t 9) #[.pointer q, .int .i64 n]).run P w.drew = .ok (.string s) w2) :
    Calls P (ρ.f 169) #[.pointer (some ⟨b, 0, none⟩)] w fun e w' => e = .returned (.string s) ∧ w' = w2 := by
  have mixed := L.mixed
  have t72 := L.t72; have a72 := L.a72; have z72 := L.z72; have v72 := L.v72; have u72 := run_underlying L.t72
  have t70 := L.t70; have a70 := L.a70; have z70 := L.z70; have v70 := L.v70; have u70 := run_underlying L.t70
  have t37 := L.t37; have a37 := L.a37; have z37 := L.z37; have v37 := L.v37; have u37 := run_underlying L.t37
  have t127 := L.t127; have a127 := L.a127; have z127 := L.z127; have v127 := L.v127; have u127 := run_underlying L.t127
  have t3 := L.t3; have a3 := L.a3; have z3 := L.z3; have v3 := L.v3; have u3 := run_underlying L.t3
  have t9 := L.t9; have a9 := L.a9; have z9 := L.z9; have v9 := L.v9; have u9 := run_underlying L.t9
  have t5 := X.t5; have a5 := X.a5; have z5 := X.z5; have v5 := X.v5; have u5 := run_underlying X.t5
  go_enter L.f169, Body.n169_ntmps ρ
  go_wp2
  go_region_o
  all_goals (go_wp2; go_ret; exact ⟨rfl, rfl⟩)

/-- Freezing the head of a row that grows. -/
theorem HRel.freezeTok (hH : HRel E H w) {t n s k tt : Nat} (ht : E.cl t = some (n, s)) (htt : H.toks[t]? = some (n, s, tt)) (h8 : tt ≠ 0) (hk : k ≤ n * s) :
    HRel E H (w.freeze ⟨(E.tk t).r, 0, none⟩ k) ∧ Step E H w E H (w.freeze ⟨(E.tk t).r, 0, none⟩ k) := by
  obtain ⟨h1, te, h2, rc, e, fz, hb, h3, h4, h5, h6, h7⟩ := hH.tok t n s ht
  rw [htt] at h2
  simp only [Option.some.injEq, Prod.mk.injEq, true_and] at h2
  subst h2
  obtain ⟨_, h0, h9⟩ := h7 h8
  by_cases hk0 : k = 0
  · subst hk0
    rw [show w.freeze ⟨(E.tk t).r, 0, none⟩ 0 = w by simp [World.freeze]]
    exact ⟨hH, .refl _ _ _⟩
  have hw : ∃ fz', w.freeze ⟨(E.tk t).r, 0, none⟩ k = putBlock w (E.tk t).r (.cells rc e fz') ∧ (∀ i, (E.tk t).o + n * s ≤ i → i < rc.size → ¬ (fz'.1 ≤ i ∧ i < fz'.2)) ∧ fz'.1 = 0 := by
    obtain ⟨lo, hi⟩ := fz
    refine ⟨if lo == hi then (0, 0 + k) else (min lo 0, max hi (0 + k)), ?_, ?_, ?_⟩
    · have hlt : (E.tk t).r < w.heap.size := lt_of_heap hb
      simp only [World.freeze, if_neg hk0, putBlock]
      congr 1
      apply Array.ext_getElem?
      intro i
      rw [Array.getElem?_modify, Array.getElem?_setIfInBounds]
      by_cases hi : (E.tk t).r = i
      · subst hi
        rw [if_pos rfl, if_pos rfl, hb]
        simp [hlt]
      · rw [if_neg hi, if_neg hi]
    · intro i hi2 hi3
      have := h5 i hi2 hi3
      simp only at this h9
      split
      · simp only; omega
      · rename_i hne
        have hne : lo ≠ hi := by simpa using hne
        simp only; omega
    · split
      · rfl
      · simp
  obtain ⟨fz', hw, hf, hf0⟩ := hw
  rw [hw]
  have hrlt : (E.tk t).r < w.heap.size := lt_of_heap hb
  have hx : Ext E w E (putBlock w (E.tk t).r (.cells rc e fz')) := by
    refine ⟨fun _ _ h => h, fun _ _ h => h, fun r i v _ hc => ?_, fun _ n _ h => ⟨n, h, Nat.le_refl _, fun _ => rfl⟩, fun _ h => h⟩
    by_cases er : r = (E.tk t).r
    · subst er
      rw [cell_of_block hb] at hc
      rw [cell_of_block (heap_put_same _ _ hrlt)]
      exact hc
    · rw [cell_put_ne _ _ er]; exact hc
  refine ⟨⟨hH.lt, fun b L hb' => (hH.obj b L hb').frame hx (fun hl => heap_put_ne _ _ (hH.apart b L t _ hb' hl ht)) (fun _ _ h => h), hH.inj, fun t' n' s' h => ?_, hH.tinj, hH.apart, fun r i hp => ?_, fun r hr => ?_⟩,
    ⟨hx, rfl, rfl, rfl, by rw [size_put]; exact Nat.le_refl _, fun r hr ho => ⟨ho, heap_put_ne _ _ fun er => ho (.inr ⟨t, _, ht, er.symm⟩)⟩, Nat.le_refl _, Nat.le_refl _, fun _ _ _ h => h⟩⟩
  · by_cases et : t' = t
    · subst et
      rw [ht] at h
      injection h with h
      injection h with e1 e2
      subst e1; subst e2
      exact ⟨h1, tt, htt, rc, e, fz', heap_put_same _ _ hrlt, h3, h4, hf, h6, fun h => ⟨(h7 h).1, (h7 h).2.1, .inr hf0⟩⟩
    · obtain ⟨a, te', b, c⟩ := hH.tok t' n' s' h
      exact ⟨a, te', b, c.frame (heap_put_ne _ _ fun he => et (hH.tinj t' t _ _ h ht he)) (fun _ h => h)⟩
  · obtain ⟨v, hv⟩ := hH.prot r i hp
    exact ⟨v, hx.cell r i v hp hv⟩
  · obtain ⟨i1, i2, i3⟩ := hH.inert r hr
    exact ⟨by rw [size_put]; exact i1, i2, i3⟩

def byteOf : AV → UInt8
  | .int _ n => UInt8.ofNat n.toNat
  | _ => 0

/-- The text of a Builder: its row of bytes. -/
def gText (u8 : Nat) : List AV → AH → Option (AV × AH)
  | [.ptr b 0], H => match H.get b with
    | .cells [.bnil, .nils] => some (.str [], H)
    | .cells [.bnil, .sl t 1 xs] => if t ≠ 0 ∧ H.toks[t]? = some (xs.length, 1, u8) ∧ xs ≠ [] ∧ xs.length < 2 ^ 60 ∧ xs.all (fun x => match x with | .int .u8 n => decide (0 ≤ n ∧ n < 256) | _ => false) = true then some (.str (xs.map byteOf), H) else none
    | _ => none
  | _, _ => none

/-- The check of a Builder that it was not copied. -/
def gCopy : List AV → AH → Option (AV × AH)
  | [.ptr b 0], H => match H.get b with
    | .cells (.bnil :: _) => some (.tup [], H)
    | _ => none
  | _, _ => none

theorem gCopy_ok {T : Laid} {f bt : Nat}
    (hU : ∀ (b : Nat) (w : World), w.cell? ⟨b, 0, none⟩ = some (.pointer (some ⟨b, 0, none⟩)) → Calls P f #[.pointer (some ⟨b, 0, none⟩)] w fun e w' => e = .returned (.tuple #[]) ∧ w' = w)
    (hF : ∀ (b : Nat) (w : World), w.cell? ⟨b, 0, none⟩ = some (.pointer none) → w.shape? b = some (bt, 2) → w.frozen? ⟨b, 0, none⟩ = false → Calls P f #[.pointer (some ⟨b, 0, none⟩)] w fun e w' => e = .returned (.tuple #[]) ∧ w' = w.setCell ⟨b, 0, none⟩ (.pointer (some ⟨b, 0, none⟩)))
    (hB : ∀ e n o, lbB e n o = true → e = bt ∧ n = 2 ∧ o = 0) {args : List AV} {H : AH} {v : AV} {H' : AH} (hg : gCopy args H = some (v, H')) : CallSim P T f args H v H' := by
  unfold gCopy at hg
  split at hg
  · rename_i b
    split at hg
    · rename_i cs hc
      simp only [Option.some.injEq, Prod.mk.injEq] at hg
      obtain ⟨rfl, rfl⟩ := hg
      intro E w rargs hH hr ha
      obtain ⟨u, rfl, hu⟩ := ha.one
      cases hu with
      | ptr _ _ L' hL =>
        have ho := hH.obj b L' hL
        rw [hc] at ho
        obtain ⟨rc, e, fz, h1, h2, h3, h4, h5, h6, h7⟩ := ho
        obtain ⟨h8, h9⟩ := h7 0 .bnil rfl rfl
        obtain ⟨rfl, hsz, hd⟩ := hB _ _ _ h8
        simp only [Nat.add_zero] at hd
        rw [hd] at h9
        simp only [Nat.add_zero, Nat.zero_add] at h9
        rw [hd, Nat.add_zero]
        rcases h9 with h9 | h9
        · refine (hF L'.r w (by rw [cell_of_block h1]; exact h9) (by simp [World.shape?, h1, hsz]) ?_).mono ?_
          · have := h5.no 0 (by omega)
            simp only [World.frozen?, h1]
            simpa using this
          · rintro e w' ⟨rfl, rfl⟩
            obtain ⟨a, c⟩ := hH.putRef hL (by rw [hc]; rfl) (.cells (rc.setIfInBounds 0 (.pointer (some ⟨L'.r, 0, none⟩))) e fz) (.cells (.bnil :: cs)) (fun hx hnp => by
              refine ⟨_, _, fz, heap_put_same _ _ (lt_of_heap h1), by simpa using h2, h3, fun j x hj => ?_, h5, hnp, fun j x hj hb => ?_⟩
              · cases j with
                | zero =>
                  simp only [List.getElem?_cons_zero, Option.some.injEq] at hj
                  subst hj
                  exact ⟨_, by rw [hd]; simp [show 0 < rc.size by omega]; rfl, .bnil _⟩
                | succ j =>
                  obtain ⟨u, hu, hv⟩ := h4 _ x hj
                  refine ⟨u, ?_, hv.mono hx⟩
                  rw [Array.getElem?_setIfInBounds_ne (by omega)]
                  exact hu
              · obtain ⟨g1, g2⟩ := h7 j x hj hb
                obtain ⟨_, _, g3⟩ := hB _ _ _ g1
                refine ⟨by simpa using g1, .inr ?_⟩
                rw [g3]
                simp [show 0 < rc.size by omega])
            have he : AH.mk (H.obs.set b (.cells (.bnil :: cs))) H.toks = H := by
              have : H.obs.set b (.cells (.bnil :: cs)) = H.obs := by
                have hlt := hH.lt b L' hL
                have : H.obs[b] = .cells (.bnil :: cs) := by
                  simp only [AH.get, List.getElem?_eq_getElem hlt, Option.getD_some] at hc
                  exact hc
                rw [← this]
                exact List.set_getElem_self hlt
              rw [this]
            rw [he] at a c
            have hw : w.setCell ⟨L'.r, 0, none⟩ (.pointer (some ⟨L'.r, 0, none⟩)) = putBlock w L'.r (.cells (rc.setIfInBounds 0 (.pointer (some ⟨L'.r, 0, none⟩))) e fz) := setCell_put h1 _
            rw [hw]
            exact ⟨E, _, rfl, .tup _ _ rfl (fun j a u h => by simp at h), a, c⟩
        · refine (hU L'.r w (by rw [cell_of_block h1]; exact h9)).mono ?_
          rintro e w' ⟨rfl, rfl⟩
          exact ⟨E, _, rfl, .tup _ _ rfl (fun j a u h => by simp at h), hH, .refl _ _ _⟩
    · simp at hg
  · simp at hg

theorem gText_ok {T : Laid} (L : Lays.n169 P ρ) (X : Builder.Extra P ρ) (hB : ∀ e n o, lbB e n o = true → e = ρ.t 72 ∧ n = 2 ∧ o = 0) (h5 : ρ.t 5 ≠ 0) {args : List AV} {H : AH} {v : AV} {H' : AH} (hg : gText (ρ.t 5) args H = some (v, H')) : CallSim P T (ρ.f 169) args H v H' := by
  unfold gText at hg
  split at hg
  · rename_i b
    split at hg
    · rename_i hc
      simp only [Option.some.injEq, Prod.mk.injEq] at hg
      obtain ⟨rfl, rfl⟩ := hg
      intro E w rargs hH hr ha
      obtain ⟨u, rfl, hu⟩ := ha.one
      cases hu with
      | ptr _ _ L' hL =>
        have ho := hH.obj b L' hL
        rw [hc] at ho
        obtain ⟨rc, e, fz, h1, h2, h3, h4, _, h6, h7⟩ := ho
        obtain ⟨h8, _⟩ := h7 0 .bnil rfl rfl
        obtain ⟨_, _, hd⟩ := hB _ _ _ h8
        simp only [Nat.add_zero] at hd
        obtain ⟨u, hu, hv⟩ := h4 1 .nils rfl
        rw [hd, Nat.zero_add] at hu
        cases hv
        rw [hd, Nat.add_zero]
        obtain ⟨hD, sD⟩ := hH.drew (w.drawn + 1)
        refine (text_walk L X L'.r 0 0 none none .empty w w.drew (by rw [show w.drew.cell? ⟨L'.r, 1, none⟩ = w.cell? ⟨L'.r, 1, none⟩ from rfl, cell_of_block h1]; exact hu) rfl (Lib.run_unsafeString_none _ _ _ _ _)).mono ?_
        rintro e w' ⟨rfl, rfl⟩
        exact ⟨E, _, rfl, .str [], hD, sD⟩
    · rename_i t xs hc
      split at hg
      · rename_i hcond
        obtain ⟨ht, htk, hne, hlen, hall⟩ := hcond
        simp only [Option.some.injEq, Prod.mk.injEq] at hg
        obtain ⟨rfl, rfl⟩ := hg
        intro E w rargs hH hr ha
        obtain ⟨u, rfl, hu⟩ := ha.one
        cases hu with
        | ptr _ _ L' hL =>
          have ho := hH.obj b L' hL
          rw [hc] at ho
          obtain ⟨rc, e, fz, h1, h2, h3, h4, _, h6, h7⟩ := ho
          obtain ⟨h8, _⟩ := h7 0 .bnil rfl rfl
          obtain ⟨_, _, hd⟩ := hB _ _ _ h8
          simp only [Nat.add_zero] at hd
          obtain ⟨u, hu, hv⟩ := h4 1 (.sl t 1 xs) rfl
          rw [hd, Nat.zero_add] at hu
          rw [hd, Nat.add_zero]
          cases hv with
          | sle => exact absurd rfl ht
          | sl _ _ _ r o cap us hcap hs hcc hp hvv htt h0 =>
            obtain ⟨n, s0, hcl0, hle, he⟩ := htt ht
            obtain ⟨_, te, hts, rc2, e2, fz2, hb2, hn2, hsz2, hfz2, hnp2, hty2⟩ := hH.tok t n s0 hcl0
            rw [htk] at hts
            simp only [Option.some.injEq, Prod.mk.injEq] at hts
            obtain ⟨e1, e3, e4⟩ := hts
            subst e1; subst e3; subst e4
            obtain ⟨_, e5⟩ := he rfl
            obtain ⟨e6, e7, _⟩ := hty2 h5
            have hD := hH.drew (w.drawn + 1)
            have hF := hD.1.freezeTok hcl0 htk h5 (k := xs.length) (by omega)
            rw [e5] at hb2 hn2 hsz2 e7 hF
            simp only at hb2 hn2 hsz2 e7 hF
            subst e7
            have hpos : 0 < xs.length := List.length_pos_iff.2 hne
            have hbyte : ∀ (j : Nat) x, (xs.map byteOf)[j]? = some x → w.cell? ⟨r, j, none⟩ = some (.int .u8 x.toNat) := by
              intro j x hj
              simp only [List.getElem?_map, Option.map_eq_some_iff] at hj
              obtain ⟨y, hy, rfl⟩ := hj
              have hm := List.all_eq_true.1 hall y (List.mem_of_getElem? hy)
              split at hm
              · rename_i m
                simp only [decide_eq_true_eq] at hm
                have h1 := hcc j _ 0 _ hy rfl
                have h2 := hvv j _ 0 _ hy rfl
                simp only [Nat.zero_add, Nat.mul_one, Nat.add_zero] at h1
                rw [h1]
                generalize us j 0 = z at h2
                cases h2
                have : ((UInt8.ofNat m.toNat).toNat : Int) = m := by
                  rw [UInt8.toNat_ofNat']
                  omega
                simp only [byteOf]
                rw [this]
              · simp at hm
            refine (text_walk L X L'.r xs.length cap (some ⟨r, 0, none⟩) (some ⟨r, 0, none⟩) ⟨(xs.map byteOf).toArray⟩ w (w.drew.freeze ⟨r, 0, none⟩ xs.length) (by rw [show w.drew.cell? ⟨L'.r, 1, none⟩ = w.cell? ⟨L'.r, 1, none⟩ from rfl, cell_of_block h1]; exact hu)
              (Lib.run_unsafeSliceData_row _ _ _ _ _ _ (by omega)) ?_).mono ?_
            · have := Lib.run_unsafeString_row (P := P) w.drew (ρ.t 127) (ρ.t 3) (ρ.t 9) (ρ.t 5) L.t127 X.cellsByte r rc2.size (by
                have : w.drew.heap[r]? = some (.cells rc2 e2 fz2) := hb2
                simp [World.shape?, this, e6]) (xs.map byteOf) (by simpa using hne) (by simp; omega) (by simp; omega) (fun j x hj => by
                have := hbyte j x hj
                rw [add_addr]
                simpa using this)
              simpa using this
            · rintro e w' ⟨rfl, rfl⟩
              exact ⟨E, _, rfl, .str _, hF.1, hD.2.trans hF.2⟩
      · simp at hg
    · simp at hg
  · simp at hg

end Go.SV

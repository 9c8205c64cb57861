/- Rows made, marked and sealed; maps; iterators over strings. Own text of the prover; nothing is assumed. -/
import Derived.Test.YtkbkhdgjdikjiaaDoorSi
namespace Go.SV

variable {P : Program} {E E' : Env} {H H' : AH} {w w' : World}

/-! ### Sealing -/
theorem sim_seal (hH : HRel E H w) {b o n s : Nat} {v : Value} (hx : VR E w (.slr b o n s) v) {ys : List AV} (he : elems s (.slr b o n s) H = some ys) (hs : 0 < s) (hok : elemsOk s ys = true) :
    ∃ E', VR E' w (.sl 0 s ys) v ∧ HRel E' ⟨H.obs.set b .dead, H.toks⟩ w ∧ Step E H w E' ⟨H.obs.set b .dead, H.toks⟩ w := by
  simp only [elems, if_true] at he
  split at he
  · rename_i c hc
    split at he
    · rename_i hle
      simp only [Option.some.injEq] at he
      cases hx with
      | slr _ _ _ _ cap o' L hL hn ho =>
        obtain ⟨h1, h2⟩ := ref_cells hH hL hc
        have hspec := elemsOk_spec hok
        have hlen : ys.length = n := by rw [← he]; simp
        have hyc : ∀ (i : Nat) x, ys[i]? = some x → i < n ∧ x.cells = (c.drop (o + i * s)).take s := by
          intro i x hi
          rw [← he] at hi
          have := inL hi
          simp only [List.length_map, List.length_range] at this
          simp only [List.getElem?_map, List.getElem?_range this, Option.map_some, Option.some.injEq] at hi
          subst hi
          exact ⟨this, mkElem_cells _⟩
        have hcell : ∀ (i : Nat) x (j : Nat) c', ys[i]? = some x → x.cells[j]? = some c' → i < n ∧ j < s ∧ c[o + (i * s + j)]? = some c' := by
          intro i x j c' hi hj
          obtain ⟨a, b'⟩ := hyc i x hi
          rw [b'] at hj
          have hj2 := inL hj
          simp only [List.length_take, List.length_drop] at hj2
          rw [List.getElem?_take, if_pos (by omega), List.getElem?_drop] at hj
          exact ⟨a, by omega, by rw [← hj]; congr 1; omega⟩
        obtain ⟨hS, sS⟩ := hH.sealR hL (by rw [hc]; rfl) (L.d + o) (n * s) (fun i hi => by
          obtain ⟨u, hu, _⟩ := h2 (o + i) _ (List.getElem?_eq_getElem (by omega))
          exact ⟨u, by rw [Nat.add_assoc]; exact hu⟩)
        have hsz : ∀ (i : Nat) x, ys[i]? = some x → x.cells.length = s := fun i x hi => (hspec x (List.mem_of_getElem? hi)).2.1
        by_cases hn0 : n = 0
        · subst hn0
          have hy0 : ys = [] := List.eq_nil_of_length_eq_zero hlen
          subst hy0
          exact ⟨_, .sl 0 s [] L.r o' cap (fun _ _ => undef) (Nat.zero_le _) (fun i x h => by simp at h) (fun i x j c h => by simp at h) (fun i x j c h => by simp at h) (fun i x j c h => by simp at h) (fun h => absurd rfl h) (fun _ => Or.inr rfl), hS, sS⟩
        · obtain ⟨ho1, _⟩ := ho (by omega)
          subst ho1
          subst hlen
          refine ⟨_, ?_, hS, sS⟩
          refine .sl 0 s ys L.r (L.d + o) cap (fun i j => (w.cell? ⟨L.r, L.d + o + i * s + j, none⟩).getD undef) (by omega) hsz (fun i x j c' hi hj => ?_) (fun i x j c' hi hj => ?_) (fun i x j c' hi hj => ?_) (fun h => absurd rfl h) (fun _ => Or.inr rfl)
          · obtain ⟨a, b', c1⟩ := hcell i x j c' hi hj
            obtain ⟨u, hu, hv⟩ := h2 _ c' c1
            rw [show L.d + o + i * s + j = L.d + (o + (i * s + j)) by omega, hu]; rfl
          · obtain ⟨a, b', c1⟩ := hcell i x j c' hi hj
            have : (i + 1) * s ≤ ys.length * s := Nat.mul_le_mul_right s (by omega)
            rw [Nat.succ_mul] at this
            exact Or.inr ⟨rfl, by omega, by omega⟩
          · obtain ⟨a, b', c1⟩ := hcell i x j c' hi hj
            obtain ⟨u, hu, hv⟩ := h2 _ c' c1
            rw [show L.d + o + i * s + j = L.d + (o + (i * s + j)) by omega, hu]
            exact hv.mono sS.ext
    · simp at he
  · simp at he

/-! ### Rows made -/
theorem flat_rep (z : List AV) (n i : Nat) (h : i < n * z.length) : ((List.replicate n z).flatten)[i]? = z[i % z.length]? := by
  induction n generalizing i with
  | zero => simp at h
  | succ n ih =>
    rw [List.replicate_succ, List.flatten_cons]
    rcases Nat.lt_or_ge i z.length with hlt | hge
    · rw [List.getElem?_append_left hlt, Nat.mod_eq_of_lt hlt]
    · rw [List.getElem?_append_right hge]
      rw [Nat.succ_mul] at h
      rw [ih (i - z.length) (by omega), Nat.mod_eq_sub_mod hge]

theorem run_make {t e s bytes : Nat} (hu : P.underlying t = some (.slice e)) (hs : sizeT P e = some s) (hb : bytesT P e = some bytes) {z : Value} (hz : zeroT P e = some z) {zz : AV} (hzz : VR E w zz z) (hzd : zz.def? = true) {l c : Int} {kl kc : IntKind}
    (h : 0 ≤ l ∧ l ≤ c ∧ bytes * c ≤ 2 ^ 48 ∧ c < 2 ^ 62 ∧ zz.cells.length = s) :
    ∃ cells : Array Value, (Instr.makeSlice t (.int kl l) (.int kc c)).run P w = .ok (.slice (some ⟨w.heap.size, 0, none⟩) l.toNat c.toNat) (w.alloc (.cells cells e)) ∧ cells.size = c.toNat * s ∧
      ∀ (j : Nat) x u, ((List.replicate c.toNat zz.cells).flatten)[j]? = some x → cells[j]? = some u → VR E w x u := by
  obtain ⟨h0, h1, h2, h3, h4⟩ := h
  have hdef : zz ≠ .undef := by rintro rfl; simp [AV.def?] at hzd
  obtain ⟨hzs, hzv⟩ := hzz.cells hdef
  simp only [bytesT, Option.map_eq_some_iff] at hb
  obtain ⟨i, hi, hib⟩ := hb
  have wl : IntKind.i64.wrap l = l := by unfold IntKind.wrap; simp [IntKind.bits, IntKind.signed]; omega
  have wc : IntKind.i64.wrap c = c := by unfold IntKind.wrap; simp [IntKind.bits, IntKind.signed]; omega
  let cells : Array Value := (Array.range (c.toNat * s)).map fun k => (if c.toNat * s = 0 then #[] else z.cells)[k % (if c.toNat * s = 0 then (#[] : Array Value) else z.cells).size]!
  have hcs : cells.size = c.toNat * s := by simp [cells]
  have hfl : ((List.replicate c.toNat zz.cells).flatten).length = c.toNat * s := by simp [h4]
  refine ⟨cells, ?_, hcs, ?_⟩
  · have hnr : (newRow e cells).run P w = .ok ⟨w.heap.size, 0, none⟩ (w.alloc (.cells cells e)) := rfl
    simp only [Instr.makeSlice, Sem.run_bind, r_under hu, Result.andThen_ok, asInt, asIntOf, pure_bind, Sem.run_pure, r_typeInfo hi, wl, wc, hib]
    rw [if_neg (by simp; omega)]
    simp only [Sem.run_bind, run_askRoom, Result.andThen_ok, r_sizeOf hs]
    by_cases hz0 : c.toNat * s = 0
    · simp only [hz0, if_true, Sem.run_pure, pure_bind, Sem.run_bind] at hnr ⊢
      have hcc : cells = (Array.range 0).map fun k => (#[] : Array Value)[k % (#[] : Array Value).size]! := by simp [cells, hz0]
      rw [← hcc, hnr]; rfl
    · simp only [hz0, if_false, Sem.run_bind, r_zero hz, Result.andThen_ok, Sem.run_pure] at hnr ⊢
      have hcc : cells = (Array.range (c.toNat * s)).map fun k => z.cells[k % z.cells.size]! := by simp [cells, hz0]
      rw [← hcc, hnr]; rfl
  · intro j x u hj hu
    have hlt := inL hj
    rw [hfl] at hlt
    rw [flat_rep _ _ _ (by rw [h4]; exact hlt)] at hj
    have hs0 : 0 < s := by
      rcases Nat.eq_zero_or_pos s with h | h
      · subst h; simp at hlt
      · exact h
    have hmod : j % zz.cells.length < z.cells.size := by rw [← hzs, h4]; exact Nat.mod_lt _ hs0
    have hne : c.toNat * s ≠ 0 := by omega
    simp only [cells, hne, if_false] at hu
    rw [Array.getElem?_map, Array.getElem?_range] at hu
    rw [if_pos hlt] at hu
    simp only [Option.map_some, Option.some.injEq] at hu
    refine hzv _ x u hj ?_
    rw [← hu, hzs]
    rw [hzs] at hmod
    rw [getElem!_pos z.cells _ hmod, Array.getElem?_eq_getElem hmod]

theorem mkElem_ne (cs : List AV) : mkElem cs ≠ .undef := by
  unfold mkElem
  split
  · split
    · rename_i h; intro e; rw [e] at h; simp [AV.isCell] at h
    · simp
  · simp

theorem rep_flat (z : List AV) : ∀ n, (List.replicate n (mkElem z)).flatMap AV.cells = (List.replicate n z).flatten := by
  intro n
  induction n with
  | zero => rfl
  | succ n ih => simp only [List.replicate_succ, List.flatMap_cons, List.flatten_cons, ih, mkElem_cells]

theorem rep_prefix {z : List AV} {l c j : Nat} {x : AV} (h : l ≤ c) (hj : ((List.replicate l z).flatten)[j]? = some x) : ((List.replicate c z).flatten)[j]? = some x := by
  obtain ⟨d, rfl⟩ : ∃ d, c = l + d := ⟨c - l, by omega⟩
  rw [← List.replicate_append_replicate, List.flatten_append, List.getElem?_append_left (inL hj)]
  exact hj

theorem sim_make (hH : HRel E H w) (htk : 0 < H.toks.length) (m : Mode) {t e s bytes : Nat} (hu : P.underlying t = some (.slice e)) (hs : sizeT P e = some s) (hb : bytesT P e = some bytes) {z : Value} (hz : zeroT P e = some z) {zz : AV} (hzz : VR E w zz z) (hzd : zz.def? = true) {l c : Int} {kl kc : IntKind}
    (h : 0 ≤ l ∧ l ≤ c ∧ bytes * c ≤ 2 ^ 48 ∧ c < 2 ^ 62 ∧ zz.cells.length = s) {v : AV} (hr : (match m with
          | .ref => (AV.slr H.obs.length 0 l.toNat s, (⟨H.obs ++ [.cells ((List.replicate c.toNat zz.cells).flatten)], H.toks⟩ : AH))
          | .tok => (.sl H.toks.length s (List.replicate l.toNat (mkElem zz.cells)), ⟨H.obs, H.toks ++ [(l.toNat, s)]⟩)
          | .ro => (.sl 0 s (List.replicate l.toNat (mkElem zz.cells)), H)) = (v, H')) :
    Sim P (Instr.makeSlice t (.int kl l) (.int kc c)) E H w v H' := by
  obtain ⟨cells, hrun, hcs, hcv⟩ := run_make (w := w) (E := E) (kl := kl) (kc := kc) hu hs hb hz hzz hzd h
  obtain ⟨h0, h1, h2, h3, h4⟩ := h
  have hfl : ((List.replicate c.toNat zz.cells).flatten).length = c.toNat * s := by simp [h4]
  have hok : ∀ x ∈ List.replicate l.toNat (mkElem zz.cells), x ≠ .undef ∧ x.cells.length = s := by
    intro x hx
    obtain ⟨_, rfl⟩ := List.mem_replicate.1 hx
    exact ⟨mkElem_ne _, by rw [mkElem_cells]; exact h4⟩
  have hll : (List.replicate l.toNat (mkElem zz.cells)).length = l.toNat := by simp
  have hmul : l.toNat * s ≤ c.toNat * s := Nat.mul_le_mul_right s (by omega)
  cases m with
  | ref =>
    simp only [Prod.mk.injEq] at hr
    obtain ⟨rfl, rfl⟩ := hr
    obtain ⟨E', a, b, c'⟩ := newRow_ref (s := s) (cap := c.toNat) (n := l.toNat) hH e (xs := (List.replicate c.toNat zz.cells).flatten) (cells := cells) (by omega) (by rw [hcs]; exact Nat.le_refl _) (by rw [hfl, hcs]; exact Nat.le_refl _) hcv
    exact ⟨E', _, _, hrun, a, b, c'⟩
  | tok =>
    simp only [Prod.mk.injEq] at hr
    obtain ⟨rfl, rfl⟩ := hr
    obtain ⟨E', a, b, c'⟩ := newRow_tok hH htk e (0, 0) (s := s) (xs := List.replicate l.toNat (mkElem zz.cells)) (cells := cells) (cap := c.toNat) hok (by rw [hll]; omega) (by rw [hcs]; exact Nat.le_refl _) (fun i _ => by simp; ) (fun j x u hj hu => by
      rw [rep_flat] at hj
      exact hcv j x u (rep_prefix (by omega) hj) hu)
    rw [hll] at a b c'
    exact ⟨E', _, _, hrun, a, b, c'⟩
  | ro =>
    simp only [Prod.mk.injEq] at hr
    obtain ⟨rfl, rfl⟩ := hr
    obtain ⟨E', a, b, c'⟩ := newRow_ro hH e (0, 0) (s := s) (xs := List.replicate l.toNat (mkElem zz.cells)) (cells := cells) (cap := c.toNat) hok (by rw [hll]; omega) (by rw [rep_flat, hcs]; simp [h4]; exact hmul) (fun j x u hj hu => by
      rw [rep_flat] at hj
      exact hcv j x u (rep_prefix (by omega) hj) hu)
    rw [hll] at a
    exact ⟨E', _, _, hrun, a, b, c'⟩

/-! ### A row of bytes that came of a constant's text -/
theorem sim_mark (hH : HRel E H w) {b o n s : Nat} {c : List AV} (hc : H.get b = .cells c) {v : Value} (hx : VR E w (.slr b o n s) v) {t e : Nat} (hu : P.underlying t = some (.slice e)) (he : P.underlying e = some (.int .u8)) :
    Sim P (convert t t v) E H w (.slr b o n s) H := by
  cases hx with
  | slr _ _ _ _ cap o' L hL hn ho =>
    have hobj := hH.obj b L hL
    rw [hc] at hobj
    obtain ⟨rc, e', fz, hb, hR, hlen, hcv, hfz, hnp⟩ := hobj
    let fz' : Nat × Nat := if fz.1 == fz.2 then (rc.size, rc.size + 1) else (min fz.1 rc.size, max fz.2 (rc.size + 1))
    have hfz' : Unfz fz' L.R := by
      simp only [fz']
      split
      · exact .inr (by simp only; omega)
      · rename_i hne
        simp only [beq_iff_eq] at hne
        rcases hfz with h | h
        · exact absurd h hne
        · exact .inr (by simp only; omega)
    obtain ⟨hP, sP⟩ := hH.putRef hL (by rw [hc]; rfl) (.cells rc e' fz') (.cells c) (fun hx' hnp' =>
      ⟨rc, e', fz', heap_put_same _ _ (lt_of_heap hb), hR, hlen, fun j x hj => by
        obtain ⟨u, hu, hv⟩ := hcv j x hj
        exact ⟨u, hu, hv.mono hx'⟩, hfz', hnp'⟩)
    have hset : H.obs.set b (.cells c) = H.obs := by
      apply List.ext_getElem?
      intro i
      rw [List.getElem?_set]
      split
      · rename_i hbi
        subst hbi
        have := hH.lt b L hL
        rw [if_pos this]
        simp only [AH.get] at hc
        rw [List.getElem?_eq_getElem this] at hc ⊢
        simp only [Option.getD_some] at hc
        rw [hc]
      · rfl
    rw [hset] at hP sP
    have hfr : w.freeze ⟨L.r, rc.size, none⟩ 1 = putBlock w L.r (.cells rc e' fz') := by
      have hr := lt_of_heap hb
      unfold World.freeze putBlock
      simp only [Nat.one_ne_zero, if_false]
      congr 1
      apply Array.ext'
      apply List.ext_getElem?
      intro i
      simp only [Array.getElem?_toList, Array.getElem?_modify, Array.getElem?_setIfInBounds]
      by_cases hi : L.r = i
      · subst hi
        rw [hb]
        simp only [if_true, Option.map_some, hr, fz']
      · simp [hi]
    have hsh : w.shape? L.r = some (e', rc.size) := by simp [World.shape?, hb]
    refine ⟨E, _, _, ?_, .slr b o n s cap o' L hL hn ho, hP, sP⟩
    simp only [convert, Sem.run_bind, r_under hu, r_under he, Result.andThen_ok, beq_self_eq_true]
    simp only [markStringish, Sem.run_bind, run_shape, Result.andThen_ok, hsh, run_freeze, Sem.run_pure, hfr]

/-! ### Maps -/
theorem keyEq_cell {K : KeyK} {x y : AV} {b : Bool} (h : keyEq K x y = some b) : x ≠ .undef ∧ y ≠ .undef := by
  cases K with
  | scal k => cases k <;> cases x <;> cases y <;> simp [keyEq, cellEq] at h ⊢
  | struct ks => cases x <;> cases y <;> simp [keyEq] at h ⊢

/-- What a map's key type is, as the machine's '==' takes it. -/
def keyT (P : Program) (t : Nat) : Option KeyK :=
  match scalT P t with
  | some c => some (.scal c)
  | none => match P.underlying t with
    | some (.struct fs) => if P.stoodInHeld t then none else (flatFs P fs.toList 0).map .struct
    | _ => none

theorem keyEq_run {t : Nat} {K : KeyK} (hK : keyT P t = some K) {x y : AV} {vx vy : Value} (hx : VR E w x vx) (hy : VR E w y vy) {b : Bool} (h : keyEq K x y = some b) : (Op.equal t vx vy).run P w = .ok b w := by
  unfold keyT at hK
  split at hK
  · rename_i c hc
    simp only [Option.some.injEq] at hK
    subst hK
    exact cellEq_run hc hx hy h 9999
  · split at hK
    · rename_i fs hu
      split at hK
      · simp at hK
      · rename_i hp
        simp only [Option.map_eq_some_iff] at hK
        obtain ⟨ks, hks, rfl⟩ := hK
        unfold keyEq at h
        simp only at h
        split at h
        · exact structEq_run hu hks (by simpa using hp) hx hy h 9998
        · simp at h
    · simp at hK

end Go.SV

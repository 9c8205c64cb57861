/- The machine's memory operations do what the abstract ones do: loads, stores, new cells, structs and rows that are built. Own text of the prover; nothing is assumed. -/
import Derived.Test.YtkbkhdgjdikjiaaDoorSd
import Derived.Laws.Cells
namespace Go.SV

variable {P : Program} {E E' : Env} {H H' : AH} {w w' : World}

/-- What an operation of the machine comes to, against what the abstract one says. -/
def Sim (P : Program) (s : Sem Value) (E : Env) (H : AH) (w : World) (v : AV) (H' : AH) : Prop :=
  ∃ E' w' v', s.run P w = .ok v' w' ∧ VR E' w' v v' ∧ HRel E' H' w' ∧ Step E H w E' H' w'
def SimU (P : Program) (s : Sem Unit) (E : Env) (H : AH) (w : World) (H' : AH) : Prop :=
  ∃ E' w', s.run P w = .ok () w' ∧ HRel E' H' w' ∧ Step E H w E' H' w'

theorem Sim.same (hH : HRel E H w) {s : Sem Value} {v : AV} {v' : Value} (hr : s.run P w = .ok v' w) (hv : VR E w v v') : Sim P s E H w v H :=
  ⟨E, w, v', hr, hv, hH, .refl _ _ _⟩

theorem add_addr (r o i : Nat) : (⟨r, o, none⟩ : Addr).add i = ⟨r, o + i, none⟩ := by
  unfold Addr.add
  split
  · rename_i h; subst h; rfl
  · rfl

/-! ### Types -/
def sizeT (P : Program) (t : TypeId) : Option Nat := (P.info? t).map (·.size)
def bytesT (P : Program) (t : TypeId) : Option Nat := (P.info? t).map (·.bytes)
def zeroT (P : Program) (t : TypeId) : Option Value := (P.info? t).bind (·.zero)
def isAggD : TypeDesc → Bool
  | .struct _ | .array _ _ => true
  | _ => false

theorem r_typeInfo {t : TypeId} {i : TypeInfo} (h : P.info? t = some i) : (typeInfo t).run P w = .ok i w := by simp [typeInfo, h]
theorem r_under {t : TypeId} {d : TypeDesc} (h : P.underlying t = some d) : (underlying t).run P w = .ok d w := by simp [underlying, h]
theorem r_sizeOf {t n : Nat} (h : sizeT P t = some n) : (sizeOf t).run P w = .ok n w := by
  simp only [sizeT, Option.map_eq_some_iff] at h
  obtain ⟨i, hi, rfl⟩ := h
  simp [sizeOf, r_typeInfo hi]
theorem r_zero {t : Nat} {z : Value} (h : zeroT P t = some z) : (zeroValue t).run P w = .ok z w := by
  simp only [zeroT, Option.bind_eq_some_iff] at h
  obtain ⟨i, hi, hz⟩ := h
  simp [zeroValue, r_typeInfo hi, hz]
theorem r_isAgg {t : Nat} {d : TypeDesc} (h : P.underlying t = some d) : (isAgg t).run P w = .ok (isAggD d) w := by
  simp only [isAgg, Sem.run_bind, r_under h, Result.andThen_ok, isAggD]
  cases d <;> rfl

/-! ### Loads -/
theorem ref_cells (hH : HRel E H w) {b : Nat} {L : Ref} (hb : E.φ b = some L) {c : List AV} (hc : H.get b = .cells c) :
    L.d + c.length ≤ L.R ∧ (∀ (j : Nat) x, c[j]? = some x → ∃ u, w.cell? ⟨L.r, L.d + j, none⟩ = some u ∧ VR E w x u) := by
  have := hH.obj b L hb
  rw [hc] at this
  obtain ⟨rc, e, fz, h1, h2, h3, h4, _⟩ := this
  refine ⟨h3, fun j x hj => ?_⟩
  obtain ⟨u, hu, hv⟩ := h4 j x hj
  exact ⟨u, by rw [cell_of_block h1]; exact hu, hv⟩

/-- Some cells from a place on, as one value. -/
theorem load_cells {cs : List AV} {r o : Nat} {n : Nat} (hn : n ≤ cs.length)
    (h : ∀ (j : Nat) x, cs[j]? = some x → ∃ u, w.cell? ⟨r, o + j, none⟩ = some u ∧ VR E w x u) :
    ∃ vs : Array Value, (loadCells ⟨r, o, none⟩ n).run P w = .ok vs w ∧ vs.size = n ∧ ∀ (j : Nat) a u, (cs.take n)[j]? = some a → vs[j]? = some u → VR E w a u := by
  have hf : ∀ j, j < n → w.cell? ((⟨r, o, none⟩ : Addr).add j) = some ((w.cell? ⟨r, o + j, none⟩).getD undef) := by
    intro j hj
    obtain ⟨u, hu, _⟩ := h j cs[j] (List.getElem?_eq_getElem (by omega))
    rw [add_addr, hu]; rfl
  refine ⟨_, run_loadCells w _ n _ hf, by simp, ?_⟩
  intro j a u ha hu
  have hj : j < n := by
    rcases Nat.lt_or_ge j n with h | h
    · exact h
    · rw [List.getElem?_eq_none (by simp; omega)] at ha; simp at ha
  rw [List.getElem?_take, if_pos hj] at ha
  obtain ⟨v, hv, hr⟩ := h j a ha
  simp [hj, hv] at hu
  exact hu ▸ hr

theorem load_gen {cs : List AV} {r o t : Nat} {d : TypeDesc} (hd : P.underlying t = some d) {n : Option Nat} (hn : n = if isAggD d then sizeT P t else none)
    (hs : (sizeT P t).isSome) {x : AV} (hx : part 0 n cs = some x)
    (h : ∀ (j : Nat) x, cs[j]? = some x → ∃ u, w.cell? ⟨r, o + j, none⟩ = some u ∧ VR E w x u) :
    ∃ v', (loadVar t ⟨r, o, none⟩).run P w = .ok v' w ∧ VR E w x v' := by
  obtain ⟨sz, hsz⟩ := Option.isSome_iff_exists.1 hs
  cases ha : isAggD d with
  | false =>
    simp [ha] at hn
    subst hn
    obtain ⟨u, hu, hv⟩ := h 0 x hx
    exact ⟨u, by simp [loadVar, r_isAgg hd, ha, show w.cell? ⟨r, o, none⟩ = some u from hu], hv⟩
  | true =>
    simp [ha, hsz] at hn
    subst hn
    simp only [part] at hx
    split at hx
    · rename_i hle
      injection hx with hx
      subst hx
      obtain ⟨vs, h1, h2, h3⟩ := load_cells (P := P) (n := sz) (by omega) h
      refine ⟨.agg vs, by simp [loadVar, r_isAgg hd, ha, r_sizeOf hsz, h1], .agg _ _ ?_ ?_⟩
      · simp; omega
      · intro j a u ha' hu; exact h3 j a u (by simpa using ha') hu
    · simp at hx

theorem sim_load (hH : HRel E H w) {t : TypeId} {d : TypeDesc} (hd : P.underlying t = some d) {n : Option Nat} (hn : n = if isAggD d then sizeT P t else none)
    (hs : (sizeT P t).isSome) {a x : AV} {v : Value} (ha : VR E w a v) (hx : aLoad n a H = some x) : Sim P (Instr.loadAt t v) E H w x H := by
  unfold aLoad at hx
  split at hx
  · rename_i b o
    cases ha with
    | ptr _ _ L hL =>
      split at hx
      · rename_i c hc
        obtain ⟨h1, h2⟩ := ref_cells hH hL hc
        have hp : part 0 n (c.drop o) = some x := by
          cases n with
          | none => simpa [part] using hx
          | some n =>
            simp only [part] at hx ⊢
            simp only [List.drop_zero, Nat.zero_add, List.length_drop]
            split at hx
            · rename_i hle; rw [if_pos (by omega)]; exact hx
            · simp at hx
        obtain ⟨v', hr, hv⟩ := load_gen (w := w) (E := E) (r := L.r) (o := L.d + o) hd hn hs hp (fun j y hj => by
          rw [List.getElem?_drop] at hj
          obtain ⟨u, hu, hv⟩ := h2 (o + j) y hj
          exact ⟨u, by rw [Nat.add_assoc]; exact hu, hv⟩)
        exact Sim.same hH (by simp [Instr.loadAt, Instr.sureAddr, hr]) hv
      · simp at hx
  · rename_i cs
    cases ha with
    | vp _ r o us hc hp hv =>
      have hp : part 0 n cs = some x := by
        cases n with
        | none => simpa [part] using hx
        | some n => simpa [part] using hx
      obtain ⟨v', hr, hv⟩ := load_gen (w := w) (E := E) (r := r) (o := o) hd hn hs hp (fun j y hj => ⟨us j, hc j y hj, hv j y hj⟩)
      exact Sim.same hH (by simp [Instr.loadAt, Instr.sureAddr, hr]) hv
  · simp at hx

/-! ### Stores -/
theorem VR.oneCell {a : AV} {v : Value} (h : VR E w a v) (hc : a.isCell = true) : v.oneCell' = true := by
  cases h <;> first | rfl | simp [AV.isCell] at hc

def setCells : Array Value → Nat → List Value → Array Value
  | c, _, [] => c
  | c, o, v :: vs => setCells (c.setIfInBounds o v) (o + 1) vs

theorem setCells_size (vs : List Value) : ∀ (c : Array Value) (o : Nat), (setCells c o vs).size = c.size := by
  induction vs with
  | nil => intro c o; rfl
  | cons v vs ih => intro c o; simp [setCells, ih]

theorem setCells_get (vs : List Value) : ∀ (c : Array Value) (o i : Nat), o + vs.length ≤ c.size →
    (setCells c o vs)[i]? = if o ≤ i ∧ i < o + vs.length then vs[i - o]? else c[i]? := by
  induction vs with
  | nil => intro c o i _; simp [setCells]; omega
  | cons v vs ih =>
    intro c o i h
    simp only [setCells]
    rw [ih _ _ _ (by simp at h ⊢; omega)]
    simp only [List.length_cons]
    by_cases h1 : o + 1 ≤ i ∧ i < o + 1 + vs.length
    · rw [if_pos h1, if_pos (by omega)]
      rw [show i - o = (i - (o + 1)) + 1 by omega, List.getElem?_cons_succ]
    · rw [if_neg h1]
      by_cases h2 : i = o
      · subst h2
        rw [if_pos (by omega)]
        simp at h
        simp [show i < c.size by omega]
      · rw [if_neg (by omega), Array.getElem?_setIfInBounds_ne (by omega)]

theorem splice_get (xs : List AV) : ∀ (c : List AV) (o i : Nat), o + xs.length ≤ c.length →
    (splice c o xs)[i]? = if o ≤ i ∧ i < o + xs.length then xs[i - o]? else c[i]? := by
  induction xs with
  | nil => intro c o i _; simp [splice]; omega
  | cons v vs ih =>
    intro c o i h
    simp only [splice]
    rw [ih _ _ _ (by simp at h ⊢; omega)]
    simp only [List.length_cons]
    by_cases h1 : o + 1 ≤ i ∧ i < o + 1 + vs.length
    · rw [if_pos h1, if_pos (by omega)]
      rw [show i - o = (i - (o + 1)) + 1 by omega, List.getElem?_cons_succ]
    · rw [if_neg h1]
      by_cases h2 : i = o
      · subst h2
        rw [if_pos (by omega)]
        simp at h
        simp [show i < c.length by omega]
      · rw [if_neg (by omega), List.getElem?_set_ne (by omega)]

theorem setCell_put {w : World} {r o : Nat} {c : Array Value} {e : TypeId} {fz : Nat × Nat} (h : w.heap[r]? = some (.cells c e fz)) (v : Value) :
    w.setCell ⟨r, o, none⟩ v = putBlock w r (.cells (c.setIfInBounds o v) e fz) := by
  have hr := lt_of_heap h
  unfold World.setCell putBlock
  congr 1
  apply Array.ext'
  apply List.ext_getElem?
  intro i
  simp only [Array.getElem?_toList, Array.getElem?_modify, Array.getElem?_setIfInBounds]
  by_cases hi : r = i
  · subst hi
    rw [h]; simp [hr]
  · simp [hi]

theorem put_put (w : World) (r : Nat) (O O' : Obj) : putBlock (putBlock w r O) r O' = putBlock w r O' := by
  unfold putBlock
  congr 1
  apply Array.ext'
  apply List.ext_getElem?
  intro i
  simp only [Array.getElem?_toList, Array.getElem?_setIfInBounds, Array.size_setIfInBounds]
  by_cases hi : r = i <;> simp [hi]

theorem put_same {w : World} {r : Nat} {O : Obj} (h : w.heap[r]? = some O) : putBlock w r O = w := by
  have hr := lt_of_heap h
  unfold putBlock
  cases w with
  | mk heap tape drawn os output =>
    congr 1
    apply Array.ext'
    apply List.ext_getElem?
    intro i
    simp only [Array.getElem?_toList, Array.getElem?_setIfInBounds]
    by_cases hi : r = i
    · subst hi; simp at hr; simp only at h; rw [h]; simp [hr]
    · simp [hi]

theorem run_setCells (vs : List Value) : ∀ (w : World) (r o i : Nat) (c : Array Value) (e : TypeId) (fz : Nat × Nat), w.heap[r]? = some (.cells c e fz) → o + i + vs.length ≤ c.size →
    (∀ j, o + i ≤ j → j < o + i + vs.length → ¬ (fz.1 ≤ j ∧ j < fz.2)) → (∀ v ∈ vs, v.oneCell' = true) →
    (storeCells ⟨r, o, none⟩ vs i).run P w = .ok () (putBlock w r (.cells (setCells c (o + i) vs) e fz)) := by
  induction vs with
  | nil =>
    intro w r o i c e fz h _ _ _
    simp only [storeCells, setCells, Sem.run_pure]
    rw [put_same h]
  | cons v vs ih =>
    intro w r o i c e fz h hlen hf hv
    simp only [List.length_cons] at hlen hf
    have hcell : w.cell? ⟨r, o + i, none⟩ = some c[o + i] := by
      rw [cell_of_block h]; simp [show o + i < c.size by omega]
    have hfr : w.frozen? ⟨r, o + i, none⟩ = false := by
      unfold World.frozen?
      rw [h]
      simp only [Bool.and_eq_false_iff, decide_eq_false_iff_not]
      have := hf (o + i) (Nat.le_refl _) (by omega)
      by_cases h1 : fz.1 ≤ o + i
      · right; intro h2; exact this ⟨h1, h2⟩
      · left; exact h1
    have hs := run_store P w ⟨r, o + i, none⟩ v .plain (hv v (by simp))
    rw [hcell] at hs
    simp only [hfr, Bool.false_eq_true, if_false] at hs
    rw [setCell_put h] at hs
    simp only [storeCells, Sem.run_bind, add_addr, hs, Result.andThen_ok]
    rw [ih (putBlock w r (.cells (c.setIfInBounds (o + i) v) e fz)) r o (i + 1) (c.setIfInBounds (o + i) v) e fz (heap_put_same _ _ (lt_of_heap h)) (by simp; omega)
      (fun j h1 h2 => hf j (by omega) (by omega)) (fun v' hv' => hv v' (by simp [hv']))]
    rw [put_put]
    simp only [setCells, Nat.add_assoc]

theorem oneCells {xs : List AV} {vs : Array Value} (hlen : xs.length = vs.size) (h : ∀ (j : Nat) x u, xs[j]? = some x → vs[j]? = some u → VR E w x u) (hc : xs.all AV.isCell = true) :
    ∀ v ∈ vs.toList, v.oneCell' = true := by
  intro v hv
  obtain ⟨j, hj, hje⟩ := List.getElem_of_mem hv
  have hj' : j < vs.size := by simpa using hj
  have hx : xs[j]? = some xs[j] := List.getElem?_eq_getElem (by omega)
  have hu : vs[j]? = some v := by rw [Array.getElem?_eq_getElem hj']; simpa using hje
  exact (h j _ _ hx hu).oneCell (List.all_eq_true.1 hc _ (List.getElem_mem _))

theorem sim_store (hH : HRel E H w) {t : TypeId} {n : Nat} (hn : sizeT P t = some n) {a x : AV} {va vx : Value} (ha : VR E w a va) (hx : VR E w x vx)
    (h : aStore n a x H = some H') : SimU P (Instr.storeAt t va vx) E H w H' := by
  unfold aStore at h
  split at h
  · rename_i b o
    cases ha with
    | ptr _ _ L hL =>
      split at h
      · rename_i c hc
        split at h
        · rename_i hcond
          injection h with h
          subst h
          simp only [Bool.and_eq_true, beq_iff_eq, decide_eq_true_eq] at hcond
          obtain ⟨⟨⟨hd, hl⟩, hcells⟩, hb⟩ := hcond
          have hdef : x ≠ .undef := by rintro rfl; simp [AV.def?] at hd
          obtain ⟨hsz, hvr⟩ := hx.cells hdef
          have hobj := hH.obj b L hL
          rw [hc] at hobj
          obtain ⟨rc, e, fz, h1, h2, h3, h4, h5, h6⟩ := hobj
          have hvlen : vx.cells.size = n := by omega
          have hrun := run_setCells (P := P) vx.cells.toList w L.r (L.d + o) 0 rc e fz h1 (by simp; omega) (fun j hj1 hj2 => h5.no j (by simp at hj2; omega)) (oneCells hsz hvr hcells)
          obtain ⟨hH', hS⟩ := hH.putRef hL (by rw [hc]; rfl) (.cells (setCells rc (L.d + o + 0) vx.cells.toList) e fz) (.cells (splice c o x.cells)) (fun hx' hnp => by
            refine ⟨_, e, fz, heap_put_same _ _ (lt_of_heap h1), by rw [setCells_size]; exact h2, by rw [splice_length]; exact h3, fun j y hj => ?_, h5, hnp⟩
            rw [splice_get _ _ _ _ (by omega)] at hj
            rw [setCells_get _ _ _ _ (by simp; omega)]
            by_cases hj2 : o ≤ j ∧ j < o + x.cells.length
            · rw [if_pos hj2] at hj
              rw [if_pos (by simp; omega)]
              have hlt : j - o < vx.cells.size := by omega
              refine ⟨vx.cells[j - o], ?_, (hvr (j - o) y _ hj (Array.getElem?_eq_getElem hlt)).mono hx'⟩
              rw [show L.d + j - (L.d + o + 0) = j - o by omega]
              simp [hlt]
            · rw [if_neg hj2] at hj
              rw [if_neg (by simp; omega)]
              obtain ⟨u, hu, hv⟩ := h4 j y hj
              exact ⟨u, hu, hv.mono hx'⟩)
          refine ⟨E, _, ?_, hH', hS⟩
          simp only [Instr.storeAt, Instr.sureAddr, pure_bind, storeVar, Sem.run_bind, r_sizeOf hn, Result.andThen_ok]
          rw [if_neg (by simpa using hvlen)]
          simpa using hrun
        · simp at h
      · simp at h
  · simp at h

/-! ### New cells -/
theorem sim_newRow (hH : HRel E H w) (e : TypeId) {xs : List AV} {vs : Array Value} (hlen : xs.length = vs.size)
    (hv : ∀ (j : Nat) x u, xs[j]? = some x → vs[j]? = some u → VR E w x u) :
    ∃ E' w' , (newRow e vs).run P w = .ok ⟨w.heap.size, 0, none⟩ w' ∧ E'.φ H.obs.length = some ⟨w.heap.size, 0, vs.size⟩ ∧ HRel E' ⟨H.obs ++ [.cells xs], H.toks⟩ w' ∧ Step E H w E' ⟨H.obs ++ [.cells xs], H.toks⟩ w' := by
  obtain ⟨h1, h2, h3⟩ := hH.allocRef (.cells vs e) (.cells xs) ⟨w.heap.size, 0, vs.size⟩ rfl (fun E' hx hnp => by
    refine ⟨vs, e, (0, 0), heap_alloc_new _ _, rfl, by simp; omega, fun j x hj => ?_, .inl rfl, hnp⟩
    have hj' : j < vs.size := by
      rcases Nat.lt_or_ge j xs.length with h | h
      · omega
      · rw [List.getElem?_eq_none h] at hj; simp at hj
    exact ⟨vs[j], by simp [hj'], (hv j x _ hj (Array.getElem?_eq_getElem hj')).mono hx⟩)
  exact ⟨_, _, rfl, h3, h1, h2⟩

theorem sim_newVar (hH : HRel E H w) (e : TypeId) {xs : List AV} {v : Value} (hlen : xs.length = v.cells.size)
    (hv : ∀ (j : Nat) x u, xs[j]? = some x → v.cells[j]? = some u → VR E w x u) :
    Sim P (do pure (.pointer (some (← newVar e v)))) E H w (.ptr H.obs.length 0) ⟨H.obs ++ [.cells xs], H.toks⟩ := by
  obtain ⟨E', w', h1, h2, h3, h4⟩ := sim_newRow (P := P) hH e hlen hv
  exact ⟨E', w', .pointer (some ⟨w.heap.size, 0 + 0, none⟩), by simp [newVar, h1], .ptr _ _ _ h2, h3, h4⟩

/-! ### Structs and rows that are built -/
theorem foldl_set (vs : List Value) : ∀ (k o : Nat) (c : Array Value), (vs.zipIdx k).foldl (fun cs (x : Value × Nat) => cs.setIfInBounds (o + x.2) x.1) c = setCells c (o + k) vs := by
  induction vs with
  | nil => intro k o c; rfl
  | cons v vs ih => intro k o c; simp only [List.zipIdx_cons, List.foldl_cons, setCells, ih, Nat.add_assoc]

theorem sim_fill (ps : List (Nat × Nat × AV)) : ∀ (place : Nat → Option (Nat × Nat)) (rs : List (Nat × Value)) (z z' : List AV) (cells : Array Value),
    ps.length = rs.length → (∀ (k : Nat) p q, ps[k]? = some p → rs[k]? = some q → place q.1 = some (p.1, p.2.1) ∧ VR E w p.2.2 q.2) →
    z.length = cells.size → (∀ (j : Nat) x u, z[j]? = some x → cells[j]? = some u → VR E w x u) → aBuild z ps = some z' →
    ∃ cells', Instr.fill place cells rs = some cells' ∧ z'.length = cells'.size ∧ (∀ (j : Nat) x u, z'[j]? = some x → cells'[j]? = some u → VR E w x u) := by
  induction ps with
  | nil =>
    intro place rs z z' cells hl _ hz hv h
    cases rs with
    | nil => simp only [aBuild, Option.some.injEq] at h; subst h; exact ⟨cells, rfl, hz, hv⟩
    | cons r rs => simp at hl
  | cons p ps ih =>
    intro place rs z z' cells hl hp hz hv h
    cases rs with
    | nil => simp at hl
    | cons r rs =>
      obtain ⟨off, n, x⟩ := p
      obtain ⟨i, v⟩ := r
      obtain ⟨hpl, hvr⟩ := hp 0 (off, n, x) (i, v) rfl rfl
      simp only at hpl hvr
      simp only [aBuild] at h
      split at h
      · rename_i hc
        simp only [Bool.and_eq_true, beq_iff_eq, decide_eq_true_eq] at hc
        obtain ⟨⟨hd, hn⟩, hb⟩ := hc
        have hdef : x ≠ .undef := by rintro rfl; simp [AV.def?] at hd
        obtain ⟨hsz, hcv⟩ := hvr.cells hdef
        have hset : (v.cells.zipIdx.foldl (fun cs (x : Value × Nat) => cs.setIfInBounds (off + x.2) x.1) cells) = setCells cells off v.cells.toList := by
          rw [← Array.foldl_toList, Array.toList_zipIdx, foldl_set, Nat.add_zero]
        obtain ⟨cells', h1, h2, h3⟩ := ih place rs (splice z off x.cells) z' (setCells cells off v.cells.toList) (by simpa using hl)
          (fun k p q hk hq => hp (k + 1) p q (by simpa using hk) (by simpa using hq)) (by rw [splice_length, setCells_size]; exact hz)
          (fun j y u hj hu => by
            rw [splice_get _ _ _ _ (by omega)] at hj
            rw [setCells_get _ _ _ _ (by simp; omega)] at hu
            by_cases hj2 : off ≤ j ∧ j < off + x.cells.length
            · rw [if_pos hj2] at hj
              rw [if_pos (by simp; omega)] at hu
              exact hcv _ _ _ hj (by simpa using hu)
            · rw [if_neg hj2] at hj
              rw [if_neg (by simp; omega)] at hu
              exact hv j y u hj hu) h
        refine ⟨cells', ?_, h2, h3⟩
        simp only [Instr.fill, hpl]
        rw [if_neg (by simp; omega)]
        rw [← h1]
        congr 1
      · simp at h

end Go.SV

/- Rows: built, appended to, sliced, indexed, made, copied, sealed. Own text of the prover; nothing is assumed. -/
import Derived.Test.YtkbkhdgjdikjiaaDoorSe
namespace Go.SV

variable {P : Program} {E E' : Env} {H H' : AH} {w w' : World}

/-! ### Structs -/
def placesT (P : Program) : List Field → Option (List (Nat × Nat))
  | [] => some []
  | f :: fs => (sizeT P f.type).bind fun s => (placesT P fs).map fun l => (f.offset, s) :: l

theorem r_places (fs : List Field) : ∀ {pl : List (Nat × Nat)}, placesT P fs = some pl →
    (fs.toArray.mapM fun f => (do pure (f.offset, ← sizeOf f.type) : Sem (Nat × Nat))).run P w = .ok pl.toArray w := by
  have key : ∀ {pl : List (Nat × Nat)}, placesT P fs = some pl → (fs.mapM fun f => (do pure (f.offset, ← sizeOf f.type) : Sem (Nat × Nat))).run P w = .ok pl w := by
    induction fs with
    | nil => intro pl h; simp only [placesT, Option.some.injEq] at h; subst h; simp
    | cons f fs ih =>
      intro pl h
      simp only [placesT, Option.bind_eq_some_iff, Option.map_eq_some_iff] at h
      obtain ⟨s, hs, l, hl, rfl⟩ := h
      simp only [List.mapM_cons, Sem.run_bind, r_sizeOf hs, Result.andThen_ok, Sem.run_pure, ih hl]
  intro pl h
  rw [List.mapM_toArray]
  simp only [Sem.run_map, key h, Result.andThen_ok]

theorem sim_build (hH : HRel E H w) {t : TypeId} {fs : List Field} (hu : P.underlying t = some (.struct fs.toArray)) {z : Value} (hz : zeroT P t = some z)
    {zz : AV} (hzd : zz.def? = true) (hzz : VR E w zz z) {pl : List (Nat × Nat)} (hpl : placesT P fs = some pl) {ps : List (Nat × Nat × AV)} {rs : List (Nat × Value)} (hl : ps.length = rs.length)
    (hp : ∀ (k : Nat) p q, ps[k]? = some p → rs[k]? = some q → pl[q.1]? = some (p.1, p.2.1) ∧ VR E w p.2.2 q.2) {z' : List AV} (h : aBuild zz.cells ps = some z') :
    Sim P (Instr.build t rs.toArray) E H w (.agg z') H := by
  have hdef : zz ≠ .undef := by rintro rfl; simp [AV.def?] at hzd
  obtain ⟨hsz, hcv⟩ := hzz.cells hdef
  obtain ⟨cells', h1, h2, h3⟩ := sim_fill (E := E) (w := w) ps (pl.toArray[·]?) rs zz.cells z' z.cells hl (fun k p q hk hq => by
    obtain ⟨a, b⟩ := hp k p q hk hq
    exact ⟨by simpa using a, b⟩) hsz hcv h
  refine Sim.same hH (v' := .agg cells') ?_ (.agg _ _ h2 h3)
  have hf := r_places (P := P) (w := w) fs hpl
  simp only [Instr.build, Sem.run_bind, r_zero hz, Result.andThen_ok, r_under hu]
  simp only [hf, Result.andThen_ok, h1, Sem.run_pure]

theorem sim_buildArr (hH : HRel E H w) {t : TypeId} {n e sz : Nat} (hu : P.underlying t = some (.array n e)) (hs : sizeT P e = some sz) {z : Value} (hz : zeroT P t = some z)
    {zz : AV} (hzd : zz.def? = true) (hzz : VR E w zz z) {ps : List (Nat × Nat × AV)} {rs : List (Nat × Value)} (hl : ps.length = rs.length)
    (hp : ∀ (k : Nat) p q, ps[k]? = some p → rs[k]? = some q → (q.1 * sz, sz) = (p.1, p.2.1) ∧ VR E w p.2.2 q.2) {z' : List AV} (h : aBuild zz.cells ps = some z') :
    Sim P (Instr.build t rs.toArray) E H w (.agg z') H := by
  have hdef : zz ≠ .undef := by rintro rfl; simp [AV.def?] at hzd
  obtain ⟨hsz, hcv⟩ := hzz.cells hdef
  obtain ⟨cells', h1, h2, h3⟩ := sim_fill (E := E) (w := w) ps (fun i => some (i * sz, sz)) rs zz.cells z' z.cells hl (fun k p q hk hq => by
    obtain ⟨a, b⟩ := hp k p q hk hq
    exact ⟨congrArg some a, b⟩) hsz hcv h
  refine Sim.same hH (v' := .agg cells') ?_ (.agg _ _ h2 h3)
  simp only [Instr.build, Sem.run_bind, r_zero hz, Result.andThen_ok, r_under hu, r_sizeOf hs, h1, Sem.run_pure]

/-! ### Rows whose elements are given -/
/-- The cells of rows' elements, one behind the other. -/
theorem flat_get {s : Nat} (xs : List AV) : ∀ (_ : ∀ x ∈ xs, x.cells.length = s) (i j : Nat) x c, xs[i]? = some x → x.cells[j]? = some c → (xs.flatMap AV.cells)[i * s + j]? = some c := by
  induction xs with
  | nil => intro _ i j x c h; simp at h
  | cons y ys ih =>
    intro hs i j x c hi hj
    have hy := hs y (by simp)
    cases i with
    | zero =>
      simp only [List.getElem?_cons_zero, Option.some.injEq] at hi
      subst hi
      have hlt : j < y.cells.length := by
        rcases Nat.lt_or_ge j y.cells.length with h | h
        · exact h
        · rw [List.getElem?_eq_none h] at hj; simp at hj
      simp only [List.flatMap_cons]
      rw [List.getElem?_append_left (by omega)]
      simpa using hj
    | succ i =>
      simp only [List.getElem?_cons_succ] at hi
      have := ih (fun x hx => hs x (by simp [hx])) i j x c hi hj
      simp only [List.flatMap_cons]
      rw [List.getElem?_append_right (by rw [hy, Nat.succ_mul]; omega), hy, show (i + 1) * s + j - s = i * s + j by rw [Nat.succ_mul]; omega]
      exact this

theorem flat_len {s : Nat} (xs : List AV) (hs : ∀ x ∈ xs, x.cells.length = s) : (xs.flatMap AV.cells).length = xs.length * s := by
  induction xs with
  | nil => simp
  | cons y ys ih =>
    simp only [List.flatMap_cons, List.length_append, List.length_cons, ih (fun x hx => hs x (by simp [hx])), hs y (by simp), Nat.succ_mul]
    omega

theorem elemsOk_spec {s : Nat} {ys : List AV} (h : elemsOk s ys = true) : ∀ y ∈ ys, y ≠ .undef ∧ y.cells.length = s ∧ y.cells.all AV.isCell = true := by
  intro y hy
  have := List.all_eq_true.1 h y hy
  simp only [Bool.and_eq_true, beq_iff_eq] at this
  exact ⟨by rintro rfl; simp [AV.def?] at this, this.1.2, this.2⟩

/-- Values that stand for elements: their cells, one behind the other, stand for the elements' cells. -/
theorem flat_VR {s : Nat} (xs : List AV) : ∀ (vs : List Value), xs.length = vs.length → (∀ x ∈ xs, x ≠ .undef ∧ x.cells.length = s) →
    (∀ (j : Nat) x u, xs[j]? = some x → vs[j]? = some u → VR E w x u) →
    (xs.flatMap AV.cells).length = (vs.flatMap fun v => v.cells.toList).length ∧
    (∀ v ∈ vs, v.cells.size = s) ∧
    ∀ (j : Nat) x u, (xs.flatMap AV.cells)[j]? = some x → (vs.flatMap fun v => v.cells.toList)[j]? = some u → VR E w x u := by
  induction xs with
  | nil => intro vs hl _ _; cases vs with
    | nil => simp
    | cons => simp at hl
  | cons x xs ih =>
    intro vs hl hs hv
    cases vs with
    | nil => simp at hl
    | cons v vs =>
      have hxv := hv 0 x v rfl rfl
      obtain ⟨hx1, hx2⟩ := hs x (by simp)
      obtain ⟨h1, h2⟩ := hxv.cells hx1
      obtain ⟨a, b, c⟩ := ih vs (by simpa using hl) (fun y hy => hs y (by simp [hy])) (fun j y u hj hu => hv (j + 1) y u (by simpa using hj) (by simpa using hu))
      refine ⟨by simp only [List.flatMap_cons, List.length_append, a, Array.length_toList, h1], fun u hu => ?_, fun j y u hj hu => ?_⟩
      · rcases List.mem_cons.1 hu with rfl | hu
        · omega
        · exact b u hu
      · simp only [List.flatMap_cons] at hj hu
        rcases Nat.lt_or_ge j x.cells.length with hlt | hge
        · rw [List.getElem?_append_left hlt] at hj
          rw [List.getElem?_append_left (by simp; omega)] at hu
          exact h2 j y u hj (by simpa using hu)
        · rw [List.getElem?_append_right hge] at hj
          rw [List.getElem?_append_right (by simp; omega)] at hu
          simp only [Array.length_toList] at hu
          rw [← h1] at hu
          exact c _ y u hj hu

/-- Filling every place of a row in order. -/
theorem fill_row (s : Nat) (vs : List Value) : ∀ (k : Nat) (cells : Array Value) (pre : List Value), (∀ v ∈ vs, v.cells.size = s) → cells.size = (k + vs.length) * s → pre.length = k * s → (∀ i, i < k * s → cells[i]? = pre[i]?) →
    Instr.fill (fun i => some (i * s, s)) cells ((vs.zipIdx k).map fun p => (p.2, p.1)) = some (pre ++ vs.flatMap fun v => v.cells.toList).toArray := by
  induction vs with
  | nil =>
    intro k cells pre _ hsz hpre hc
    simp only [List.zipIdx_nil, List.map_nil, Instr.fill, List.flatMap_nil, List.append_nil]
    congr 1
    apply Array.ext'
    apply List.ext_getElem?
    intro i
    simp only [Array.getElem?_toList]
    rcases Nat.lt_or_ge i (k * s) with h | h
    · exact hc i h
    · rw [Array.getElem?_eq_none (by simp at hsz; omega), List.getElem?_eq_none (by omega)]
  | cons v vs ih =>
    intro k cells pre hs hsz hpre hc
    have hv := hs v (by simp)
    simp only [List.length_cons] at hsz
    have hk : (k + (vs.length + 1)) * s = k * s + s + vs.length * s := by rw [Nat.add_mul, Nat.succ_mul]; omega
    simp only [List.zipIdx_cons, List.map_cons, Instr.fill]
    rw [if_neg (by simp; omega)]
    have hset : (v.cells.zipIdx.foldl (fun cs (x : Value × Nat) => cs.setIfInBounds (k * s + x.2) x.1) cells) = setCells cells (k * s) v.cells.toList := by
      rw [← Array.foldl_toList, Array.toList_zipIdx, foldl_set, Nat.add_zero]
    have := ih (k + 1) (setCells cells (k * s) v.cells.toList) (pre ++ v.cells.toList) (fun u hu => hs u (by simp [hu])) (by rw [setCells_size, hsz]; congr 1; omega)
      (by simp [hpre, hv, Nat.succ_mul]) (fun i hi => by
        rw [setCells_get _ _ _ _ (by simp; omega)]
        rw [Nat.succ_mul] at hi
        by_cases h : k * s ≤ i ∧ i < k * s + v.cells.toList.length
        · rw [if_pos h, List.getElem?_append_right (by omega), hpre]
        · rw [if_neg h]
          have hlt : i < k * s := by simp at h; omega
          rw [hc i hlt, List.getElem?_append_left (by omega)])
    rw [List.append_assoc] at this
    simp only [List.flatMap_cons]
    rw [← this]
    congr 1

theorem sim_litCells {t e s : Nat} (hu : P.underlying t = some (.slice e)) (hs : sizeT P e = some s) (hz : (zeroT P e).isSome) {xs : List AV} {vs : List Value} (hl : xs.length = vs.length)
    (hok : elemsOk s xs = true) (hv : ∀ (j : Nat) x u, xs[j]? = some x → vs[j]? = some u → VR E w x u) (hbig : xs.length * s ≤ 2 ^ 24) :
    (Instr.buildSlice t xs.length ((vs.zipIdx 0).map fun p => (p.2, p.1)).toArray).run P w =
      ((newRow e (vs.flatMap fun v => v.cells.toList).toArray).run P w).andThen fun a w' => .ok (.slice (some a) xs.length xs.length) w' := by
  have hspec := elemsOk_spec hok
  obtain ⟨_, hsz, _⟩ := flat_VR (s := s) xs vs hl (fun x hx => ⟨(hspec x hx).1, (hspec x hx).2.1⟩) hv
  obtain ⟨z, hz⟩ := Option.isSome_iff_exists.1 hz
  simp only [Instr.buildSlice, Sem.run_bind, r_under hu, Result.andThen_ok, r_sizeOf hs]
  rw [if_neg (by omega)]
  have hfill := fill_row s vs 0 ((Array.range (xs.length * s)).map fun i => (if xs.length * s = 0 then #[] else z.cells)[i % (if xs.length * s = 0 then (#[] : Array Value) else z.cells).size]!) [] hsz (by simp [hl]) (by simp) (by simp)
  simp only [List.nil_append] at hfill
  by_cases h0 : xs.length * s = 0
  · simp only [h0, if_true] at hfill ⊢
    simp only [Sem.run_pure, pure_bind, Sem.run_bind, hfill]
  · simp only [h0, if_false] at hfill ⊢
    simp only [Sem.run_bind, r_zero hz, Result.andThen_ok, Sem.run_pure, hfill]

theorem inB {c : Array Value} {i : Nat} {u : Value} (h : c[i]? = some u) : i < c.size := by
  rcases Nat.lt_or_ge i c.size with h' | h'
  · exact h'
  · rw [Array.getElem?_eq_none h'] at h; simp at h
theorem inL {α : Type} {c : List α} {i : Nat} {u : α} (h : c[i]? = some u) : i < c.length := by
  rcases Nat.lt_or_ge i c.length with h' | h'
  · exact h'
  · rw [List.getElem?_eq_none h'] at h; simp at h

/-- A row of elements that lie one behind the other in a block from a place on: each cell read there. -/
theorem row_cells {s r o : Nat} {xs : List AV} {cells : List Value} (hs : ∀ x ∈ xs, x.cells.length = s) (hcell : ∀ (j : Nat) u, cells[j]? = some u → w.cell? ⟨r, o + j, none⟩ = some u)
    (hlen : cells.length = (xs.flatMap AV.cells).length) (hv : ∀ (j : Nat) x u, (xs.flatMap AV.cells)[j]? = some x → cells[j]? = some u → VR E w x u) :
    ∃ us : Nat → Nat → Value, (∀ (i : Nat) x (j : Nat) c, xs[i]? = some x → x.cells[j]? = some c → w.cell? ⟨r, o + i * s + j, none⟩ = some (us i j)) ∧
      (∀ (i : Nat) x (j : Nat) c, xs[i]? = some x → x.cells[j]? = some c → VR E w c (us i j)) := by
  refine ⟨fun i j => (cells[i * s + j]?).getD undef, fun i x j c hi hj => ?_, fun i x j c hi hj => ?_⟩
  · have h1 := flat_get xs hs i j x c hi hj
    have h2 := inL h1
    have h3 : cells[i * s + j]? = some cells[i * s + j] := List.getElem?_eq_getElem (by omega)
    have := hcell _ _ h3
    simp only [h3, Option.getD_some]
    rw [show o + i * s + j = o + (i * s + j) by omega, this]
  · have h1 := flat_get xs hs i j x c hi hj
    have h2 := inL h1
    have h3 : cells[i * s + j]? = some cells[i * s + j] := List.getElem?_eq_getElem (by omega)
    simp only [h3, Option.getD_some]
    exact hv _ _ _ h1 h3

theorem elem_cells {s : Nat} {xs : List AV} (h : ∀ x ∈ xs, x ≠ .undef ∧ x.cells.length = s) {i : Nat} {x : AV} (hi : xs[i]? = some x) : x.cells.length = s :=
  (h x (List.mem_of_getElem? hi)).2

/-- A row that lies new in a block: given as one that nobody will write. -/
theorem newRow_ro (hH : HRel E H w) (e : TypeId) (fz : Nat × Nat) {s : Nat} {xs : List AV} {cells : Array Value} {cap : Nat} (hok : ∀ x ∈ xs, x ≠ .undef ∧ x.cells.length = s) (hcap : xs.length ≤ cap)
    (hlen : (xs.flatMap AV.cells).length ≤ cells.size) (hv : ∀ (j : Nat) x u, (xs.flatMap AV.cells)[j]? = some x → cells[j]? = some u → VR E w x u) :
    ∃ E', VR E' (w.alloc (.cells cells e fz)) (.sl 0 s xs) (.slice (some ⟨w.heap.size, 0, none⟩) xs.length cap) ∧ HRel E' H (w.alloc (.cells cells e fz)) ∧ Step E H w E' H (w.alloc (.cells cells e fz)) := by
  have hfl := flat_len xs (fun x hx => (hok x hx).2)
  obtain ⟨h1, h2⟩ := hH.allocRow cells e fz (xs.length * s) (by omega)
  obtain ⟨us, a, b⟩ := row_cells (E := E.addProt w.heap.size (xs.length * s)) (w := w.alloc (.cells cells e fz)) (s := s) (r := w.heap.size) (o := 0) (xs := xs) (cells := cells.toList.take (xs.flatMap AV.cells).length) (fun x hx => (hok x hx).2)
    (fun j u hj => by
      rw [cell_of_block (heap_alloc_new _ _), Nat.zero_add]
      rw [List.getElem?_take] at hj
      split at hj
      · simpa using hj
      · simp at hj) (by have := Array.length_toList (xs := cells); rw [List.length_take]; omega) (fun j x u hj hu => (hv j x u hj (by
        rw [List.getElem?_take] at hu
        split at hu
        · simpa using hu
        · simp at hu)).mono h2.ext)
  refine ⟨_, .sl 0 s xs _ 0 cap us hcap (fun i x hi => elem_cells hok hi) a (fun i x j c hi hj => Or.inr ⟨rfl, ?_⟩) b (fun h => absurd rfl h) (fun _ => Or.inr rfl), h1, h2⟩
  have := inL (flat_get xs (fun x hx => (hok x hx).2) i j x c hi hj)
  omega

/-- The same, as one that may be appended to. -/
theorem newRow_tok (hH : HRel E H w) (h0 : 0 < H.toks.length) (e : TypeId) (fz : Nat × Nat) {s : Nat} {xs : List AV} {cells : Array Value} {cap : Nat} (hok : ∀ x ∈ xs, x ≠ .undef ∧ x.cells.length = s) (hcap : xs.length ≤ cap)
    (hlen : cap * s ≤ cells.size) (hfz : ∀ i, i < cells.size → ¬ (fz.1 ≤ i ∧ i < fz.2)) (hv : ∀ (j : Nat) x u, (xs.flatMap AV.cells)[j]? = some x → cells[j]? = some u → VR E w x u) :
    ∃ E', VR E' (w.alloc (.cells cells e fz)) (.sl H.toks.length s xs) (.slice (some ⟨w.heap.size, 0, none⟩) xs.length cap) ∧ HRel E' ⟨H.obs, H.toks ++ [(xs.length, s)]⟩ (w.alloc (.cells cells e fz)) ∧
      Step E H w E' ⟨H.obs, H.toks ++ [(xs.length, s)]⟩ (w.alloc (.cells cells e fz)) := by
  have hfl := flat_len xs (fun x hx => (hok x hx).2)
  have hmul : xs.length * s ≤ cap * s := Nat.mul_le_mul_right s hcap
  obtain ⟨h1, h2⟩ := hH.allocTok h0 cells e xs.length s cap hcap hlen fz hfz
  obtain ⟨us, a, b⟩ := row_cells (E := E.addTok H.toks.length xs.length s ⟨w.heap.size, 0, cap⟩) (w := w.alloc (.cells cells e fz)) (s := s) (r := w.heap.size) (o := 0) (xs := xs) (cells := cells.toList.take (xs.flatMap AV.cells).length) (fun x hx => (hok x hx).2)
    (fun j u hj => by
      rw [cell_of_block (heap_alloc_new _ _), Nat.zero_add]
      rw [List.getElem?_take] at hj
      split at hj
      · simpa using hj
      · simp at hj) (by have := Array.length_toList (xs := cells); rw [List.length_take]; omega) (fun j x u hj hu => (hv j x u hj (by
        rw [List.getElem?_take] at hu
        split at hu
        · simpa using hu
        · simp at hu)).mono h2.ext)
  refine ⟨_, .sl _ s xs _ 0 cap us hcap (fun i x hi => elem_cells hok hi) a (fun i x j c hi hj => Or.inr ⟨rfl, Nat.zero_le _, ?_⟩) b (fun _ => ⟨xs.length, s, ?_, Nat.le_refl _, fun _ => ⟨rfl, ?_⟩⟩) (fun h => by omega), h1, h2⟩
  · simp [Env.addTok]
  · simp [Env.addTok]
  · have := inL (flat_get xs (fun x hx => (hok x hx).2) i j x c hi hj)
    show 0 + i * s + j < 0 + xs.length * s
    omega

/-- The same, as one that may be written. -/
theorem newRow_ref (hH : HRel E H w) (e : TypeId) {s : Nat} {xs : List AV} {cells : Array Value} {cap n : Nat} (hn : n ≤ cap) (hcap : cap * s ≤ cells.size)
    (hlen : xs.length ≤ cells.size) (hv : ∀ (j : Nat) x u, xs[j]? = some x → cells[j]? = some u → VR E w x u) :
    ∃ E', VR E' (w.alloc (.cells cells e)) (.slr H.obs.length 0 n s) (.slice (some ⟨w.heap.size, 0, none⟩) n cap) ∧ HRel E' ⟨H.obs ++ [.cells xs], H.toks⟩ (w.alloc (.cells cells e)) ∧
      Step E H w E' ⟨H.obs ++ [.cells xs], H.toks⟩ (w.alloc (.cells cells e)) := by
  obtain ⟨h1, h2, h3⟩ := hH.allocRef (.cells cells e) (.cells xs) ⟨w.heap.size, 0, cells.size⟩ rfl (fun E' hx hnp => by
    refine ⟨cells, e, (0, 0), heap_alloc_new _ _, rfl, by simp; omega, fun j x hj => ?_, .inl rfl, hnp⟩
    have hj' : j < cells.size := by have := inL hj; omega
    exact ⟨cells[j], by simp [hj'], (hv j x _ hj (Array.getElem?_eq_getElem hj')).mono hx⟩)
  exact ⟨_, .slr _ 0 n s cap 0 _ h3 hn (fun _ => ⟨rfl, by show 0 + 0 + cap * s ≤ cells.size; omega⟩), h1, h2⟩

theorem sim_lit (hH : HRel E H w) (h0 : 0 < H.toks.length) {t e s : Nat} (hu : P.underlying t = some (.slice e)) (hs : sizeT P e = some s) (hz : (zeroT P e).isSome) {xs : List AV} {vs : List Value} (hl : xs.length = vs.length)
    (hok : elemsOk s xs = true) (hv : ∀ (j : Nat) x u, xs[j]? = some x → vs[j]? = some u → VR E w x u) (hbig : xs.length * s ≤ 2 ^ 24) (m : Mode) :
    Sim P (Instr.buildSlice t xs.length ((vs.zipIdx 0).map fun p => (p.2, p.1)).toArray) E H w
      (match m with | .ro => .sl 0 s xs | .tok => .sl H.toks.length s xs | .ref => .slr H.obs.length 0 xs.length s)
      (match m with | .ro => H | .tok => ⟨H.obs, H.toks ++ [(xs.length, s)]⟩ | .ref => ⟨H.obs ++ [.cells (xs.flatMap AV.cells)], H.toks⟩) := by
  have hspec := elemsOk_spec hok
  have hok' : ∀ x ∈ xs, x ≠ .undef ∧ x.cells.length = s := fun x hx => ⟨(hspec x hx).1, (hspec x hx).2.1⟩
  obtain ⟨hlen, hsz, hcv⟩ := flat_VR (s := s) xs vs hl hok' hv
  have hfl := flat_len xs (fun x hx => (hok' x hx).2)
  have hrun := sim_litCells (P := P) (w := w) hu hs hz hl hok hv hbig
  have hnew : (newRow e (vs.flatMap fun v => v.cells.toList).toArray).run P w = .ok ⟨w.heap.size, 0, none⟩ (w.alloc (.cells (vs.flatMap fun v => v.cells.toList).toArray e)) := rfl
  rw [hnew] at hrun
  simp only [Result.andThen_ok] at hrun
  have hcv' : ∀ (j : Nat) x u, (xs.flatMap AV.cells)[j]? = some x → ((vs.flatMap fun v => v.cells.toList).toArray)[j]? = some u → VR E w x u := fun j x u hj hu => hcv j x u hj (by simpa using hu)
  have hsize : ((vs.flatMap fun v => v.cells.toList).toArray).size = xs.length * s := by rw [List.size_toArray]; omega
  cases m with
  | ro =>
    obtain ⟨E', a, b, c⟩ := newRow_ro hH e (0, 0) (cap := xs.length) hok' (Nat.le_refl _) (by rw [hsize]; omega) hcv'
    exact ⟨E', _, _, hrun, a, b, c⟩
  | tok =>
    obtain ⟨E', a, b, c⟩ := newRow_tok hH h0 e (0, 0) (cap := xs.length) hok' (Nat.le_refl _) (by rw [hsize]; omega) (fun i _ h => by simp at h) hcv'
    exact ⟨E', _, _, hrun, a, b, c⟩
  | ref =>
    obtain ⟨E', a, b, c⟩ := newRow_ref (s := s) (cap := xs.length) (n := xs.length) hH e (xs := xs.flatMap AV.cells) (Nat.le_refl _) (by rw [hsize]; omega) (by rw [hsize]; omega) hcv'
    exact ⟨E', _, _, hrun, a, b, c⟩

end Go.SV

/- Appends: in place or in a new block, for rows of a token and for rows that may be written. Own text of the prover; nothing is assumed. -/
import Derived.Test.YtkbkhdgjdikjiaaDoorSf
namespace Go.SV

variable {P : Program} {E E' : Env} {H H' : AH} {w w' : World}

theorem flat_at {s : Nat} {xs : List AV} (hs : ∀ x ∈ xs, x.cells.length = s) {k : Nat} {c : AV} (h : (xs.flatMap AV.cells)[k]? = some c) :
    ∃ x, xs[k / s]? = some x ∧ x.cells[k % s]? = some c ∧ k / s * s + k % s = k := by
  have hk := inL h
  rw [flat_len xs hs] at hk
  have hs0 : 0 < s := by
    rcases Nat.eq_zero_or_pos s with h0 | h0
    · subst h0; simp at hk
    · exact h0
  have hdm : k / s * s + k % s = k := by rw [Nat.mul_comm]; exact Nat.div_add_mod k s
  have hi : k / s < xs.length := (Nat.div_lt_iff_lt_mul hs0).2 hk
  have hx : xs[k / s]? = some xs[k / s] := List.getElem?_eq_getElem hi
  have hj : k % s < xs[k / s].cells.length := by rw [hs _ (List.getElem_mem _)]; exact Nat.mod_lt _ hs0
  have hc : xs[k / s].cells[k % s]? = some xs[k / s].cells[k % s] := List.getElem?_eq_getElem hj
  have := flat_get xs hs _ _ _ _ hx hc
  rw [hdm, h] at this
  injection this with this
  exact ⟨_, hx, by rw [hc, this], hdm⟩

/-- The cells of a row's elements, as the machine reads them. -/
theorem elems_run (hH : HRel E H w) {s : Nat} {y : AV} {vy : Value} {ys : List AV} (hy : VR E w y vy) (he : elems s y H = some ys) (hok : ∀ x ∈ ys, x ≠ .undef ∧ x.cells.length = s) :
    (Builtin.lenOf vy).run P w = .ok ys.length w ∧ ∃ cells : List Value, (∀ d, (Builtin.firstCells s ys.length vy).run P { w with drawn := d } = .ok cells.toArray { w with drawn := d }) ∧
      cells.length = (ys.flatMap AV.cells).length ∧ (∀ (j : Nat) x u, (ys.flatMap AV.cells)[j]? = some x → cells[j]? = some u → VR E w x u) := by
  have hsz : ∀ x ∈ ys, x.cells.length = s := fun x hx => (hok x hx).2
  have hfl := flat_len ys hsz
  have rowcase : ∀ (r o : Nat) (f : Nat → Value), (∀ k, k < ys.length * s → w.cell? ⟨r, o + k, none⟩ = some (f k)) → (∀ k x, (ys.flatMap AV.cells)[k]? = some x → VR E w x (f k)) →
      ∃ cells : List Value, (∀ d, (loadCells ⟨r, o, none⟩ (ys.length * s)).run P { w with drawn := d } = .ok cells.toArray { w with drawn := d }) ∧
      cells.length = (ys.flatMap AV.cells).length ∧ (∀ (j : Nat) x u, (ys.flatMap AV.cells)[j]? = some x → cells[j]? = some u → VR E w x u) := by
    intro r o f h1 h2
    refine ⟨(List.range (ys.length * s)).map f, fun d => run_loadCells _ _ _ f (fun j hj => by rw [add_addr]; exact h1 j hj), by simp; simpa using hfl.symm, fun j x u hj hu => ?_⟩
    have hlt : j < ys.length * s := by have := inL hj; omega
    simp [hlt] at hu
    exact hu ▸ h2 j x hj
  unfold elems at he
  split at he
  · injection he with he; subst he
    cases hy
    exact ⟨by simp [Builtin.lenOf], [], fun d => by simp [Builtin.firstCells], rfl, fun j x u h => by simp at h⟩
  · rename_i t s' xs
    split at he
    case isFalse => simp at he
    rename_i ess
    subst ess
    injection he with he; subst he
    cases hy with
    | sl _ _ _ r o cap us hcap hs hc hp hv ht h0 =>
      refine ⟨by simp [Builtin.lenOf], ?_⟩
      have := rowcase r o (fun k => us (k / s') (k % s')) (fun k hk => by
        have h1 : (xs.flatMap AV.cells)[k]? = some (xs.flatMap AV.cells)[k] := List.getElem?_eq_getElem (by omega)
        obtain ⟨x, hx, hcx, hdm⟩ := flat_at hsz h1
        have := hc _ _ _ _ hx hcx
        rw [← this]
        congr 2
        omega) (fun k x hk => by
        obtain ⟨y, hy, hcy, _⟩ := flat_at hsz hk
        exact hv _ _ _ _ hy hcy)
      simpa [Builtin.firstCells] using this
    | sle _ a => exact ⟨by simp [Builtin.lenOf], [], fun d => by simp [Builtin.firstCells, loadCells, loadCellsFrom], rfl, fun j x u h => by simp at h⟩
  · rename_i l
    injection he with he; subst he
    cases hy
    have hlen : (ByteArray.mk l.toArray).size = l.length := by simp [ByteArray.size]
    have hl1 : l.length = (l.map fun b => AV.int .u8 b.toNat).length * s := by
      cases l with
      | nil => simp
      | cons a l => have := hsz (.int .u8 a.toNat) (by simp); simp [AV.cells] at this ⊢; rw [← this]; omega
    refine ⟨by simp [Builtin.lenOf, hlen], (l.map fun b => .int .u8 b.toNat), fun d => ?_, by rw [hfl, ← hl1]; simp, ?_⟩
    · simp only [Builtin.firstCells, Sem.run_pure]
      congr 1
      apply Array.ext'
      simp
    · intro j x u hj hu
      have : (List.flatMap AV.cells (l.map fun b => AV.int .u8 b.toNat)) = l.map fun b => AV.int .u8 b.toNat := by
        clear hj hu hok hsz hfl rowcase hlen hl1
        induction l with
        | nil => rfl
        | cons a l ih => simp only [List.map_cons, List.flatMap_cons, ih, AV.cells]; rfl
      rw [this] at hj
      simp only [List.getElem?_map, Option.map_eq_some_iff] at hj hu
      obtain ⟨a, ha, rfl⟩ := hj
      obtain ⟨b, hb, rfl⟩ := hu
      rw [ha] at hb; injection hb with hb; subst hb
      exact .int _ _
  · rename_i b o n s'
    split at he
    · rename_i es; subst es
      split at he
      · rename_i c hc
        split at he
        · rename_i hle
          injection he with he
          cases hy with
          | slr _ _ _ _ cap o' L hL hn ho =>
            obtain ⟨h1, h2⟩ := ref_cells hH hL hc
            have hlen : ys.length = n := by rw [← he]; simp
            refine ⟨by simp [Builtin.lenOf, hlen], ?_⟩
            have hcell : ∀ k, k < n * s' → (ys.flatMap AV.cells)[k]? = c[o + k]? := by
              intro k hk
              have hkl : k < (ys.flatMap AV.cells).length := by rw [hfl, hlen]; exact hk
              obtain ⟨x, hx, hcx, hdm⟩ := flat_at hsz (List.getElem?_eq_getElem hkl)
              rw [List.getElem?_eq_getElem hkl, ← hcx]
              rw [← he] at hx
              have hi := inL hx
              simp only [List.length_map, List.length_range] at hi
              simp only [List.getElem?_map, List.getElem?_range hi, Option.map_some, Option.some.injEq] at hx
              subst hx
              rw [mkElem_cells] at hcx ⊢
              have hmod : k % s' < s' := by have := inL hcx; simp at this; omega
              rw [List.getElem?_take, if_pos hmod, List.getElem?_drop]
              congr 1
              omega
            by_cases h0 : n = 0
            · subst h0
              have hy0 : ys = [] := by cases ys <;> simp_all
              subst hy0
              exact ⟨[], fun d => by simp [Builtin.firstCells, loadCells, loadCellsFrom], by simp, fun j x u h => by simp at h⟩
            · have hcap : cap ≠ 0 := by omega
              obtain ⟨ho1, ho2⟩ := ho hcap
              have := rowcase L.r o' (fun k => (w.cell? ⟨L.r, o' + k, none⟩).getD undef) (fun k hk => by
                have hk' : o + k < c.length := by rw [hlen] at hk; omega
                obtain ⟨u, hu, _⟩ := h2 (o + k) _ (List.getElem?_eq_getElem hk')
                rw [ho1, show L.d + o + k = L.d + (o + k) by omega, hu]; rfl) (fun k x hk => by
                have hk2 := inL hk
                rw [hfl, hlen] at hk2
                rw [hcell k hk2] at hk
                obtain ⟨u, hu, hvu⟩ := h2 (o + k) x hk
                rw [ho1, show L.d + o + k = L.d + (o + k) by omega, hu]; exact hvu)
              simpa [Builtin.firstCells] using this
        · simp at he
      · simp at he
    · simp at he
  · simp at he


theorem growBy_le (newLen : Nat) : ∀ (r c : Nat), 256 ≤ c → c ≤ 2 * newLen → Builtin.growBy newLen r c ≤ 2 * newLen := by
  intro r
  induction r with
  | zero => intro c _ h; exact h
  | succ r ih =>
    intro c hc h
    simp only [Builtin.growBy]
    split
    · exact h
    · exact ih _ (by omega) (by omega)

theorem nextcap_le {need cap : Nat} (h : cap < need) : Builtin.nextslicecap need cap ≤ 2 * need := by
  unfold Builtin.nextslicecap
  split
  · omega
  · split
    · omega
    · exact growBy_le _ _ _ (by omega) (by omega)

theorem run_append_in {t tx e s : Nat} {dx : TypeDesc} (hu : P.underlying t = some (.slice e)) (hx : P.underlying tx = some dx) (hdx : ∀ k, dx ≠ .int k) (hs : sizeT P e = some s)
    {base : Option Addr} {len cap n T : Nat} {vx : Value} {new : List Value} (hn : (Builtin.lenOf vx).run P w = .ok n w) (hnew : (Builtin.firstCells s n vx).run P w = .ok new.toArray w) (hle : len + n ≤ cap) :
    (Builtin.append_ #[t, tx] T #[.slice base len cap, vx]).run P w =
      ((match base with | some a => storeCells (a.add (len * s)) new | none => pure ()).run P w).andThen fun _ w' => .ok (.slice base (len + n) cap) w' := by
  have hz : (match dx with | .int _ => true | _ => false) = false := by cases dx <;> first | rfl | exact absurd rfl (hdx _)
  simp only [Builtin.append_, List.getElem?_toArray, List.getElem?_cons_zero, List.getElem?_cons_succ, Sem.run_bind, r_under hu, Result.andThen_ok, r_sizeOf hs, r_under hx, Sem.run_pure, hz, Bool.false_eq_true, if_false, hn, Bool.not_false, if_true, hnew]
  rw [if_pos hle]
  cases base with
  | none => simp [hnew]
  | some a => simp [hnew]

theorem run_append_new {t tx e s bytes : Nat} {dx : TypeDesc} {z : Value} (hu : P.underlying t = some (.slice e)) (hx : P.underlying tx = some dx) (hdx : ∀ k, dx ≠ .int k) (hs : sizeT P e = some s)
    (hb : bytesT P e = some bytes) (hb0 : 0 < bytes) (hz0 : zeroT P e = some z) (hzs : z.cells.size = s)
    {base : Option Addr} {len cap n T : Nat} {vx : Value} {old new : List Value} (hn : (Builtin.lenOf vx).run P w = .ok n w) (hold : ∀ d, (Builtin.firstCells s len (.slice base len cap)).run P { w with drawn := d } = .ok old.toArray { w with drawn := d })
    (hnew : ∀ d, (Builtin.firstCells s n vx).run P { w with drawn := d } = .ok new.toArray { w with drawn := d }) (hlt : cap < len + n) (hbig : (len + n) * bytes ≤ 2 ^ 47) :
    ∃ newCap rest d, len + n ≤ newCap ∧ rest.length = (newCap - (len + n)) * s ∧ (Builtin.append_ #[t, tx] T #[.slice base len cap, vx]).run P w =
      .ok (.slice (some ⟨w.heap.size, 0, none⟩) (len + n) newCap) (World.alloc { w with drawn := d } (.cells (old ++ new ++ rest).toArray e)) := by
  have hz : (match dx with | .int _ => true | _ => false) = false := by cases dx <;> first | rfl | exact absurd rfl (hdx _)
  simp only [bytesT, Option.map_eq_some_iff] at hb
  obtain ⟨i, hi, hib⟩ := hb
  have hneed : len + n ≤ 2 ^ 47 := Nat.le_trans (Nat.le_mul_of_pos_right _ hb0) hbig
  have hq : ¬ (((len + n : Nat) : Int) > IntKind.i64.max ∧ (False ∨ i.bytes = 0)) := by
    have hmax : IntKind.i64.max = 9223372036854775807 := by decide
    rw [hib, hmax]; omega
  have hcap := nextcap_le hlt
  have hmul : Builtin.nextslicecap (len + n) cap * i.bytes ≤ 2 * (len + n) * i.bytes := Nat.mul_le_mul_right _ hcap
  have hr2 : ¬ (Builtin.nextslicecap (len + n) cap * i.bytes > 2 ^ 48) := by
    have h2 : 2 * (len + n) * i.bytes = 2 * ((len + n) * i.bytes) := Nat.mul_assoc _ _ _
    rw [hib] at hmul h2 ⊢
    omega
  let t0 := w.tape w.drawn (.appendCap (len + n) cap e)
  let nc := len + n + t0 % (2 ^ 63 - (len + n))
  refine ⟨nc, (Builtin.zeroCells z.cells (nc - (len + n))).toList, w.drawn + 1, Nat.le_add_right _ _, by simp [Builtin.zeroCells, hzs], ?_⟩
  have hm : ¬ (len + n ≤ cap) := by omega
  have hro := hold (w.drawn + 1)
  have hrn := hnew (w.drawn + 1)
  simp only [Builtin.append_, List.getElem?_toArray, List.getElem?_cons_zero, List.getElem?_cons_succ, Sem.run_bind, r_under hu, Result.andThen_ok, r_sizeOf hs, r_under hx, Sem.run_pure, hz, Bool.false_eq_true, if_false, hn, Bool.not_false, if_true, r_typeInfo hi]
  rw [if_neg hm]
  rw [Sem.run_bind, r_typeInfo hi, Result.andThen_ok, if_neg hq, Sem.run_bind, r_typeInfo hi, Result.andThen_ok, if_neg hr2]
  have hch : (choose (.appendCap (len + n) cap e)).run P w = .ok nc { w with drawn := w.drawn + 1 } := by
    rw [run_choose]; rfl
  simp only [Sem.run_bind, hch, Result.andThen_ok, r_typeInfo hi, run_askRoom, hro, hrn, r_zero hz0, Sem.run_pure]
  have : (newRow e (old.toArray ++ new.toArray ++ Builtin.zeroCells z.cells (nc - (len + n)))).run P { w with drawn := w.drawn + 1 } = .ok ⟨w.heap.size, 0, none⟩ (World.alloc { w with drawn := w.drawn + 1 } (.cells (old.toArray ++ new.toArray ++ Builtin.zeroCells z.cells (nc - (len + n))) e)) := rfl
  rw [this]
  simp only [Result.andThen_ok]
  congr 3
  apply Array.ext'
  simp

/-- What an append is told of its types. -/
structure AppT (P : Program) (t tx e s bytes : Nat) : Prop where
  hu : P.underlying t = some (.slice e)
  hx : ∃ dx, P.underlying tx = some dx ∧ ∀ k, dx ≠ .int k
  hs : sizeT P e = some s
  hb : bytesT P e = some bytes
  hb0 : 0 < bytes
  hz : ∃ z, zeroT P e = some z ∧ z.cells.size = s

/-- Cells, then others: what they stand for. -/
theorem cells_app {xs ys : List AV} {cs ds : List Value} (hl : cs.length = xs.length) (h1 : ∀ (j : Nat) x u, xs[j]? = some x → cs[j]? = some u → VR E w x u)
    (h2 : ∀ (j : Nat) x u, ys[j]? = some x → ds[j]? = some u → VR E w x u) (rest : List Value) (j : Nat) (x : AV) (u : Value) (hj : (xs ++ ys)[j]? = some x) (hu : ((cs ++ ds ++ rest).toArray)[j]? = some u) (hld : ds.length = ys.length) : VR E w x u := by
  simp only [List.getElem?_toArray] at hu
  have hlt := inL hj
  simp only [List.length_append] at hlt
  rw [List.getElem?_append_left (by simp; omega)] at hu
  rcases Nat.lt_or_ge j xs.length with h | h
  · rw [List.getElem?_append_left h] at hj
    rw [List.getElem?_append_left (by omega)] at hu
    exact h1 j x u hj hu
  · rw [List.getElem?_append_right h] at hj
    rw [List.getElem?_append_right (by omega), hl] at hu
    exact h2 _ x u hj hu

theorem sim_append_nil (hH : HRel E H w) (h0 : 0 < H.toks.length) {t tx e s bytes T : Nat} (hT : AppT P t tx e s bytes) {vy : Value} {ys : List AV} (hok : ∀ x ∈ ys, x ≠ .undef ∧ x.cells.length = s)
    (hn : (Builtin.lenOf vy).run P w = .ok ys.length w) {cells : List Value} (hc : ∀ d, (Builtin.firstCells s ys.length vy).run P { w with drawn := d } = .ok cells.toArray { w with drawn := d })
    (hcl : cells.length = (ys.flatMap AV.cells).length) (hcv : ∀ (j : Nat) x u, (ys.flatMap AV.cells)[j]? = some x → cells[j]? = some u → VR E w x u) (hpos : 0 < ys.length) (hbig : ys.length * bytes ≤ 2 ^ 47) (m : Bool) :
    Sim P (Builtin.append_ #[t, tx] T #[.slice none 0 0, vy]) E H w (if m then .slr H.obs.length 0 ys.length s else .sl H.toks.length s ys)
      (if m then ⟨H.obs ++ [.cells (ys.flatMap AV.cells)], H.toks⟩ else ⟨H.obs, H.toks ++ [(ys.length, s)]⟩) := by
  obtain ⟨dx, hx, hdx⟩ := hT.hx
  obtain ⟨z, hz, hzs⟩ := hT.hz
  obtain ⟨nc, rest, d, h1, h2, hrun⟩ := run_append_new (P := P) (w := w) (T := T) hT.hu hx hdx hT.hs hT.hb hT.hb0 hz hzs (base := none) (len := 0) (cap := 0) (old := []) hn (fun d => by simp [Builtin.firstCells]) hc (by omega) (by simpa using hbig)
  obtain ⟨hD, sD⟩ := hH.drew d
  have hfl := flat_len ys (fun x hx => (hok x hx).2)
  have hcv' : ∀ (j : Nat) x u, (ys.flatMap AV.cells)[j]? = some x → (([] ++ cells ++ rest).toArray)[j]? = some u → VR E { w with drawn := d } x u := by
    intro j x u hj hu
    have := inL hj
    simp only [List.nil_append, List.getElem?_toArray] at hu
    rw [List.getElem?_append_left (by omega)] at hu
    exact (hcv j x u hj hu).mono sD.ext
  simp only [Nat.zero_add] at h1 h2 hrun
  have hsz : (([] ++ cells ++ rest).toArray).size = nc * s := by
    simp only [List.nil_append, List.size_toArray, List.length_append, h2, hcl, hfl]
    rw [← Nat.add_mul]; congr 1; omega
  cases m with
  | true =>
    obtain ⟨E', a, b, c⟩ := newRow_ref (s := s) (cap := nc) (n := ys.length) hD e (xs := ys.flatMap AV.cells) h1 (by rw [hsz]; exact Nat.le_refl _) (by rw [hsz, hfl]; exact Nat.mul_le_mul_right _ h1) hcv'
    exact ⟨E', _, _, hrun, a, b, sD.trans c⟩
  | false =>
    obtain ⟨E', a, b, c⟩ := newRow_tok hD h0 e (0, 0) (cap := nc) hok h1 (by rw [hsz]; exact Nat.le_refl _) (fun i _ h => by simp at h) hcv'
    exact ⟨E', _, _, hrun, a, b, sD.trans c⟩

theorem sim_append_tok (hH : HRel E H w) {t tx e s bytes T : Nat} (hT : AppT P t tx e s bytes) {vx vy : Value} {k : Nat} {xs ys : List AV} (hx : VR E w (.sl k s xs) vx) (hk : k ≠ 0) (hk2 : H.toks[k]? = some (xs.length, s))
    (hok : ∀ x ∈ ys, x ≠ .undef ∧ x.cells.length = s ∧ x.cells.all AV.isCell = true)
    (hn : (Builtin.lenOf vy).run P w = .ok ys.length w) {cells : List Value} (hc : ∀ d, (Builtin.firstCells s ys.length vy).run P { w with drawn := d } = .ok cells.toArray { w with drawn := d })
    (hcl : cells.length = (ys.flatMap AV.cells).length) (hcv : ∀ (j : Nat) x u, (ys.flatMap AV.cells)[j]? = some x → cells[j]? = some u → VR E w x u) (hpos : 0 < ys.length) (hbig : (xs.length + ys.length) * bytes ≤ 2 ^ 47) :
    Sim P (Builtin.append_ #[t, tx] T #[vx, vy]) E H w (.sl k s (xs ++ ys)) ⟨H.obs, H.toks.set k (xs.length + ys.length, s)⟩ := by
  obtain ⟨dx, hdxu, hdx⟩ := hT.hx
  obtain ⟨z, hz, hzs⟩ := hT.hz
  have hfl := flat_len ys (fun x hx => (hok x hx).2.1)
  have hall : (ys.flatMap AV.cells).all AV.isCell = true := by
    rw [List.all_eq_true]
    intro c hcm
    obtain ⟨x, hxm, hcx⟩ := List.mem_flatMap.1 hcm
    exact List.all_eq_true.1 (hok x hxm).2.2 c hcx
  cases hx with
  | sle => exact absurd rfl hk
  | sl _ _ _ r o cap us hcap hs hcc hp hv ht h0 =>
    obtain ⟨n, s0, hcl0, hle, he⟩ := ht hk
    have htok := hH.tok k n s0 hcl0
    rw [hk2] at htok
    obtain ⟨_, hts, htr⟩ := htok
    injection hts with hts
    injection hts with e1 e2
    subst e1; subst e2
    obtain ⟨e3, e4⟩ := he rfl
    obtain ⟨rc, e', fz, hb, hn1, hsz1, hfz, hnp⟩ := htr
    rw [e4] at hb hn1 hsz1 hfz hnp
    simp only at hb hn1 hsz1 hfz hnp
    have hxok : ∀ x ∈ xs ++ ys, x.cells.length = s := by
      intro x hx
      rcases List.mem_append.1 hx with h | h
      · obtain ⟨i, hi, hxe⟩ := List.getElem_of_mem h
        exact hs i x (by rw [List.getElem?_eq_getElem hi, hxe])
      · exact (hok x h).2.1
    have hcell : w.heap[r]? = some (.cells rc e' fz) := hb
    have oldc : ∀ (j : Nat) c, (xs.flatMap AV.cells)[j]? = some c → ∃ u, rc[o + j]? = some u ∧ VR E w c u := by
      intro j c hj
      obtain ⟨x, hx, hcx, hdm⟩ := flat_at (fun x hx => hxok x (List.mem_append_left _ hx)) hj
      have h1 := hcc _ _ _ _ hx hcx
      rw [cell_of_block hcell] at h1
      rw [show o + j / s * s + j % s = o + j by omega] at h1
      exact ⟨_, h1, hv _ _ _ _ hx hcx⟩
    have hflx := flat_len xs (fun x hx => hxok x (List.mem_append_left _ hx))
    have hmul : (xs.length + ys.length) * s = xs.length * s + ys.length * s := Nat.add_mul _ _ _
    rcases Nat.lt_or_ge cap (xs.length + ys.length) with hlt | hge
    · -- a new block
      have hold : ∀ d, (Builtin.firstCells s xs.length (.slice (some ⟨r, o, none⟩) xs.length cap)).run P { w with drawn := d } = .ok (((List.range (xs.length * s)).map fun j => (rc[o + j]?).getD undef).toArray) { w with drawn := d } := fun d => by
        simp only [Builtin.firstCells]
        refine run_loadCells _ _ _ (fun j => (rc[o + j]?).getD undef) (fun j hj => ?_)
        have : (xs.flatMap AV.cells)[j]? = some (xs.flatMap AV.cells)[j] := List.getElem?_eq_getElem (by omega)
        obtain ⟨u, hu, _⟩ := oldc j _ this
        rw [add_addr, hu]
        show w.cell? _ = _
        rw [cell_of_block hcell, hu]; rfl
      obtain ⟨nc, rest, d, h1, h2, hrun⟩ := run_append_new (P := P) (w := w) (T := T) hT.hu hdxu hdx hT.hs hT.hb hT.hb0 hz hzs hn hold hc hlt hbig
      obtain ⟨hD, sD⟩ := hH.drew d
      have hsz : ((((List.range (xs.length * s)).map fun j => (rc[o + j]?).getD undef) ++ cells ++ rest).toArray).size = nc * s := by
        simp only [List.size_toArray, List.length_append, List.length_map, List.length_range, h2, hcl, hfl]
        rw [← Nat.add_mul, ← Nat.add_mul]; congr 1; omega
      obtain ⟨hM, sM⟩ := hD.moveTok hcl0 hpos ((((List.range (xs.length * s)).map fun j => (rc[o + j]?).getD undef) ++ cells ++ rest).toArray) e nc h1 (by rw [hsz]; exact Nat.le_refl _) (0, 0) (fun i _ h => by simp at h)
      have hxs : (xs ++ ys).length = xs.length + ys.length := List.length_append
      have hflall : (xs ++ ys).flatMap AV.cells = xs.flatMap AV.cells ++ ys.flatMap AV.cells := List.flatMap_append
      obtain ⟨us, a, b⟩ := row_cells (E := E.growTok k (xs.length + ys.length) s ⟨w.heap.size, 0, nc⟩) (w := World.alloc { w with drawn := d } (.cells ((((List.range (xs.length * s)).map fun j => (rc[o + j]?).getD undef) ++ cells ++ rest).toArray) e)) (s := s) (r := w.heap.size) (o := 0) (xs := xs ++ ys)
        (cells := (((List.range (xs.length * s)).map fun j => (rc[o + j]?).getD undef) ++ cells)) hxok (fun j u hj => by
          rw [cell_of_block (heap_alloc_new _ _), Nat.zero_add]
          simp only [List.getElem?_toArray]
          rw [List.getElem?_append_left (inL hj)]
          exact hj) (by rw [hflall]; simp only [List.length_append, List.length_map, List.length_range, hcl, hflx]) (fun j x u hj hu => by
          rw [hflall] at hj
          refine (cells_app (E := E) (w := w) (xs := xs.flatMap AV.cells) (ys := ys.flatMap AV.cells) (cs := (List.range (xs.length * s)).map fun j => (rc[o + j]?).getD undef) (ds := cells) (by rw [List.length_map, List.length_range, hflx]) ?_ hcv [] j x u hj (by simpa using hu) hcl).mono (sD.ext.trans sM.ext)
          intro j' x' u' hj' hu'
          obtain ⟨u2, hu2, hv2⟩ := oldc j' x' hj'
          have : j' < xs.length * s := by have := inL hj'; omega
          simp [this, hu2] at hu'
          exact hu' ▸ hv2)
      refine ⟨_, _, _, hrun, ?_, hM, sD.trans sM⟩
      have hVR := VR.sl (E := E.growTok k (xs.length + ys.length) s ⟨w.heap.size, 0, nc⟩) (w := World.alloc { w with drawn := d } (.cells ((((List.range (xs.length * s)).map fun j => (rc[o + j]?).getD undef) ++ cells ++ rest).toArray) e))
        k s (xs ++ ys) w.heap.size 0 nc us (by rw [hxs]; exact h1) (fun i x hi => hxok x (List.mem_of_getElem? hi)) a (fun i x j c hi hj => Or.inr ⟨rfl, Nat.zero_le _, ?_⟩) b (fun _ => ⟨xs.length + ys.length, s, by simp [Env.growTok], by rw [hxs]; exact Nat.le_refl _, fun _ => ⟨rfl, by simp [Env.growTok]⟩⟩) (fun h => absurd h hk)
      · rw [hxs] at hVR; exact hVR
      · have h5 := inL (flat_get _ hxok i j x c hi hj)
        rw [flat_len _ hxok, hxs] at h5
        show 0 + i * s + j < 0 + (xs.length + ys.length) * s
        omega
    · -- in place
      have hnew0 := hc w.drawn
      have hrun := run_append_in (P := P) (w := w) (T := T) hT.hu hdxu hdx hT.hs (base := some ⟨r, o, none⟩) hn hnew0 hge
      have hcapmul : (xs.length + ys.length) * s ≤ cap * s := Nat.mul_le_mul_right _ hge
      have hone : ∀ v ∈ cells, v.oneCell' = true := by
        intro v hv'
        have := oneCells (E := E) (w := w) (xs := ys.flatMap AV.cells) (vs := cells.toArray) (by simpa using hcl.symm) (fun j x u hj hu => hcv j x u hj (by simpa using hu)) hall v (by simpa using hv')
        exact this
      have hst := run_setCells (P := P) cells w r (o + xs.length * s) 0 rc e' fz hcell (by omega) (fun j h1 h2 => hfz j (by omega) (by omega)) hone
      simp only [Nat.add_zero] at hst
      simp only [add_addr] at hrun
      simp only [hst, Result.andThen_ok] at hrun
      have hlow : ∀ i, i < (E.tk k).o + xs.length * s → (setCells rc (o + xs.length * s) cells)[i]? = rc[i]? := by
        intro i hi
        rw [e4] at hi
        simp only at hi
        rw [setCells_get _ _ _ _ (by omega), if_neg (by omega)]
      have hb' : w.heap[(E.tk k).r]? = some (.cells rc e' fz) := by rw [e4]; exact hcell
      obtain ⟨hM, sM⟩ := hH.putTok (m := ys.length) hcl0 hb' (setCells_size _ _ _) hlow (by rw [e4]; exact hge)
      rw [e4] at hM sM
      simp only at hM sM
      have hxs : (xs ++ ys).length = xs.length + ys.length := List.length_append
      have hflall : (xs ++ ys).flatMap AV.cells = xs.flatMap AV.cells ++ ys.flatMap AV.cells := List.flatMap_append
      obtain ⟨us, a, b⟩ := row_cells (E := E.growTok k (xs.length + ys.length) s ⟨r, o, cap⟩) (w := putBlock w r (.cells (setCells rc (o + xs.length * s) cells) e' fz)) (s := s) (r := r) (o := o) (xs := xs ++ ys)
        (cells := (((List.range (xs.length * s)).map fun j => (rc[o + j]?).getD undef) ++ cells)) hxok (fun j u hj => by
          rw [cell_of_block (heap_put_same _ _ (lt_of_heap hcell)), setCells_get _ _ _ _ (by omega)]
          rcases Nat.lt_or_ge j (xs.length * s) with h | h
          · rw [if_neg (by omega)]
            rw [List.getElem?_append_left (by simpa using h)] at hj
            have hjx : j < (xs.flatMap AV.cells).length := by omega
            obtain ⟨u2, hu2, _⟩ := oldc j _ (List.getElem?_eq_getElem hjx)
            simp [h, hu2] at hj
            rw [hu2, hj]
          · have hj' := inL hj
            simp only [List.length_append, List.length_map, List.length_range] at hj'
            rw [if_pos (by omega)]
            rw [List.getElem?_append_right (by simpa using h)] at hj
            simp only [List.length_map, List.length_range] at hj
            rw [show o + j - (o + xs.length * s) = j - xs.length * s by omega]
            exact hj) (by rw [hflall]; simp only [List.length_append, List.length_map, List.length_range, hcl, hflx]) (fun j x u hj hu => by
          rw [hflall] at hj
          refine (cells_app (E := E) (w := w) (xs := xs.flatMap AV.cells) (ys := ys.flatMap AV.cells) (cs := (List.range (xs.length * s)).map fun j => (rc[o + j]?).getD undef) (ds := cells) (by rw [List.length_map, List.length_range, hflx]) ?_ hcv [] j x u hj (by simpa using hu) hcl).mono sM.ext
          intro j' x' u' hj' hu'
          obtain ⟨u2, hu2, hv2⟩ := oldc j' x' hj'
          have : j' < xs.length * s := by have := inL hj'; omega
          simp [this, hu2] at hu'
          exact hu' ▸ hv2)
      refine ⟨_, _, _, hrun, ?_, hM, sM⟩
      have hVR := VR.sl (E := E.growTok k (xs.length + ys.length) s ⟨r, o, cap⟩) (w := putBlock w r (.cells (setCells rc (o + xs.length * s) cells) e' fz))
        k s (xs ++ ys) r o cap us (by rw [hxs]; exact hge) (fun i x hi => hxok x (List.mem_of_getElem? hi)) a (fun i x j c hi hj => Or.inr ⟨rfl, by show o ≤ _; omega, ?_⟩) b (fun _ => ⟨xs.length + ys.length, s, by simp [Env.growTok], by rw [hxs]; exact Nat.le_refl _, fun _ => ⟨rfl, by simp [Env.growTok]⟩⟩) (fun h => absurd h hk)
      · rw [hxs] at hVR; exact hVR
      · have h5 := inL (flat_get _ hxok i j x c hi hj)
        rw [flat_len _ hxok, hxs] at h5
        show o + i * s + j < o + (xs.length + ys.length) * s
        omega

end Go.SV

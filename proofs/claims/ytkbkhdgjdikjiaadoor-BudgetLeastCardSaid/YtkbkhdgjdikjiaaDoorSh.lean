/- Appends to rows that may be written; slices of rows; places of elements; rows made, copied, sealed. Own text of the prover; nothing is assumed. -/
import Derived.Test.YtkbkhdgjdikjiaaDoorSg
namespace Go.SV

variable {P : Program} {E E' : Env} {H H' : AH} {w w' : World}

theorem sim_append_ref (hH : HRel E H w) {t tx e s bytes T : Nat} (hT : AppT P t tx e s bytes) {vx vy : Value} {b o n : Nat} {c : List AV} {ys : List AV} (hx : VR E w (.slr b o n s) vx) (hc0 : H.get b = .cells c) (hle : o + n * s ≤ c.length)
    (hok : ∀ x ∈ ys, x ≠ .undef ∧ x.cells.length = s ∧ x.cells.all AV.isCell = true)
    (hn : (Builtin.lenOf vy).run P w = .ok ys.length w) {cells : List Value} (hc : ∀ d, (Builtin.firstCells s ys.length vy).run P { w with drawn := d } = .ok cells.toArray { w with drawn := d })
    (hcl : cells.length = (ys.flatMap AV.cells).length) (hcv : ∀ (j : Nat) x u, (ys.flatMap AV.cells)[j]? = some x → cells[j]? = some u → VR E w x u) (hpos : 0 < ys.length) (hbig : (n + ys.length) * bytes ≤ 2 ^ 47) :
    Sim P (Builtin.append_ #[t, tx] T #[vx, vy]) E H w (.slr H.obs.length 0 (n + ys.length) s) ⟨H.obs.set b .dead ++ [.cells ((c.drop o).take (n * s) ++ ys.flatMap AV.cells)], H.toks⟩ := by
  obtain ⟨dx, hdxu, hdx⟩ := hT.hx
  obtain ⟨z, hz, hzs⟩ := hT.hz
  have hfl := flat_len ys (fun x hx => (hok x hx).2.1)
  have hall : (ys.flatMap AV.cells).all AV.isCell = true := by
    rw [List.all_eq_true]
    intro c hcm
    obtain ⟨x, hxm, hcx⟩ := List.mem_flatMap.1 hcm
    exact List.all_eq_true.1 (hok x hxm).2.2 c hcx
  have hmul : (n + ys.length) * s = n * s + ys.length * s := Nat.add_mul _ _ _
  cases hx with
  | slr _ _ _ _ cap o' L hL hncap ho =>
    have hobj := hH.obj b L hL
    rw [hc0] at hobj
    obtain ⟨rc, e', fz, hb, hR, hlen, hcv0, hfz, hnp⟩ := hobj
    have hlive : (H.get b).live = true := by rw [hc0]; rfl
    have hcv1 : ∀ (j : Nat) x, ((c.drop o).take (n * s))[j]? = some x → ∃ u, rc[L.d + o + j]? = some u ∧ VR E w x u := by
      intro j x hj
      have hj2 := inL hj
      simp only [List.length_take, List.length_drop] at hj2
      rw [List.getElem?_take, if_pos (by omega), List.getElem?_drop] at hj
      obtain ⟨u, hu, hv⟩ := hcv0 _ _ hj
      exact ⟨u, by rw [Nat.add_assoc]; exact hu, hv⟩
    have htl : ((c.drop o).take (n * s)).length = n * s := by simp; omega
    rcases Nat.lt_or_ge cap (n + ys.length) with hlt | hge
    · have hcap0 : n = 0 ∨ cap ≠ 0 := by omega
      have hold : ∀ d, (Builtin.firstCells s n (.slice (some ⟨L.r, o', none⟩) n cap)).run P { w with drawn := d } = .ok (((List.range (n * s)).map fun j => (rc[L.d + o + j]?).getD undef).toArray) { w with drawn := d } := fun d => by
        simp only [Builtin.firstCells]
        refine run_loadCells _ _ _ (fun j => (rc[L.d + o + j]?).getD undef) (fun j hj => ?_)
        have hn0 : n ≠ 0 := by rintro rfl; simp at hj
        have ho1 := (ho (by omega)).1
        have hj' : j < ((c.drop o).take (n * s)).length := by omega
        obtain ⟨u, hu, _⟩ := hcv1 j _ (List.getElem?_eq_getElem hj')
        rw [add_addr, hu]
        show w.cell? _ = _
        rw [cell_of_block hb, ho1, hu]; rfl
      obtain ⟨nc, rest, d, h1, h2, hrun⟩ := run_append_new (P := P) (w := w) (T := T) hT.hu hdxu hdx hT.hs hT.hb hT.hb0 hz hzs hn hold hc hlt hbig
      obtain ⟨hD, sD⟩ := hH.drew d
      obtain ⟨hK, sK⟩ := hD.kill b
      have hsz : ((((List.range (n * s)).map fun j => (rc[L.d + o + j]?).getD undef) ++ cells ++ rest).toArray).size = nc * s := by
        simp only [List.size_toArray, List.length_append, List.length_map, List.length_range, h2, hcl, hfl]
        rw [← Nat.add_mul, ← Nat.add_mul]; congr 1; omega
      obtain ⟨E', a, b', c'⟩ := newRow_ref (s := s) (cap := nc) (n := n + ys.length) hK e (xs := (c.drop o).take (n * s) ++ ys.flatMap AV.cells) h1 (by rw [hsz]; exact Nat.le_refl _)
        (by rw [hsz, List.length_append, htl, hfl, ← hmul]; exact Nat.mul_le_mul_right _ h1) (fun j x u hj hu => by
          refine (cells_app (E := E) (w := w) (cs := (List.range (n * s)).map fun j => (rc[L.d + o + j]?).getD undef) (ds := cells) (by rw [List.length_map, List.length_range, htl]) ?_ hcv rest j x u hj hu hcl).mono sD.ext
          intro j' x' u' hj' hu'
          obtain ⟨u2, hu2, hv2⟩ := hcv1 j' x' hj'
          have : j' < n * s := by have := inL hj'; omega
          simp [this, hu2] at hu'
          exact hu' ▸ hv2)
      refine ⟨E', _, _, hrun, ?_, ?_, sD.trans (sK.trans ?_)⟩
      · simpa using a
      · exact b'
      · exact c'
    · have hcap0 : cap ≠ 0 := by omega
      obtain ⟨ho1, ho2⟩ := ho hcap0
      subst ho1
      have hnew0 := hc w.drawn
      have hrun := run_append_in (P := P) (w := w) (T := T) hT.hu hdxu hdx hT.hs (base := some ⟨L.r, L.d + o, none⟩) hn hnew0 hge
      have hcapmul : (n + ys.length) * s ≤ cap * s := Nat.mul_le_mul_right _ hge
      have hone : ∀ v ∈ cells, v.oneCell' = true := by
        intro v hv'
        exact oneCells (E := E) (w := w) (xs := ys.flatMap AV.cells) (vs := cells.toArray) (by simpa using hcl.symm) (fun j x u hj hu => hcv j x u hj (by simpa using hu)) hall v (by simpa using hv')
      have hst := run_setCells (P := P) cells w L.r (L.d + o + n * s) 0 rc e' fz hb (by omega) (fun j h1 h2 => hfz.no j (by omega)) hone
      simp only [Nat.add_zero] at hst
      simp only [add_addr] at hrun
      simp only [hst, Result.andThen_ok] at hrun
      obtain ⟨hM, sM, hφ⟩ := hH.regrow hL hlive (.cells (setCells rc (L.d + o + n * s) cells) e' fz) (.cells ((c.drop o).take (n * s) ++ ys.flatMap AV.cells)) ⟨L.r, L.d + o, L.R⟩ rfl (fun E' hx' hnp' => by
        refine ⟨_, e', fz, heap_put_same _ _ (lt_of_heap hb), by rw [setCells_size]; exact hR, by simp only [List.length_append, htl, hfl]; omega, fun j x hj => ?_, hfz, hnp'⟩
        rw [setCells_get _ _ _ _ (by omega)]
        simp only
        rcases Nat.lt_or_ge j (n * s) with h | h
        · rw [if_neg (by omega)]
          rw [List.getElem?_append_left (by omega)] at hj
          obtain ⟨u, hu, hv⟩ := hcv1 j x hj
          exact ⟨u, hu, hv.mono hx'⟩
        · rw [List.getElem?_append_right (by omega), htl] at hj
          have hj3 := inL hj
          rw [if_pos (by omega), show L.d + o + j - (L.d + o + n * s) = j - n * s by omega]
          have hj4 : j - n * s < cells.length := by omega
          exact ⟨_, List.getElem?_eq_getElem hj4, (hcv _ x _ hj (List.getElem?_eq_getElem hj4)).mono hx'⟩)
      exact ⟨_, _, _, hrun, .slr H.obs.length 0 _ _ cap (L.d + o) ⟨L.r, L.d + o, L.R⟩ hφ hge (fun _ => ⟨rfl, by show L.d + o + 0 + cap * s ≤ L.R; omega⟩), hM, sM⟩

theorem sim_append (hH : HRel E H w) (h0 : 0 < H.toks.length) {t tx e s bytes T : Nat} (hT : AppT P t tx e s bytes) {m : Mode} {x y v : AV} {vx vy : Value} (hx : VR E w x vx) (hy : VR E w y vy)
    (h : aAppend m s bytes x y H = some (v, H')) : Sim P (Builtin.append_ #[t, tx] T #[vx, vy]) E H w v H' := by
  unfold aAppend at h
  split at h
  · simp at h
  · rename_i ys he
    split at h
    · rename_i hemp
      have hy0 : ys = [] := by simpa using hemp
      subst hy0
      obtain ⟨hn, cells, hc, hcl, _⟩ := elems_run (P := P) hH hy he (fun x hx => by simp at hx)
      have hc0 : cells = [] := by cases cells <;> simp_all
      subst hc0
      obtain ⟨dx, hdxu, hdx⟩ := hT.hx
      have key : ∀ (base : Option Addr) (len cap : Nat), vx = .slice base len cap → len ≤ cap → (Builtin.append_ #[t, tx] T #[vx, vy]).run P w = .ok vx w := by
        intro base len cap hv hle
        have := run_append_in (P := P) (w := w) (T := T) (len := len) (cap := cap) hT.hu hdxu hdx hT.hs (base := base) hn (hc w.drawn) (by simpa using hle)
        rw [hv, this]
        cases base with
        | none => simp
        | some a => simp [storeCells]
      split at h
      · simp only [Option.some.injEq, Prod.mk.injEq] at h
        obtain ⟨rfl, rfl⟩ := h
        refine Sim.same hH ?_ hx
        cases hx
        exact key _ _ _ rfl (Nat.le_refl _)
      · simp only [Option.some.injEq, Prod.mk.injEq] at h
        obtain ⟨rfl, rfl⟩ := h
        refine Sim.same hH ?_ hx
        cases hx with
        | sl _ _ _ r o cap us hcap => exact key _ _ _ rfl hcap
        | sle _ a => exact key _ _ _ rfl (Nat.le_refl _)
      · simp only [Option.some.injEq, Prod.mk.injEq] at h
        obtain ⟨rfl, rfl⟩ := h
        refine Sim.same hH ?_ hx
        cases hx with
        | slr _ _ _ _ cap o' L hL hn => exact key _ _ _ rfl hn
      · simp at h
    · rename_i hne
      have hpos : 0 < ys.length := by cases ys <;> simp_all
      split at h
      · simp at h
      · rename_i hok
        have hok : elemsOk s ys = true := by simpa using hok
        have hspec := elemsOk_spec hok
        obtain ⟨hn, cells, hc, hcl, hcv⟩ := elems_run (P := P) hH hy he (fun x hx => ⟨(hspec x hx).1, (hspec x hx).2.1⟩)
        split at h
        · split at h
          · rename_i hb
            simp only [Option.some.injEq, Prod.mk.injEq] at h
            obtain ⟨rfl, rfl⟩ := h
            cases hx
            exact sim_append_nil hH h0 hT (fun x hx => ⟨(hspec x hx).1, (hspec x hx).2.1⟩) hn hc hcl hcv hpos hb true
          · simp at h
        · rename_i b o n s'
          split at h
          · rename_i c hc0
            split at h
            · rename_i hcond
              obtain ⟨rfl, hle, hb⟩ := hcond
              simp only [Option.some.injEq, Prod.mk.injEq] at h
              obtain ⟨rfl, rfl⟩ := h
              exact sim_append_ref hH hT hx hc0 hle hspec hn hc hcl hcv hpos hb
            · simp at h
          · simp at h
        · simp at h
        · split at h
          · rename_i hb
            simp only [Option.some.injEq, Prod.mk.injEq] at h
            obtain ⟨rfl, rfl⟩ := h
            cases hx
            exact sim_append_nil hH h0 hT (fun x hx => ⟨(hspec x hx).1, (hspec x hx).2.1⟩) hn hc hcl hcv hpos hb false
          · simp at h
        · rename_i k s' xs _
          split at h
          · rename_i hcond
            obtain ⟨rfl, hk, hk2, hb⟩ := hcond
            simp only [Option.some.injEq, Prod.mk.injEq] at h
            obtain ⟨rfl, rfl⟩ := h
            exact sim_append_tok hH hT hx hk hk2 hspec hn hc hcl hcv hpos hb
          · simp at h
        · simp at h


/-! ### Slices of rows -/
theorem r_bound {k : IntKind} {i : Int} {y : Nat} {c : BoundsCode} (h : 0 ≤ i ∧ i ≤ y) : (Instr.sliceBound (.int k i) y c).run P w = .ok i.toNat w := by
  simp [Instr.sliceBound, asIntOf, h]

def aBd (n : Nat) (lo hi : Option AV) : Option (Nat × Nat) :=
  match hi, lo with
  | none, none => some (0, n)
  | none, some (.int _ l) => if 0 ≤ l ∧ l ≤ n then some (l.toNat, n) else none
  | some (.int _ h), none => if 0 ≤ h ∧ h ≤ n then some (0, h.toNat) else none
  | some (.int _ h), some (.int _ l) => if 0 ≤ h ∧ h ≤ n ∧ 0 ≤ l ∧ l ≤ h then some (l.toNat, h.toNat) else none
  | _, _ => none

theorem aSlice_eq (s : Nat) (x : AV) (lo hi : Option AV) : aSlice s x lo hi = (match x with
  | .str l => (aBd l.length lo hi).map fun (a, b) => .str ((l.take b).drop a)
  | .nils => (aBd 0 lo hi).map fun _ => .nils
  | .sl t s' xs => if s' = s then (aBd xs.length lo hi).map fun (a, b) => .sl t s ((xs.take b).drop a) else none
  | .slr b o n s' => if s' = s then (aBd n lo hi).map fun (a, h) => .slr b (o + a * s) (h - a) s else none
  | _ => none) := rfl

inductive OptVR (E : Env) (w : World) : Option AV → Option Value → Prop
  | none : OptVR E w none none
  | some {a : AV} {v : Value} (h : VR E w a v) : OptVR E w (some a) (some v)

theorem r_bounds {n cap : Nat} {lo hi : Option AV} {vlo vhi : Option Value} (hlo : OptVR E w lo vlo) (hhi : OptVR E w hi vhi) {a b : Nat} (h : aBd n lo hi = some (a, b)) (hc : n ≤ cap) (isS : Bool) :
    a ≤ b ∧ b ≤ n ∧ (Instr.sliceBounds isS n cap vlo vhi none).run P w = .ok (a, b, cap) w := by
  unfold aBd at h
  cases hhi with
  | none =>
    cases hlo with
    | none =>
      simp only [Option.some.injEq, Prod.mk.injEq] at h
      obtain ⟨rfl, rfl⟩ := h
      exact ⟨Nat.zero_le _, Nat.le_refl _, by simp [Instr.sliceBounds]⟩
    | some hl =>
      rename_i al vl
      cases hl with
      | int k l =>
        simp only at h
        split at h
        · rename_i hb
          simp only [Option.some.injEq, Prod.mk.injEq] at h
          obtain ⟨rfl, rfl⟩ := h
          refine ⟨by omega, Nat.le_refl _, ?_⟩
          simp [Instr.sliceBounds, r_bound hb]
        · simp at h
      | _ => simp at h
  | some hh =>
    rename_i ah vh
    cases hh with
    | int k hv =>
      cases hlo with
      | none =>
        simp only at h
        split at h
        · rename_i hb
          simp only [Option.some.injEq, Prod.mk.injEq] at h
          obtain ⟨rfl, rfl⟩ := h
          refine ⟨Nat.zero_le _, by omega, ?_⟩
          have hb' : 0 ≤ hv ∧ hv ≤ (cap : Int) := by omega
          simp [Instr.sliceBounds, r_bound hb']
        · simp at h
      | some hl =>
        rename_i al vl
        cases hl with
        | int k' l =>
          simp only at h
          split at h
          · rename_i hb
            simp only [Option.some.injEq, Prod.mk.injEq] at h
            obtain ⟨rfl, rfl⟩ := h
            refine ⟨by omega, by omega, ?_⟩
            have hb' : 0 ≤ hv ∧ hv ≤ (cap : Int) := by omega
            have hb2 : 0 ≤ l ∧ l ≤ ((hv.toNat : Nat) : Int) := by omega
            simp only [Instr.sliceBounds, Sem.run_bind, Sem.run_pure, Result.andThen_ok, r_bound hb', r_bound hb2]
          · simp at h
        | _ => simp at h
    | _ => cases lo <;> simp at h

theorem sim_slice_str (hH : HRel E H w) {t s : Nat} (hu : P.underlying t = some .string) {x v : AV} {vx : Value} {lo hi : Option AV} {vlo vhi : Option Value} (hx : VR E w x vx) (hlo : OptVR E w lo vlo) (hhi : OptVR E w hi vhi)
    {l : List UInt8} (hl : x = .str l) (h : aSlice s x lo hi = some v) : Sim P (Instr.sliceAt t vx vlo vhi none) E H w v H := by
  subst hl
  rw [aSlice_eq] at h
  simp only [Option.map_eq_some_iff] at h
  obtain ⟨⟨a, b⟩, hab, rfl⟩ := h
  cases hx with
  | str =>
    have hsz : (ByteArray.mk l.toArray).size = l.length := by simp [ByteArray.size]
    obtain ⟨h1, h2, h3⟩ := r_bounds (P := P) hlo hhi hab (Nat.le_refl _) false
    refine Sim.same hH ?_ (.str _)
    simp only [Instr.sliceAt, Sem.run_bind, r_under hu, Result.andThen_ok, Instr.slice, Option.isSome_none, Bool.false_eq_true, if_false, Sem.run_pure, pure_bind, hsz, h3]
    congr 2
    apply ByteArray.ext
    apply Array.ext'
    simp [ByteArray.data_extract, List.extract_eq_take_drop, List.drop_take]

theorem sim_slice_row (hH : HRel E H w) {t e s : Nat} (hu : P.underlying t = some (.slice e)) (hs : sizeT P e = some s) {x v : AV} {vx : Value} {lo hi : Option AV} {vlo vhi : Option Value} (hx : VR E w x vx) (hlo : OptVR E w lo vlo) (hhi : OptVR E w hi vhi)
    (hl : ∀ l, x ≠ .str l) (h : aSlice s x lo hi = some v) : Sim P (Instr.sliceAt t vx vlo vhi none) E H w v H := by
  have run : ∀ (base : Option Addr) (n cap a b : Nat), vx = .slice base n cap → aBd n lo hi = some (a, b) → n ≤ cap → a ≤ b ∧ b ≤ n ∧
      (Instr.sliceAt t vx vlo vhi none).run P w = .ok (.slice (if cap = a then base else base.map (·.add (a * s))) (b - a) (cap - a)) w := by
    intro base n cap a b hv hab hle
    obtain ⟨h1, h2, h3⟩ := r_bounds (P := P) hlo hhi hab hle true
    refine ⟨h1, h2, ?_⟩
    rw [hv]
    simp only [Instr.sliceAt, Sem.run_bind, r_under hu, Result.andThen_ok, Instr.slice, h3, r_sizeOf hs, Sem.run_pure]
  rw [aSlice_eq] at h
  cases hx with
  | nils =>
    simp only [Option.map_eq_some_iff] at h
    obtain ⟨⟨a, b⟩, hab, rfl⟩ := h
    obtain ⟨h1, h2, h3⟩ := run none 0 0 a b rfl hab (Nat.le_refl _)
    have ha : a = 0 := by omega
    have hb : b = 0 := by omega
    subst ha; subst hb
    exact Sim.same hH h3 (by simpa using VR.nils)
  | sle s' a =>
    simp only at h
    split at h
    case isFalse => simp at h
    simp only [List.length_nil, Option.map_eq_some_iff] at h
    obtain ⟨⟨x, y⟩, hab, rfl⟩ := h
    obtain ⟨h1, h2, h3⟩ := run (some a) 0 0 x y rfl hab (Nat.le_refl _)
    have ha : x = 0 := by omega
    have hb : y = 0 := by omega
    subst ha; subst hb
    exact Sim.same hH h3 (by simpa using VR.sle (E := E) (w := w) s a)
  | sl k s' xs r o cap us hcap hs' hc hp hv ht h0 =>
    simp only at h
    split at h
    case isFalse => simp at h
    rename_i ess
    subst ess
    simp only [Option.map_eq_some_iff] at h
    obtain ⟨⟨a, b⟩, hab, rfl⟩ := h
    obtain ⟨h1, h2, h3⟩ := run _ _ _ a b rfl hab hcap
    refine Sim.same hH h3 ?_
    have hlen : ((xs.take b).drop a).length = b - a := by simp; omega
    have hget : ∀ (i : Nat) x, ((xs.take b).drop a)[i]? = some x → i < b - a ∧ xs[a + i]? = some x := by
      intro i x hi
      have := inL hi
      rw [List.getElem?_drop, List.getElem?_take, if_pos (by omega)] at hi
      exact ⟨by omega, hi⟩
    by_cases hca : cap = a
    · have hbn : b = a := by omega
      have hemp : (xs.take b).drop a = [] := by apply List.eq_nil_of_length_eq_zero; omega
      rw [if_pos hca]
      rw [hemp]
      have := VR.sl (E := E) (w := w) k s' [] r o (cap - a) us (Nat.zero_le _) (fun i x h => by simp at h) (fun i x j c h => by simp at h) (fun i x j c h => by simp at h) (fun i x j c h => by simp at h) (fun hk => by
        obtain ⟨n, s0, e1, e2, e3⟩ := ht hk
        refine ⟨n, s0, e1, Nat.zero_le _, fun h => ?_⟩
        simp only [List.length_nil] at h
        obtain ⟨e4, e5⟩ := e3 (by omega)
        exact ⟨e4, by rw [e5, show cap - a = cap by omega]⟩) h0
      rw [show b - a = 0 by omega]
      exact this
    · rw [if_neg hca]
      simp only [Option.map_some, add_addr]
      have := VR.sl (E := E) (w := w) k s' ((xs.take b).drop a) r (o + a * s') (cap - a) (fun i j => us (a + i) j) (by omega) (fun i x h => hs' _ x (hget i x h).2)
        (fun i x j c hi hj => by rw [← hc _ x j c (hget i x hi).2 hj]; congr 2; rw [Nat.add_mul]; omega)
        (fun i x j c hi hj => by have := hp _ x j c (hget i x hi).2 hj; rw [Nat.add_mul] at this; rw [show o + a * s' + i * s' + j = o + (a * s' + i * s') + j by omega]; exact this)
        (fun i x j c hi hj => hv _ x j c (hget i x hi).2 hj) (fun hk => by
        obtain ⟨n, s0, e1, e2, e3⟩ := ht hk
        refine ⟨n, s0, e1, by omega, fun h => ?_⟩
        have ha0 : a = 0 := by omega
        obtain ⟨e4, e5⟩ := e3 (by omega)
        subst ha0
        exact ⟨e4, by rw [e5]; simp⟩) h0
      rw [hlen] at this
      exact this
  | slr b0 o n s' cap o' L hL hn ho =>
    simp only at h
    split at h
    · rename_i hss
      subst hss
      simp only [Option.map_eq_some_iff] at h
      obtain ⟨⟨a, b⟩, hab, rfl⟩ := h
      obtain ⟨h1, h2, h3⟩ := run _ _ _ a b rfl hab hn
      refine Sim.same hH h3 ?_
      by_cases hca : cap = a
      · rw [if_pos hca]
        exact .slr _ _ _ _ _ _ _ hL (by omega) (fun h => by omega)
      · rw [if_neg hca]
        simp only [Option.map_some, add_addr]
        obtain ⟨ho1, ho2⟩ := ho (by omega)
        refine .slr _ _ _ _ _ _ _ hL (by omega) (fun _ => ⟨by omega, ?_⟩)
        have : (cap - a) * s' = cap * s' - a * s' := Nat.sub_mul _ _ _
        have h4 : a * s' ≤ cap * s' := Nat.mul_le_mul_right _ (by omega)
        omega
    · simp at h
  | str l => exact absurd rfl (hl l)
  | _ => simp at h

end Go.SV

/- How the relation between abstract heaps and the model's worlds goes through new blocks, stores, appends. Own text of the prover; nothing is assumed. -/
import Derived.Test.YtkbkhdgjdikjiaaDoorSa
namespace Go.SV

variable {E E' : Env} {H H' : AH} {w w' : World}

theorem lt_of_heap {w : World} {r : Nat} {o : Obj} (h : w.heap[r]? = some o) : r < w.heap.size := by
  rcases Nat.lt_or_ge r w.heap.size with h' | h'
  · exact h'
  · simp [Array.getElem?_eq_none h'] at h

theorem lt_of_cell {w : World} {r i : Nat} {v : Value} (h : w.cell? ⟨r, i, none⟩ = some v) : r < w.heap.size := by
  unfold World.cell? at h
  split at h
  · rename_i hb; exact lt_of_heap hb
  · simp at h

theorem cell_of_block {w : World} {r : Nat} {rc : Array Value} {e : TypeId} {fz : Nat × Nat} (h : w.heap[r]? = some (.cells rc e fz)) (i : Nat) :
    w.cell? ⟨r, i, none⟩ = rc[i]? := by simp [World.cell?, h]

theorem ObjRel.lt {L : Ref} {o : AObj} (h : ObjRel E w L o) (hl : o.live = true) : L.r < w.heap.size := by
  cases o with
  | dead => simp [AObj.live] at hl
  | cells c => obtain ⟨rc, e, fz, hb, _⟩ := h; exact lt_of_heap hb
  | map es clk => obtain ⟨res, hb, _⟩ := h; exact lt_of_heap hb
  | iter s p => exact lt_of_heap h.1

theorem ObjRel.noprot {L : Ref} {o : AObj} (h : ObjRel E w L o) (hl : o.live = true) (i : Nat) : ¬ E.prot L.r i := by
  cases o with
  | dead => simp [AObj.live] at hl
  | cells c => obtain ⟨rc, e, fz, _, _, _, _, _, hp⟩ := h; exact hp i
  | map es clk => obtain ⟨res, _, _, hp, _⟩ := h; exact hp i
  | iter s p => exact h.2.2 i

theorem TokRel.lt {T : TokL} {n s : Nat} (h : TokRel E w T n s) : T.r < w.heap.size := by
  obtain ⟨rc, e, fz, hb, _⟩ := h; exact lt_of_heap hb

theorem ObjRel.frame {L : Ref} {o : AObj} (h : ObjRel E w L o) (hx : Ext E w E' w') (hb : o.live = true → w'.heap[L.r]? = w.heap[L.r]?)
    (hp : o.live = true → ∀ i, E'.prot L.r i → E.prot L.r i) : ObjRel E' w' L o := by
  cases o with
  | dead => trivial
  | cells c =>
    obtain ⟨rc, e, fz, h1, h2, h3, h4, h5, h6⟩ := h
    refine ⟨rc, e, fz, (hb rfl).trans h1, h2, h3, fun j x hj => ?_, h5, fun i hi => h6 i (hp rfl i hi)⟩
    obtain ⟨u, hu, hv⟩ := h4 j x hj
    exact ⟨u, hu, hv.mono hx⟩
  | map es clk =>
    obtain ⟨res, h1, h2, h3, h4⟩ := h
    refine ⟨res, (hb rfl).trans h1, h2, fun i hi => h3 i (hp rfl i hi), fun j x m hj hm => ?_⟩
    obtain ⟨a, b, c⟩ := h4 j x m hj hm
    exact ⟨a.mono hx, b.mono hx, c⟩
  | iter s p => exact ⟨(hb rfl).trans h.1, h.2.1, fun i hi => h.2.2 i (hp rfl i hi)⟩

theorem TokRel.frame {T : TokL} {n s : Nat} (h : TokRel E w T n s) (hb : w'.heap[T.r]? = w.heap[T.r]?)
    (hp : ∀ i, E'.prot T.r i → E.prot T.r i) : TokRel E' w' T n s := by
  obtain ⟨rc, e, fz, h1, h2, h3, h4, h5⟩ := h
  exact ⟨rc, e, fz, hb.trans h1, h2, h3, h4, fun i hi hq => h5 i hi (hp i hq)⟩

/-! ### Draws -/
theorem HRel.drew (hH : HRel E H w) (n : Nat) : HRel E H { w with drawn := n } ∧ Step E H w E H { w with drawn := n } := by
  have hx : Ext E w E { w with drawn := n } := ⟨fun _ _ h => h, fun _ _ h => h, fun _ _ _ _ h => h, fun _ n _ h => ⟨n, h, Nat.le_refl _, fun _ => rfl⟩, fun _ h => h⟩
  exact ⟨⟨hH.lt, fun b L hb => (hH.obj b L hb).frame hx (fun _ => rfl) (fun _ _ h => h), hH.inj, fun t n s h => ⟨(hH.tok t n s h).1, (hH.tok t n s h).2.1, (hH.tok t n s h).2.2.frame rfl (fun _ h => h)⟩, hH.tinj, hH.apart, hH.prot, hH.inert⟩,
    ⟨hx, rfl, rfl, rfl, Nat.le_refl _, fun r _ h => ⟨h, rfl⟩, Nat.le_refl _, Nat.le_refl _, fun _ _ _ h => h⟩⟩

/-! ### A new block -/
theorem heap_alloc_lt (w : World) (o : Obj) {r : Nat} (h : r < w.heap.size) : (w.alloc o).heap[r]? = w.heap[r]? := by
  show (w.heap.push o)[r]? = _
  rw [Array.getElem?_push, if_neg (by omega)]
theorem heap_alloc_new (w : World) (o : Obj) : (w.alloc o).heap[w.heap.size]? = some o := by
  show (w.heap.push o)[w.heap.size]? = _
  rw [Array.getElem?_push, if_pos rfl]

theorem HRel.noprot_new (hH : HRel E H w) (i : Nat) : ¬ E.prot w.heap.size i := fun h => by
  obtain ⟨v, hv⟩ := hH.prot _ _ h
  exact absurd (lt_of_cell hv) (Nat.lt_irrefl _)

theorem AH.get_append_lt {l : List AObj} {tk : List (Nat × Nat)} {b : Nat} (H : AH) (h : b < H.obs.length) : AH.get ⟨H.obs ++ l, tk⟩ b = H.get b := by
  simp [AH.get, List.getElem?_append_left h]
theorem AH.get_append_new {o : AObj} {tk : List (Nat × Nat)} (H : AH) : AH.get ⟨H.obs ++ [o], tk⟩ H.obs.length = o := by
  simp [AH.get]

def Env.addRef (E : Env) (b : Nat) (L : Ref) : Env := { E with φ := fun x => if x = b then some L else E.φ x }

theorem HRel.allocRef (hH : HRel E H w) (o : Obj) (o' : AObj) (L : Ref) (hr : L.r = w.heap.size)
    (hobj : ∀ E', Ext E w E' (w.alloc o) → (∀ i, ¬ E'.prot L.r i) → ObjRel E' (w.alloc o) L o') :
    HRel (E.addRef H.obs.length L) ⟨H.obs ++ [o'], H.toks⟩ (w.alloc o) ∧ Step E H w (E.addRef H.obs.length L) ⟨H.obs ++ [o'], H.toks⟩ (w.alloc o) ∧ (E.addRef H.obs.length L).φ H.obs.length = some L := by
  have hφ : ∀ b L', E.φ b = some L' → (E.addRef H.obs.length L).φ b = some L' := by
    intro b L' hb
    have := hH.lt b L' hb
    simp only [Env.addRef]
    rw [if_neg (by omega)]
    exact hb
  have hold : ∀ b L', (E.addRef H.obs.length L).φ b = some L' → (b = H.obs.length ∧ L' = L) ∨ (b < H.obs.length ∧ E.φ b = some L') := by
    intro b L' hb
    simp only [Env.addRef] at hb
    split at hb
    · rename_i e; exact .inl ⟨e, by injection hb with hb; exact hb.symm⟩
    · exact .inr ⟨hH.lt b L' hb, hb⟩
  have hx : Ext E w (E.addRef H.obs.length L) (w.alloc o) := by
    refine ⟨hφ, fun _ _ h => h, fun r i v _ hc => ?_, fun _ n _ h => ⟨n, h, Nat.le_refl _, fun _ => rfl⟩, fun _ h => h⟩
    rw [World.cell?_alloc_lt _ _ _ (lt_of_cell hc)]; exact hc
  have hnp : ∀ i, ¬ (E.addRef H.obs.length L).prot L.r i := fun i => by rw [hr]; exact hH.noprot_new i
  refine ⟨⟨?_, ?_, ?_, ?_, hH.tinj, ?_, ?_, ?_⟩, ⟨hx, rfl, rfl, rfl, by simp, ?_, Nat.le_refl _, by simp, fun b L' hb h => (hold b L' h).elim (fun e => absurd e.1 (by omega)) (fun h => h.2)⟩, by simp [Env.addRef]⟩
  · intro b L' hb
    rcases hold b L' hb with ⟨rfl, _⟩ | ⟨h, _⟩ <;> simp
    omega
  · intro b L' hb
    rcases hold b L' hb with ⟨rfl, rfl⟩ | ⟨h, hb'⟩
    · rw [AH.get_append_new]; exact hobj _ hx hnp
    · rw [AH.get_append_lt _ h]
      exact (hH.obj b L' hb').frame hx (fun hl => heap_alloc_lt _ _ ((hH.obj b L' hb').lt hl)) (fun _ _ h => h)
  · intro b b' L1 L2 hb hb' hl hl' he
    rcases hold b L1 hb with ⟨rfl, rfl⟩ | ⟨h, h1⟩ <;> rcases hold b' L2 hb' with ⟨rfl, rfl⟩ | ⟨h', h2⟩
    · rfl
    · rw [AH.get_append_lt _ h'] at hl'
      have := (hH.obj b' L2 h2).lt hl'
      omega
    · rw [AH.get_append_lt _ h] at hl
      have := (hH.obj b L1 h1).lt hl
      omega
    · rw [AH.get_append_lt _ h] at hl
      rw [AH.get_append_lt _ h'] at hl'
      exact hH.inj b b' L1 L2 h1 h2 hl hl' he
  · intro t n s ht
    obtain ⟨h0, h1, h2⟩ := hH.tok t n s ht
    exact ⟨h0, h1, h2.frame (heap_alloc_lt _ _ h2.lt) (fun _ h => h)⟩
  · intro b L' t ns hb hl ht
    rcases hold b L' hb with ⟨rfl, rfl⟩ | ⟨h, hb'⟩
    · obtain ⟨n, s⟩ := ns
      have := (hH.tok t n s ht).2.2.lt
      show L'.r ≠ (E.tk t).r
      omega
    · rw [AH.get_append_lt _ h] at hl
      exact hH.apart b L' t ns hb' hl ht
  · intro r i hp
    obtain ⟨v, hv⟩ := hH.prot r i hp
    exact ⟨v, hx.cell r i v hp hv⟩
  · intro r hi
    obtain ⟨i1, i2, i3⟩ := hH.inert r hi
    refine ⟨by simp; omega, fun b L' hb hl => ?_, i3⟩
    rcases hold b L' hb with ⟨rfl, rfl⟩ | ⟨h, hb'⟩
    · omega
    · rw [AH.get_append_lt _ h] at hl
      exact i2 b L' hb' hl
  · intro r hr' ho
    refine ⟨?_, heap_alloc_lt _ _ hr'⟩
    rintro (⟨b, L', hb, hl, he⟩ | ⟨t, ns, ht, he⟩)
    · rcases hold b L' hb with ⟨rfl, rfl⟩ | ⟨h, hb'⟩
      · omega
      · rw [AH.get_append_lt _ h] at hl
        exact ho (.inl ⟨b, L', hb', hl, he⟩)
    · exact ho (.inr ⟨t, ns, ht, he⟩)

/-- A new row that nobody will write: its first n cells are protected. -/
def Env.addProt (E : Env) (r n : Nat) : Env := { E with prot := fun x i => E.prot x i ∨ (x = r ∧ i < n), inert := fun x => E.inert x ∨ x = r }

theorem HRel.allocRow (hH : HRel E H w) (rc : Array Value) (e : TypeId) (fz : Nat × Nat) (n : Nat) (hn : n ≤ rc.size) :
    HRel (E.addProt w.heap.size n) H (w.alloc (.cells rc e fz)) ∧ Step E H w (E.addProt w.heap.size n) H (w.alloc (.cells rc e fz)) := by
  have hx : Ext E w (E.addProt w.heap.size n) (w.alloc (.cells rc e fz)) := by
    refine ⟨fun _ _ h => h, fun _ _ h => .inl h, fun r i v _ hc => ?_, fun _ n _ h => ⟨n, h, Nat.le_refl _, fun _ => rfl⟩, fun _ h => .inl h⟩
    rw [World.cell?_alloc_lt _ _ _ (lt_of_cell hc)]; exact hc
  refine ⟨⟨hH.lt, ?_, hH.inj, ?_, hH.tinj, hH.apart, ?_, ?_⟩, ⟨hx, rfl, rfl, rfl, by simp, fun r hr ho => ⟨ho, heap_alloc_lt _ _ hr⟩, Nat.le_refl _, Nat.le_refl _, fun _ _ _ h => h⟩⟩
  · intro b L hb
    refine (hH.obj b L hb).frame hx (fun hl => heap_alloc_lt _ _ ((hH.obj b L hb).lt hl)) (fun hl i h => ?_)
    have := (hH.obj b L hb).lt hl
    rcases h with h | ⟨h, _⟩
    · exact h
    · omega
  · intro t m s ht
    obtain ⟨h0, h1, h2⟩ := hH.tok t m s ht
    refine ⟨h0, h1, h2.frame (heap_alloc_lt _ _ h2.lt) (fun i h => ?_)⟩
    have h3 : (E.tk t).r < w.heap.size := h2.lt
    rcases h with h | ⟨h, _⟩
    · exact h
    · have h4 : (E.tk t).r = w.heap.size := h
      omega
  · intro r i hp
    rcases hp with hp | ⟨rfl, hi⟩
    · obtain ⟨v, hv⟩ := hH.prot r i hp
      exact ⟨v, hx.cell r i v hp hv⟩
    · refine ⟨rc[i], ?_⟩
      rw [cell_of_block (heap_alloc_new _ _)]
      simp [show i < rc.size from Nat.lt_of_lt_of_le hi hn]
  · intro r hi
    rcases hi with hi | rfl
    · obtain ⟨i1, i2, i3⟩ := hH.inert r hi
      exact ⟨by simp; omega, i2, i3⟩
    · refine ⟨by simp, fun b L hb hl => ?_, fun t ns ht => ?_⟩
      · have := (hH.obj b L hb).lt hl
        omega
      · obtain ⟨n', s'⟩ := ns
        have := (hH.tok t n' s' ht).2.2.lt
        show (E.tk t).r ≠ _
        omega

/-- A new row that may be appended to: a new token. -/
def Env.addTok (E : Env) (t n s : Nat) (T : TokL) : Env :=
  { E with prot := fun x i => E.prot x i ∨ (x = T.r ∧ T.o ≤ i ∧ i < T.o + n * s), cl := fun x => if x = t then some (n, s) else E.cl x, tk := fun x => if x = t then T else E.tk x }

theorem HRel.toks_lt (hH : HRel E H w) {t : Nat} {ns : Nat × Nat} (h : E.cl t = some ns) : t < H.toks.length := by
  obtain ⟨n, s⟩ := ns
  have := (hH.tok t n s h).2.1
  rcases Nat.lt_or_ge t H.toks.length with h' | h'
  · exact h'
  · simp [List.getElem?_eq_none h'] at this

theorem HRel.allocTok (hH : HRel E H w) (h0 : 0 < H.toks.length) (rc : Array Value) (e : TypeId) (n s cap : Nat) (hn : n ≤ cap) (hc : cap * s ≤ rc.size) (fz : Nat × Nat)
    (hfz : ∀ i, i < rc.size → ¬ (fz.1 ≤ i ∧ i < fz.2)) :
    HRel (E.addTok H.toks.length n s ⟨w.heap.size, 0, cap⟩) ⟨H.obs, H.toks ++ [(n, s)]⟩ (w.alloc (.cells rc e fz)) ∧
    Step E H w (E.addTok H.toks.length n s ⟨w.heap.size, 0, cap⟩) ⟨H.obs, H.toks ++ [(n, s)]⟩ (w.alloc (.cells rc e fz)) := by
  have hns : n * s ≤ rc.size := Nat.le_trans (Nat.mul_le_mul_right s hn) hc
  have hcl : ∀ t ns, (E.addTok H.toks.length n s ⟨w.heap.size, 0, cap⟩).cl t = some ns → (t = H.toks.length ∧ ns = (n, s)) ∨ (t < H.toks.length ∧ E.cl t = some ns) := by
    intro t ns h
    simp only [Env.addTok] at h
    split at h
    · rename_i e; exact .inl ⟨e, by injection h with h; exact h.symm⟩
    · exact .inr ⟨hH.toks_lt h, h⟩
  have htk : ∀ t, t < H.toks.length → (E.addTok H.toks.length n s ⟨w.heap.size, 0, cap⟩).tk t = E.tk t := by
    intro t ht
    simp only [Env.addTok]
    rw [if_neg (by omega)]
  have htn : (E.addTok H.toks.length n s ⟨w.heap.size, 0, cap⟩).tk H.toks.length = ⟨w.heap.size, 0, cap⟩ := by simp [Env.addTok]
  have hx : Ext E w (E.addTok H.toks.length n s ⟨w.heap.size, 0, cap⟩) (w.alloc (.cells rc e fz)) := by
    refine ⟨fun _ _ h => h, fun _ _ h => .inl h, fun r i v _ hc => ?_, fun t n' s' h => ⟨n', ?_, Nat.le_refl _, fun _ => htk t (hH.toks_lt h)⟩, fun _ h => h⟩
    · rw [World.cell?_alloc_lt _ _ _ (lt_of_cell hc)]; exact hc
    · have := hH.toks_lt h
      simp only [Env.addTok]
      rw [if_neg (by omega)]
      exact h
  refine ⟨⟨hH.lt, ?_, hH.inj, ?_, ?_, ?_, ?_, ?_⟩, ⟨hx, rfl, rfl, rfl, by simp, fun r hr ho => ⟨?_, heap_alloc_lt _ _ hr⟩, by simp, Nat.le_refl _, fun _ _ _ h => h⟩⟩
  · intro b L hb
    refine (hH.obj b L hb).frame hx (fun hl => heap_alloc_lt _ _ ((hH.obj b L hb).lt hl)) (fun hl i h => ?_)
    have := (hH.obj b L hb).lt hl
    rcases h with h | ⟨h, _⟩
    · exact h
    · exact absurd h (by show L.r ≠ w.heap.size; omega)
  · intro t m s' ht
    rcases hcl t _ ht with ⟨rfl, he⟩ | ⟨hlt, ht'⟩
    · injection he with e1 e2
      subst e1; subst e2
      refine ⟨by omega, by simp, ?_⟩
      rw [htn]
      refine ⟨rc, e, fz, heap_alloc_new _ _, hn, by simpa using hc, fun i _ hi => hfz i hi, fun i hi hp => ?_⟩
      rcases hp with hp | ⟨_, _, hp⟩
      · exact hH.noprot_new i hp
      · exact absurd hp (by simp at hi ⊢; exact hi)
    · obtain ⟨h0, h1, h2⟩ := hH.tok t m s' ht'
      refine ⟨h0, by simp [List.getElem?_append_left hlt, h1], ?_⟩
      rw [htk t hlt]
      refine h2.frame (heap_alloc_lt _ _ h2.lt) (fun i h => ?_)
      have := h2.lt
      rcases h with h | ⟨h, _⟩
      · exact h
      · exact absurd h (by show (E.tk t).r ≠ w.heap.size; omega)
  · intro t t' ns ns' ht ht' he
    rcases hcl t _ ht with ⟨rfl, _⟩ | ⟨hlt, h1⟩ <;> rcases hcl t' _ ht' with ⟨rfl, _⟩ | ⟨hlt', h2⟩
    · rfl
    · rw [htn, htk t' hlt'] at he
      obtain ⟨a, b⟩ := ns'
      have := (hH.tok t' a b h2).2.2.lt
      simp only at he
      omega
    · rw [htn, htk t hlt] at he
      obtain ⟨a, b⟩ := ns
      have := (hH.tok t a b h1).2.2.lt
      simp only at he
      omega
    · rw [htk t hlt, htk t' hlt'] at he
      exact hH.tinj t t' ns ns' h1 h2 he
  · intro b L t ns hb hl ht
    rcases hcl t _ ht with ⟨rfl, _⟩ | ⟨hlt, h1⟩
    · rw [htn]
      have := (hH.obj b L hb).lt hl
      show L.r ≠ w.heap.size
      omega
    · rw [htk t hlt]; exact hH.apart b L t ns hb hl h1
  · intro r i hp
    rcases hp with hp | ⟨hr, _, hi⟩
    · obtain ⟨v, hv⟩ := hH.prot r i hp
      exact ⟨v, hx.cell r i v hp hv⟩
    · have hr' : r = w.heap.size := hr
      subst hr'
      have hi' : i < rc.size := by simp at hi; omega
      refine ⟨rc[i], ?_⟩
      rw [cell_of_block (heap_alloc_new _ _)]
      simp [hi']
  · intro r hi
    obtain ⟨i1, i2, i3⟩ := hH.inert r hi
    refine ⟨by simp; omega, i2, fun t ns ht => ?_⟩
    rcases hcl t _ ht with ⟨rfl, _⟩ | ⟨hlt, h1⟩
    · rw [htn]; show w.heap.size ≠ r; omega
    · rw [htk t hlt]; exact i3 t ns h1
  · rintro (⟨b, L', hb, hl, he⟩ | ⟨t, ns, ht, he⟩)
    · exact ho (.inl ⟨b, L', hb, hl, he⟩)
    · rcases hcl t _ ht with ⟨rfl, _⟩ | ⟨hlt, h1⟩
      · rw [htn] at he; simp only at he; omega
      · rw [htk t hlt] at he; exact ho (.inr ⟨t, ns, h1, he⟩)

end Go.SV

/- The relation between abstract heaps and worlds, through writes in place: stores, appends, rows that are given up or sealed. Own text of the prover; nothing is assumed. -/
import Derived.Test.YtkbkhdgjdikjiaaDoorSb
namespace Go.SV

variable {E E' : Env} {H H' : AH} {w w' : World}

def putBlock (w : World) (r : Nat) (O : Obj) : World := { w with heap := w.heap.setIfInBounds r O }

theorem heap_put_ne (w : World) {r r' : Nat} (O : Obj) (h : r' ≠ r) : (putBlock w r O).heap[r']? = w.heap[r']? := by
  simp only [putBlock]
  rw [Array.getElem?_setIfInBounds_ne (Ne.symm h)]
theorem heap_put_same (w : World) {r : Nat} (O : Obj) (h : r < w.heap.size) : (putBlock w r O).heap[r]? = some O := by
  simp only [putBlock]
  rw [Array.getElem?_setIfInBounds_self, if_pos h]
theorem size_put (w : World) (r : Nat) (O : Obj) : (putBlock w r O).heap.size = w.heap.size := by simp [putBlock]
theorem cell_put_ne (w : World) {r r' i : Nat} (O : Obj) (h : r' ≠ r) : (putBlock w r O).cell? ⟨r', i, none⟩ = w.cell? ⟨r', i, none⟩ := by
  simp only [World.cell?, heap_put_ne w O h]

theorem get_set_ne (H : AH) {b b' : Nat} (o : AObj) (tk : List (Nat × Nat)) (h : b' ≠ b) : AH.get ⟨H.obs.set b o, tk⟩ b' = H.get b' := by
  simp only [AH.get]
  rw [List.getElem?_set_ne (Ne.symm h)]
theorem get_set_same (H : AH) {b : Nat} (o : AObj) (tk : List (Nat × Nat)) (h : b < H.obs.length) : AH.get ⟨H.obs.set b o, tk⟩ b = o := by
  simp [AH.get, h]

theorem HRel.putRef (hH : HRel E H w) {b : Nat} {L : Ref} (hb : E.φ b = some L) (hl : (H.get b).live = true) (O : Obj) (o' : AObj)
    (hobj : Ext E w E (putBlock w L.r O) → (∀ i, ¬ E.prot L.r i) → ObjRel E (putBlock w L.r O) L o') :
    HRel E ⟨H.obs.set b o', H.toks⟩ (putBlock w L.r O) ∧ Step E H w E ⟨H.obs.set b o', H.toks⟩ (putBlock w L.r O) := by
  have hnp := (hH.obj b L hb).noprot hl
  have hblt := hH.lt b L hb
  have hx : Ext E w E (putBlock w L.r O) := by
    refine ⟨fun _ _ h => h, fun _ _ h => h, fun r i v hp hc => ?_, fun _ n _ h => ⟨n, h, Nat.le_refl _, fun _ => rfl⟩, fun _ h => h⟩
    rw [cell_put_ne _ _ (fun (e : r = L.r) => hnp i (by rw [← e]; exact hp))]; exact hc
  have hlive : ∀ b', b' ≠ b → AH.get ⟨H.obs.set b o', H.toks⟩ b' = H.get b' := fun b' h => get_set_ne H o' _ h
  have hdiff : ∀ b' L', E.φ b' = some L' → b' ≠ b → (H.get b').live = true → L'.r ≠ L.r := fun b' L' hb' hne hl' he => hne (hH.inj b' b L' L hb' hb hl' hl he)
  refine ⟨⟨?_, ?_, ?_, ?_, hH.tinj, ?_, ?_, ?_⟩, ⟨hx, rfl, rfl, rfl, by rw [size_put]; exact Nat.le_refl _, ?_, Nat.le_refl _, by simp, fun _ _ _ h => h⟩⟩
  · intro b' L' h; simp; exact hH.lt b' L' h
  · intro b' L' h
    by_cases e : b' = b
    · subst e
      rw [hb] at h; injection h with h; subst h
      rw [get_set_same H o' _ hblt]
      exact hobj hx hnp
    · rw [hlive b' e]
      exact (hH.obj b' L' h).frame hx (fun hl' => heap_put_ne _ _ (hdiff b' L' h e hl')) (fun _ _ h => h)
  · intro b1 b2 L1 L2 h1 h2 hl1 hl2 he
    by_cases e1 : b1 = b <;> by_cases e2 : b2 = b
    · rw [e1, e2]
    · subst e1
      rw [hlive b2 e2] at hl2
      rw [hb] at h1; injection h1 with h1; subst h1
      exact absurd he.symm (hdiff b2 L2 h2 e2 hl2)
    · subst e2
      rw [hlive b1 e1] at hl1
      rw [hb] at h2; injection h2 with h2; subst h2
      exact absurd he (hdiff b1 L1 h1 e1 hl1)
    · rw [hlive b1 e1] at hl1
      rw [hlive b2 e2] at hl2
      exact hH.inj b1 b2 L1 L2 h1 h2 hl1 hl2 he
  · intro t n s ht
    obtain ⟨h0, h1, h2⟩ := hH.tok t n s ht
    exact ⟨h0, h1, h2.frame (heap_put_ne _ _ (Ne.symm (hH.apart b L t (n, s) hb hl ht))) (fun _ h => h)⟩
  · intro b' L' t ns h hl' ht
    by_cases e : b' = b
    · subst e
      rw [hb] at h; injection h with h; subst h
      exact hH.apart b' L t ns hb hl ht
    · rw [hlive b' e] at hl'
      exact hH.apart b' L' t ns h hl' ht
  · intro r i hp
    obtain ⟨v, hv⟩ := hH.prot r i hp
    exact ⟨v, hx.cell r i v hp hv⟩
  · intro r hi
    obtain ⟨i1, i2, i3⟩ := hH.inert r hi
    refine ⟨by rw [size_put]; exact i1, fun b' L' h hl' => ?_, i3⟩
    by_cases e : b' = b
    · subst e
      rw [hb] at h; injection h with h; subst h
      exact i2 b' L hb hl
    · rw [hlive b' e] at hl'
      exact i2 b' L' h hl'
  · intro r hr ho
    have hne : r ≠ L.r := fun e => ho (.inl ⟨b, L, hb, hl, e.symm⟩)
    refine ⟨?_, heap_put_ne _ _ hne⟩
    rintro (⟨b', L', h, hl', he⟩ | ⟨t, ns, ht, he⟩)
    · by_cases e : b' = b
      · subst e
        rw [hb] at h; injection h with h; subst h
        exact hne he.symm
      · rw [hlive b' e] at hl'
        exact ho (.inl ⟨b', L', h, hl', he⟩)
    · exact ho (.inr ⟨t, ns, ht, he⟩)

/-- A row that is given up. -/
theorem HRel.kill (hH : HRel E H w) (b : Nat) :
    HRel E ⟨H.obs.set b .dead, H.toks⟩ w ∧ Step E H w E ⟨H.obs.set b .dead, H.toks⟩ w := by
  have hg : ∀ b', (AH.get ⟨H.obs.set b .dead, H.toks⟩ b').live = true → AH.get ⟨H.obs.set b .dead, H.toks⟩ b' = H.get b' ∧ b' ≠ b := by
    intro b' hl
    by_cases e : b' = b
    · subst e
      rcases Nat.lt_or_ge b' H.obs.length with h | h
      · rw [get_set_same H _ _ h] at hl; simp [AObj.live] at hl
      · simp [AH.get, List.getElem?_eq_none (show (H.obs.set b' .dead).length ≤ b' by simpa using h), AObj.live] at hl
    · exact ⟨get_set_ne H _ _ e, e⟩
  refine ⟨⟨?_, ?_, ?_, hH.tok, hH.tinj, ?_, hH.prot, fun r hi => ⟨(hH.inert r hi).1, fun b' L' h hl => by have g := hg b' hl; rw [g.1] at hl; exact (hH.inert r hi).2.1 b' L' h hl, (hH.inert r hi).2.2⟩⟩, ⟨.refl _ _, rfl, rfl, rfl, Nat.le_refl _, fun r hr ho => ⟨?_, rfl⟩, Nat.le_refl _, by simp, fun _ _ _ h => h⟩⟩
  · intro b' L' h; simp; exact hH.lt b' L' h
  · intro b' L' h
    cases hl : (AH.get ⟨H.obs.set b .dead, H.toks⟩ b').live with
    | true => rw [(hg b' hl).1]; exact hH.obj b' L' h
    | false =>
      generalize AH.get ⟨H.obs.set b .dead, H.toks⟩ b' = o at hl
      cases o <;> simp [AObj.live] at hl
      trivial
  · intro b1 b2 L1 L2 h1 h2 hl1 hl2 he
    have g1 := hg b1 hl1; have g2 := hg b2 hl2
    rw [g1.1] at hl1; rw [g2.1] at hl2
    exact hH.inj b1 b2 L1 L2 h1 h2 hl1 hl2 he
  · intro b' L' t ns h hl ht
    have g := hg b' hl
    rw [g.1] at hl
    exact hH.apart b' L' t ns h hl ht
  · rintro (⟨b', L', h, hl, he⟩ | ⟨t, ns, ht, he⟩)
    · have g := hg b' hl
      rw [g.1] at hl
      exact ho (.inl ⟨b', L', h, hl, he⟩)
    · exact ho (.inr ⟨t, ns, ht, he⟩)

/-- A row that grows in place: the old one is given up, a new one lies where it lay. -/
theorem HRel.regrow (hH : HRel E H w) {b : Nat} {L : Ref} (hb : E.φ b = some L) (hl : (H.get b).live = true) (O : Obj) (o' : AObj) (L' : Ref) (hr : L'.r = L.r)
    (hobj : ∀ E', Ext E w E' (putBlock w L.r O) → (∀ i, ¬ E'.prot L.r i) → ObjRel E' (putBlock w L.r O) L' o') :
    HRel (E.addRef H.obs.length L') ⟨H.obs.set b .dead ++ [o'], H.toks⟩ (putBlock w L.r O) ∧
    Step E H w (E.addRef H.obs.length L') ⟨H.obs.set b .dead ++ [o'], H.toks⟩ (putBlock w L.r O) ∧ (E.addRef H.obs.length L').φ H.obs.length = some L' := by
  have hnp := (hH.obj b L hb).noprot hl
  have hblt := hH.lt b L hb
  have hφ : ∀ c L1, E.φ c = some L1 → (E.addRef H.obs.length L').φ c = some L1 := by
    intro c L1 hc
    have := hH.lt c L1 hc
    simp only [Env.addRef]
    rw [if_neg (by omega)]
    exact hc
  have hold : ∀ c L1, (E.addRef H.obs.length L').φ c = some L1 → (c = H.obs.length ∧ L1 = L') ∨ (c < H.obs.length ∧ E.φ c = some L1) := by
    intro c L1 hc
    simp only [Env.addRef] at hc
    split at hc
    · rename_i e; exact .inl ⟨e, by injection hc with hc; exact hc.symm⟩
    · exact .inr ⟨hH.lt c L1 hc, hc⟩
  have hx : Ext E w (E.addRef H.obs.length L') (putBlock w L.r O) := by
    refine ⟨hφ, fun _ _ h => h, fun r i v hp hc => ?_, fun _ n _ h => ⟨n, h, Nat.le_refl _, fun _ => rfl⟩, fun _ h => h⟩
    rw [cell_put_ne _ _ (fun (e : r = L.r) => hnp i (by rw [← e]; exact hp))]; exact hc
  have hnew : AH.get ⟨H.obs.set b .dead ++ [o'], H.toks⟩ H.obs.length = o' := by
    simp [AH.get]
  have hsame : ∀ c, c < H.obs.length → c ≠ b → AH.get ⟨H.obs.set b .dead ++ [o'], H.toks⟩ c = H.get c := by
    intro c hc hne
    simp only [AH.get]
    rw [List.getElem?_append_left (by simpa using hc), List.getElem?_set_ne (Ne.symm hne)]
  have hdead : AH.get ⟨H.obs.set b .dead ++ [o'], H.toks⟩ b = .dead := by
    simp only [AH.get]
    rw [List.getElem?_append_left (by simpa using hblt)]
    simp [hblt]
  have hdiff : ∀ c L1, E.φ c = some L1 → c ≠ b → (H.get c).live = true → L1.r ≠ L.r := fun c L1 hc hne hl' he => hne (hH.inj c b L1 L hc hb hl' hl he)
  have hcase : ∀ c L1, (E.addRef H.obs.length L').φ c = some L1 → (AH.get ⟨H.obs.set b .dead ++ [o'], H.toks⟩ c).live = true →
      (c = H.obs.length ∧ L1 = L') ∨ (c < H.obs.length ∧ c ≠ b ∧ E.φ c = some L1 ∧ (H.get c).live = true ∧ L1.r ≠ L.r) := by
    intro c L1 hc hlc
    rcases hold c L1 hc with h | ⟨h, h1⟩
    · exact .inl h
    · by_cases e : c = b
      · subst e; rw [hdead] at hlc; simp [AObj.live] at hlc
      · rw [hsame c h e] at hlc
        exact .inr ⟨h, e, h1, hlc, hdiff c L1 h1 e hlc⟩
  refine ⟨⟨?_, ?_, ?_, ?_, hH.tinj, ?_, ?_, ?_⟩, ⟨hx, rfl, rfl, rfl, by rw [size_put]; exact Nat.le_refl _, ?_, Nat.le_refl _, by simp, fun c L1 hc h => (hold c L1 h).elim (fun e => absurd e.1 (by omega)) (fun h => h.2)⟩, by simp [Env.addRef]⟩
  · intro c L1 hc
    rcases hold c L1 hc with ⟨rfl, _⟩ | ⟨h, _⟩ <;> simp
    omega
  · intro c L1 hc
    rcases hold c L1 hc with ⟨rfl, rfl⟩ | ⟨h, h1⟩
    · rw [hnew]; exact hobj _ hx hnp
    · by_cases e : c = b
      · subst e; rw [hdead]; trivial
      · rw [hsame c h e]
        exact (hH.obj c L1 h1).frame hx (fun hl' => heap_put_ne _ _ (hdiff c L1 h1 e hl')) (fun _ _ h => h)
  · intro b1 b2 L1 L2 h1 h2 hl1 hl2 he
    rcases hcase b1 L1 h1 hl1 with ⟨rfl, rfl⟩ | ⟨_, _, p1, p2, p3⟩ <;> rcases hcase b2 L2 h2 hl2 with ⟨rfl, rfl⟩ | ⟨_, _, q1, q2, q3⟩
    · rfl
    · exact absurd (he.symm.trans hr) q3
    · exact absurd (he.trans hr) p3
    · exact hH.inj b1 b2 L1 L2 p1 q1 p2 q2 he
  · intro t n s ht
    obtain ⟨h0, h1, h2⟩ := hH.tok t n s ht
    exact ⟨h0, h1, h2.frame (heap_put_ne _ _ (Ne.symm (hH.apart b L t (n, s) hb hl ht))) (fun _ h => h)⟩
  · intro c L1 t ns hc hlc ht
    rcases hcase c L1 hc hlc with ⟨rfl, rfl⟩ | ⟨_, _, p1, p2, p3⟩
    · rw [hr]; exact hH.apart b L t ns hb hl ht
    · exact hH.apart c L1 t ns p1 p2 ht
  · intro r i hp
    obtain ⟨v, hv⟩ := hH.prot r i hp
    exact ⟨v, hx.cell r i v hp hv⟩
  · intro r hi
    obtain ⟨i1, i2, i3⟩ := hH.inert r hi
    refine ⟨by rw [size_put]; exact i1, fun c L1 hc hlc => ?_, i3⟩
    rcases hcase c L1 hc hlc with ⟨rfl, rfl⟩ | ⟨_, _, p1, p2, p3⟩
    · rw [hr]; exact i2 b L hb hl
    · exact i2 c L1 p1 p2
  · intro r hr' ho
    have hne : r ≠ L.r := fun e => ho (.inl ⟨b, L, hb, hl, e.symm⟩)
    refine ⟨?_, heap_put_ne _ _ hne⟩
    rintro (⟨c, L1, hc, hlc, he⟩ | ⟨t, ns, ht, he⟩)
    · rcases hcase c L1 hc hlc with ⟨rfl, rfl⟩ | ⟨_, _, p1, p2, p3⟩
      · exact hne (he.symm.trans hr)
      · exact ho (.inl ⟨c, L1, p1, p2, he⟩)
    · exact ho (.inr ⟨t, ns, ht, he⟩)

/-- A row that will be written no more: its cells are protected from here on. -/
def Env.addSeal (E : Env) (r o n : Nat) : Env := { E with prot := fun x i => E.prot x i ∨ (x = r ∧ o ≤ i ∧ i < o + n), inert := fun x => E.inert x ∨ x = r }

theorem HRel.sealR (hH : HRel E H w) {b : Nat} {L : Ref} (hb : E.φ b = some L) (hl : (H.get b).live = true) (o n : Nat)
    (hn : ∀ i, i < n → ∃ v, w.cell? ⟨L.r, o + i, none⟩ = some v) :
    HRel (E.addSeal L.r o n) ⟨H.obs.set b .dead, H.toks⟩ w ∧
    Step E H w (E.addSeal L.r o n) ⟨H.obs.set b .dead, H.toks⟩ w := by
  obtain ⟨hK, sK⟩ := hH.kill b
  have hx : Ext E w (E.addSeal L.r o n) w :=
    ⟨fun _ _ h => h, fun _ _ h => .inl h, fun _ _ _ _ h => h, fun _ n _ h => ⟨n, h, Nat.le_refl _, fun _ => rfl⟩, fun _ h => .inl h⟩
  refine ⟨⟨hK.lt, ?_, hK.inj, ?_, hK.tinj, hK.apart, ?_, ?_⟩, ⟨hx, rfl, rfl, rfl, Nat.le_refl _, fun r hr ho => ⟨(sK.keep r hr ho).1, rfl⟩, Nat.le_refl _, by simp, fun _ _ _ h => h⟩⟩
  · intro b' L' h
    refine (hK.obj b' L' h).frame hx (fun _ => rfl) (fun hl' i hp => ?_)
    rcases hp with hp | ⟨he, _⟩
    · exact hp
    · exfalso
      by_cases e : b' = b
      · subst e
        rw [get_set_same H _ _ (hH.lt _ _ h)] at hl'; simp [AObj.live] at hl'
      · rw [get_set_ne H _ _ e] at hl'
        exact e (hH.inj b' b L' L h hb hl' hl he)
  · intro t n' s ht
    obtain ⟨h0, h1, h2⟩ := hK.tok t n' s ht
    refine ⟨h0, h1, h2.frame rfl (fun i hp => ?_)⟩
    rcases hp with hp | ⟨he, _⟩
    · exact hp
    · exact absurd he.symm (hH.apart b L t (n', s) hb hl ht)
  · intro r i hp
    rcases hp with hp | ⟨rfl, h1, h2⟩
    · exact hH.prot r i hp
    · obtain ⟨v, hv⟩ := hn (i - o) (by omega)
      rw [show o + (i - o) = i by omega] at hv
      exact ⟨v, hv⟩
  · intro r hi
    rcases hi with hi | rfl
    · exact hK.inert r hi
    · refine ⟨(hH.obj b L hb).lt hl, fun b' L' h hl' he => ?_, fun t ns ht he => hH.apart b L t ns hb hl ht he.symm⟩
      by_cases e : b' = b
      · subst e
        rw [get_set_same H _ _ (hH.lt _ _ h)] at hl'; simp [AObj.live] at hl'
      · rw [get_set_ne H _ _ e] at hl'
        exact e (hH.inj b' b L' L h hb hl' hl he)

/-- A row of a token takes more elements where it lies. -/
def Env.growTok (E : Env) (t n s : Nat) (T : TokL) : Env :=
  { E with prot := fun x i => E.prot x i ∨ (x = T.r ∧ T.o ≤ i ∧ i < T.o + n * s), cl := fun x => if x = t then some (n, s) else E.cl x, tk := fun x => if x = t then T else E.tk x }

theorem HRel.putTok (hH : HRel E H w) {t n s m : Nat} (ht : E.cl t = some (n, s)) {rc rc' : Array Value} {e : TypeId} {fz : Nat × Nat}
    (hb : w.heap[(E.tk t).r]? = some (.cells rc e fz)) (hsz : rc'.size = rc.size) (hlow : ∀ i, i < (E.tk t).o + n * s → rc'[i]? = rc[i]?) (hcap : n + m ≤ (E.tk t).cap) :
    HRel (E.growTok t (n + m) s (E.tk t)) ⟨H.obs, H.toks.set t (n + m, s)⟩ (putBlock w (E.tk t).r (.cells rc' e fz)) ∧
    Step E H w (E.growTok t (n + m) s (E.tk t)) ⟨H.obs, H.toks.set t (n + m, s)⟩ (putBlock w (E.tk t).r (.cells rc' e fz)) := by
  obtain ⟨h0, htok, rc1, e1, fz1, hb1, hn1, hc1, hf1, hp1⟩ := hH.tok t n s ht
  rw [hb] at hb1; injection hb1 with hb1; injection hb1 with q1 q2 q3
  subst q1; subst q2; subst q3
  have htlt := hH.toks_lt ht
  have hmul : (n + m) * s ≤ (E.tk t).cap * s := Nat.mul_le_mul_right s hcap
  have hrlt : (E.tk t).r < w.heap.size := lt_of_heap hb
  have hcl : ∀ t' ns, (E.growTok t (n + m) s (E.tk t)).cl t' = some ns → (t' = t ∧ ns = (n + m, s)) ∨ (t' ≠ t ∧ E.cl t' = some ns) := by
    intro t' ns h
    simp only [Env.growTok] at h
    split at h
    · rename_i e; exact .inl ⟨e, by injection h with h; exact h.symm⟩
    · rename_i e; exact .inr ⟨e, h⟩
  have htk : ∀ t', (E.growTok t (n + m) s (E.tk t)).tk t' = E.tk t' := by
    intro t'
    simp only [Env.growTok]
    split
    · rename_i e; rw [e]
    · rfl
  have hx : Ext E w (E.growTok t (n + m) s (E.tk t)) (putBlock w (E.tk t).r (.cells rc' e fz)) := by
    refine ⟨fun _ _ h => h, fun _ _ h => .inl h, fun r i v hp hc => ?_, fun t' n' s' h => ?_, fun _ h => h⟩
    · by_cases er : r = (E.tk t).r
      · subst er
        have hi : i < (E.tk t).o + n * s := by
          rcases Nat.lt_or_ge i ((E.tk t).o + n * s) with h | h
          · exact h
          · exact absurd hp (hp1 i h)
        rw [cell_of_block (heap_put_same _ _ hrlt), hlow i hi, ← cell_of_block hb]
        exact hc
      · rw [cell_put_ne _ _ er]; exact hc
    · by_cases et : t' = t
      · subst et
        rw [ht] at h; injection h with h; injection h with a b; subst a; subst b
        exact ⟨n + m, by simp [Env.growTok], by omega, fun _ => htk t'⟩
      · exact ⟨n', by simp [Env.growTok, et, h], Nat.le_refl _, fun _ => htk t'⟩
  refine ⟨⟨hH.lt, ?_, hH.inj, ?_, ?_, ?_, ?_, ?_⟩, ⟨hx, rfl, rfl, rfl, by rw [size_put]; exact Nat.le_refl _, fun r hr ho => ⟨?_, ?_⟩, by simp, Nat.le_refl _, fun _ _ _ h => h⟩⟩
  · intro b L hbL
    refine (hH.obj b L hbL).frame hx (fun hl => heap_put_ne _ _ (hH.apart b L t (n, s) hbL hl ht)) (fun hl i hp => ?_)
    rcases hp with hp | ⟨he, _⟩
    · exact hp
    · exact absurd he (hH.apart b L t (n, s) hbL hl ht)
  · intro t' n' s' h
    rcases hcl t' _ h with ⟨rfl, he⟩ | ⟨hne, h1⟩
    · injection he with a b; subst a; subst b
      refine ⟨h0, by simp [htlt], ?_⟩
      rw [htk]
      refine ⟨rc', e, fz, heap_put_same _ _ hrlt, hcap, by rw [hsz]; exact hc1, fun i hi hi2 => hf1 i ?_ (by rw [← hsz]; exact hi2), fun i hi hp => ?_⟩
      · have := Nat.mul_le_mul_right s' (show n ≤ n + m by omega); omega
      · rcases hp with hp | ⟨_, _, hp⟩
        · exact hp1 i (by have := Nat.mul_le_mul_right s' (show n ≤ n + m by omega); omega) hp
        · omega
    · obtain ⟨a, b, c⟩ := hH.tok t' n' s' h1
      refine ⟨a, by rw [List.getElem?_set_ne (Ne.symm hne)]; exact b, ?_⟩
      rw [htk]
      have hrr : (E.tk t').r ≠ (E.tk t).r := fun he => hne (hH.tinj t' t _ _ h1 ht he)
      refine c.frame (heap_put_ne _ _ hrr) (fun i hp => ?_)
      rcases hp with hp | ⟨he, _⟩
      · exact hp
      · exact absurd he hrr
  · intro t1 t2 ns1 ns2 h1 h2 he
    rw [htk, htk] at he
    have g : ∀ t' ns, (E.growTok t (n + m) s (E.tk t)).cl t' = some ns → ∃ ns', E.cl t' = some ns' := by
      intro t' ns h
      rcases hcl t' _ h with ⟨rfl, _⟩ | ⟨_, h⟩
      · exact ⟨_, ht⟩
      · exact ⟨_, h⟩
    obtain ⟨a, ha⟩ := g t1 ns1 h1
    obtain ⟨b, hb⟩ := g t2 ns2 h2
    exact hH.tinj t1 t2 a b ha hb he
  · intro b L t' ns hbL hl h
    rw [htk]
    rcases hcl t' _ h with ⟨rfl, _⟩ | ⟨_, h⟩
    · exact hH.apart b L t' _ hbL hl ht
    · exact hH.apart b L t' _ hbL hl h
  · intro r i hp
    rcases hp with hp | ⟨rfl, _, hi⟩
    · obtain ⟨v, hv⟩ := hH.prot r i hp
      exact ⟨v, hx.cell r i v hp hv⟩
    · have hi' : i < rc'.size := by omega
      refine ⟨rc'[i], ?_⟩
      rw [cell_of_block (heap_put_same _ _ hrlt)]
      simp [hi']
  · intro r hi
    obtain ⟨i1, i2, i3⟩ := hH.inert r hi
    refine ⟨by rw [size_put]; exact i1, i2, fun t' ns h => ?_⟩
    rw [htk]
    rcases hcl t' _ h with ⟨rfl, _⟩ | ⟨_, h⟩
    · exact i3 t' _ ht
    · exact i3 t' _ h
  · rintro (⟨b', L', hb', hl, he⟩ | ⟨t', ns, h, he⟩)
    · exact ho (.inl ⟨b', L', hb', hl, he⟩)
    · rw [htk] at he
      rcases hcl t' _ h with ⟨rfl, _⟩ | ⟨_, h⟩
      · exact ho (.inr ⟨t', _, ht, he⟩)
      · exact ho (.inr ⟨t', _, h, he⟩)
  · exact heap_put_ne _ _ (fun er => ho (.inr ⟨t, _, ht, er.symm⟩))

/-- A row of a token that takes more elements moves to a new block. -/
theorem HRel.moveTok (hH : HRel E H w) {t n s m : Nat} (ht : E.cl t = some (n, s)) (hm : 0 < m) (rc : Array Value) (e : TypeId) (cap : Nat) (hn : n + m ≤ cap) (hc : cap * s ≤ rc.size)
    (fz : Nat × Nat) (hfz : ∀ i, i < rc.size → ¬ (fz.1 ≤ i ∧ i < fz.2)) :
    HRel (E.growTok t (n + m) s ⟨w.heap.size, 0, cap⟩) ⟨H.obs, H.toks.set t (n + m, s)⟩ (w.alloc (.cells rc e fz)) ∧
    Step E H w (E.growTok t (n + m) s ⟨w.heap.size, 0, cap⟩) ⟨H.obs, H.toks.set t (n + m, s)⟩ (w.alloc (.cells rc e fz)) := by
  obtain ⟨h0, htok, _⟩ := hH.tok t n s ht
  have htlt := hH.toks_lt ht
  have hmul : (n + m) * s ≤ cap * s := Nat.mul_le_mul_right s hn
  have hcl : ∀ t' ns, (E.growTok t (n + m) s ⟨w.heap.size, 0, cap⟩).cl t' = some ns → (t' = t ∧ ns = (n + m, s)) ∨ (t' ≠ t ∧ E.cl t' = some ns) := by
    intro t' ns h
    simp only [Env.growTok] at h
    split at h
    · rename_i e; exact .inl ⟨e, by injection h with h; exact h.symm⟩
    · rename_i e; exact .inr ⟨e, h⟩
  have htk : ∀ t', t' ≠ t → (E.growTok t (n + m) s ⟨w.heap.size, 0, cap⟩).tk t' = E.tk t' := by
    intro t' h
    simp [Env.growTok, h]
  have htn : (E.growTok t (n + m) s ⟨w.heap.size, 0, cap⟩).tk t = ⟨w.heap.size, 0, cap⟩ := by simp [Env.growTok]
  have hx : Ext E w (E.growTok t (n + m) s ⟨w.heap.size, 0, cap⟩) (w.alloc (.cells rc e fz)) := by
    refine ⟨fun _ _ h => h, fun _ _ h => .inl h, fun r i v _ hc => ?_, fun t' n' s' h => ?_, fun _ h => h⟩
    · rw [World.cell?_alloc_lt _ _ _ (lt_of_cell hc)]; exact hc
    · by_cases et : t' = t
      · subst et
        rw [ht] at h; injection h with h; injection h with a b; subst a; subst b
        exact ⟨n + m, by simp [Env.growTok], by omega, fun h => by omega⟩
      · exact ⟨n', by simp [Env.growTok, et, h], Nat.le_refl _, fun _ => htk t' et⟩
  refine ⟨⟨hH.lt, ?_, hH.inj, ?_, ?_, ?_, ?_, ?_⟩, ⟨hx, rfl, rfl, rfl, by simp, fun r hr ho => ⟨?_, heap_alloc_lt _ _ hr⟩, by simp, Nat.le_refl _, fun _ _ _ h => h⟩⟩
  · intro b L hb
    refine (hH.obj b L hb).frame hx (fun hl => heap_alloc_lt _ _ ((hH.obj b L hb).lt hl)) (fun hl i h => ?_)
    have := (hH.obj b L hb).lt hl
    rcases h with h | ⟨h, _⟩
    · exact h
    · exact absurd h (by show L.r ≠ w.heap.size; omega)
  · intro t' n' s' h
    rcases hcl t' _ h with ⟨rfl, he⟩ | ⟨hne, h1⟩
    · injection he with a b; subst a; subst b
      refine ⟨h0, by simp [htlt], ?_⟩
      rw [htn]
      refine ⟨rc, e, fz, heap_alloc_new _ _, hn, by simpa using hc, fun i _ hi => hfz i hi, fun i hi hp => ?_⟩
      rcases hp with hp | ⟨_, _, hp⟩
      · exact hH.noprot_new i hp
      · exact absurd hp (by simp at hi ⊢; exact hi)
    · obtain ⟨a, b, c⟩ := hH.tok t' n' s' h1
      refine ⟨a, by rw [List.getElem?_set_ne (Ne.symm hne)]; exact b, ?_⟩
      rw [htk t' hne]
      refine c.frame (heap_alloc_lt _ _ c.lt) (fun i h => ?_)
      have := c.lt
      rcases h with h | ⟨h, _⟩
      · exact h
      · exact absurd h (by show (E.tk t').r ≠ w.heap.size; omega)
  · intro t1 t2 ns1 ns2 h1 h2 he
    rcases hcl t1 _ h1 with ⟨rfl, _⟩ | ⟨hne1, g1⟩ <;> rcases hcl t2 _ h2 with ⟨rfl, _⟩ | ⟨hne2, g2⟩
    · rfl
    · rw [htn, htk t2 hne2] at he
      obtain ⟨a, b⟩ := ns2
      have := (hH.tok t2 a b g2).2.2.lt
      simp only at he
      omega
    · rw [htn, htk t1 hne1] at he
      obtain ⟨a, b⟩ := ns1
      have := (hH.tok t1 a b g1).2.2.lt
      simp only at he
      omega
    · rw [htk t1 hne1, htk t2 hne2] at he
      exact hH.tinj t1 t2 ns1 ns2 g1 g2 he
  · intro b L t' ns hb hl h
    rcases hcl t' _ h with ⟨rfl, _⟩ | ⟨hne, h⟩
    · rw [htn]
      have := (hH.obj b L hb).lt hl
      show L.r ≠ w.heap.size
      omega
    · rw [htk t' hne]; exact hH.apart b L t' ns hb hl h
  · intro r i hp
    rcases hp with hp | ⟨hr, _, hi⟩
    · obtain ⟨v, hv⟩ := hH.prot r i hp
      exact ⟨v, hx.cell r i v hp hv⟩
    · have hr' : r = w.heap.size := hr
      subst hr'
      have hi' : i < rc.size := by simp at hi; omega
      refine ⟨rc[i], ?_⟩
      rw [cell_of_block (heap_alloc_new _ _)]
      simp [hi']
  · intro r hi
    obtain ⟨i1, i2, i3⟩ := hH.inert r hi
    refine ⟨by simp; omega, i2, fun t' ns h => ?_⟩
    rcases hcl t' _ h with ⟨rfl, _⟩ | ⟨hne, h⟩
    · rw [htn]; show w.heap.size ≠ r; omega
    · rw [htk t' hne]; exact i3 t' _ h
  · rintro (⟨b, L', hb, hl, he⟩ | ⟨t', ns, h, he⟩)
    · exact ho (.inl ⟨b, L', hb, hl, he⟩)
    · rcases hcl t' _ h with ⟨rfl, _⟩ | ⟨hne, h⟩
      · rw [htn] at he; simp only at he; omega
      · rw [htk t' hne] at he; exact ho (.inr ⟨t', ns, h, he⟩)

end Go.SV

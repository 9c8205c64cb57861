/- Arguments that came in, read as values of the abstract machine; contracts of the library brought over; a law's call. Own text of the prover; nothing is assumed. -/
import Derived.Test.YtkbkhdgjdikjiaaDoorSt
import Derived.ChangeArms
import Derived.ChangeOld
import Derived.Handed
namespace Go.SV
open Go.RowKit

variable {P : Program} {E E' : Env} {H H' : AH} {w w' : World}

/-! ### The beginning -/
def Env.start (W : World) : Env := ⟨fun _ => none, fun r i => (W.cell? ⟨r, i, none⟩).isSome = true, fun _ => none, fun _ => ⟨0, 0, 0⟩, fun r => r < W.heap.size⟩
def AH.start : AH := ⟨[], [(0, 0)]⟩

theorem HRel.start (W : World) : HRel (Env.start W) AH.start W :=
  ⟨fun _ _ h => by simp [Env.start] at h, fun _ _ h => by simp [Env.start] at h, fun _ _ _ _ h => by simp [Env.start] at h, fun _ _ _ h => by simp [Env.start] at h, fun _ _ _ _ h => by simp [Env.start] at h,
    fun _ _ _ _ h => by simp [Env.start] at h, fun r i h => by simpa [Env.start, Option.isSome_iff_exists] using h,
    fun r h => ⟨h, fun _ _ h => by simp [Env.start] at h, fun _ _ h => by simp [Env.start] at h⟩⟩

theorem Step.below {W : World} (h : Step (Env.start W) AH.start W E' H' w') : Below W.heap.size W w' := by
  refine ⟨h.os, h.tape, h.output, h.size, fun k hk => (h.keep k hk ?_).2⟩
  rintro (⟨b, L, hb, _⟩ | ⟨t, ns, ht, _⟩)
  · simp [Env.start] at hb
  · simp [Env.start] at ht

/-! ### Contracts that leave old memory as it was -/
theorem HRel.below (hH : HRel E H w) (hb : Below w.heap.size w w') : HRel E H w' ∧ Step E H w E H w' := by
  have hheap : ∀ r, r < w.heap.size → w'.heap[r]? = w.heap[r]? := hb.block
  have hx : Ext E w E w' := ⟨fun _ _ h => h, fun _ _ h => h, fun r i v _ hc => by
    have := lt_of_cell hc
    unfold World.cell? at hc ⊢
    simp only at hc ⊢
    rw [hheap r this]
    exact hc, fun _ n _ h => ⟨n, h, Nat.le_refl _, fun _ => rfl⟩, fun _ h => h⟩
  refine ⟨⟨hH.lt, fun b L hL => (hH.obj b L hL).frame hx (fun hl => hheap _ ((hH.obj b L hL).lt hl)) (fun _ _ h => h), hH.inj, fun t n s h => ?_, hH.tinj, hH.apart, fun r i hp => ?_, fun r hi => ?_⟩, ⟨hx, hb.os, hb.tape, hb.output, hb.size, fun r hr ho => ⟨ho, hheap r hr⟩, Nat.le_refl _, Nat.le_refl _, fun _ _ _ h => h⟩⟩
  · obtain ⟨h0, h1, h2⟩ := hH.tok t n s h
    exact ⟨h0, h1, h2.frame (hheap _ h2.lt) (fun _ h => h)⟩
  · obtain ⟨v, hv⟩ := hH.prot r i hp
    exact ⟨v, hx.cell r i v hp hv⟩
  · obtain ⟨h1, h2, h3⟩ := hH.inert r hi
    exact ⟨Nat.lt_of_lt_of_le h1 hb.size, h2, h3⟩

theorem CallSim.of_below {T : Laid} {f : FuncId} {args : List AV} {v : AV}
    (h : ∀ E w (rargs : Array Value), Rdy T E H w → ArgsR E w args rargs → ∃ v', (∀ w', Below w.heap.size w w' → VR E w' v v') ∧ Calls P f rargs w fun e w' => e = .returned v' ∧ Below w.heap.size w w') :
    CallSim P T f args H v H := by
  intro E w rargs hH hr ha
  obtain ⟨v', hv, hc⟩ := h E w rargs hr ha
  refine hc.mono fun e w' ⟨he, hb⟩ => ?_
  obtain ⟨h1, h2⟩ := hH.below hb
  exact ⟨E, v', he, hv w' hb, h1, h2⟩

/-! ### Arguments -/
def RowR (W : World) (xs : List AV) (cs : List Value) : Prop :=
  xs.length = cs.length ∧ ∀ (j : Nat) x u, xs[j]? = some x → cs[j]? = some u → VR (Env.start W) W x u

theorem RowR.append {W : World} {xs ys : List AV} {cs ds : List Value} (h : RowR W xs cs) (k : RowR W ys ds) : RowR W (xs ++ ys) (cs ++ ds) := by
  refine ⟨by rw [List.length_append, List.length_append, h.1, k.1], fun j x u hx hu => ?_⟩
  rcases Nat.lt_or_ge j xs.length with hl | hl
  · rw [List.getElem?_append_left hl] at hx
    rw [List.getElem?_append_left (by rw [← h.1]; exact hl)] at hu
    exact h.2 j x u hx hu
  · rw [List.getElem?_append_right hl] at hx
    rw [List.getElem?_append_right (by rw [← h.1]; exact hl), ← h.1] at hu
    exact k.2 _ x u hx hu

theorem RowR.one {W : World} {x : AV} {u : Value} (h : VR (Env.start W) W x u) : RowR W [x] [u] := by
  refine ⟨rfl, fun j y v hy hv => ?_⟩
  cases j with
  | zero => simp at hy hv; subst hy; subst hv; exact h
  | succ j => simp at hy

/-- Whatever is read at a type is a value of the prover's own data. -/
def Reads (P : Program) (t : TypeId) {α : Type} (f : α → List AV) (G : α → Prop) : Prop :=
  ∀ {Hd : Type} (enc : TypeId × Value → Hd) (W : World) (fuel : Nat) (cs : List Value) (x : DataW Hd × List MemPlace),
    DataW.trod enc P W 0 (fun _ => true) true fuel t cs = some x → ∃ a, G a ∧ RowR W (f a) cs

theorem reads_int {t : TypeId} {k : IntKind} (hu : P.underlying t = some (.int k)) : Reads P t (fun n : Int => [.int k n]) (fun n => (Lit.int k n).wf = true) := by
  intro Hd enc W fuel cs x h
  obtain ⟨n, rfl, _, hw⟩ := DataW.trod_int hu h
  exact ⟨n, hw, .one (.int _ _)⟩

theorem reads_str {t : TypeId} (hu : P.underlying t = some .string) : Reads P t (fun l : List UInt8 => [.str l]) (fun l => l.length ≤ maxLen) := by
  intro Hd enc W fuel cs x h
  obtain ⟨s, rfl, _, hw⟩ := DataW.trod_string hu h
  have hz : s.data.toList.length = s.size := Array.length_toList
  refine ⟨s.data.toList, (show s.data.toList.length ≤ maxLen by rw [hz]; exact hw), .one ?_⟩
  have := VR.str (E := Env.start W) (w := W) s.data.toList
  simpa using this

theorem reads_bool {t : TypeId} (hu : P.underlying t = some .bool) : Reads P t (fun b : Bool => [.bool b]) (fun _ => True) := by
  intro Hd enc W fuel cs x h
  cases fuel with
  | zero => simp [DataW.trod] at h
  | succ n =>
    unfold DataW.trod at h
    rw [hu] at h
    split at h
    · exact ⟨_, trivial, .one (.bool _)⟩
    all_goals simp_all

def rowF {α : Type} (s : Nat) (f : α → List AV) : Option (List α) → AV
  | none => .nils
  | some l => .sl 0 s (l.map fun a => mkElem (f a))

theorem add_none {a : Addr} (h : a.spot = none) (i : Nat) : a.add i = ⟨a.block, a.off + i, none⟩ := by
  unfold Addr.add
  split
  · rename_i e; subst e; cases a; simp_all
  · rfl

/-- So, of what is no larger than memory is. -/
def Sized {Hd : Type} (P : Program) (t : TypeId) (d : DataW Hd) : Prop := ∀ n ∈ d.weights P t, n ≤ reachBytes
def ReadsZ (P : Program) (t : TypeId) {α : Type} (f : α → List AV) (G : α → Prop) : Prop :=
  ∀ {Hd : Type} (enc : TypeId × Value → Hd) (W : World) (fuel : Nat) (cs : List Value) (x : DataW Hd × List MemPlace),
    DataW.trod enc P W 0 (fun _ => true) true fuel t cs = some x → Sized P t x.1 → ∃ a, G a ∧ RowR W (f a) cs
theorem Reads.z {t : TypeId} {α : Type} {f : α → List AV} {G : α → Prop} (h : Reads P t f G) : ReadsZ P t f G := fun enc W fuel cs x hx _ => h enc W fuel cs x hx

theorem weightsAll_mem {Hd : Type} {e : TypeId} {n : Nat} {d : DataW Hd} (hn : n ∈ d.weights P e) : ∀ {l : List (DataW Hd)}, d ∈ l → n ∈ DataW.weightsAll P e l := by
  intro l
  induction l with
  | nil => intro h; cases h
  | cons a l ih =>
    intro h
    rw [DataW.weightsAll, List.mem_append]
    rcases List.mem_cons.1 h with rfl | h
    · exact .inl hn
    · exact .inr (ih h)
theorem sized_elem {Hd : Type} {t e : TypeId} (hu : P.underlying t = some (.slice e)) {xs ys : List (DataW Hd)} (h : Sized P t (.slice xs ys)) : xs.length * P.bytesOf e ≤ reachBytes ∧ ∀ d ∈ xs, Sized P e d := by
  have h : ∀ n ∈ (xs.length + ys.length) * P.bytesOf e :: (DataW.weightsAll P e xs ++ DataW.weightsAll P e ys), n ≤ reachBytes := by
    unfold Sized at h
    rw [DataW.weights, hu] at h
    exact h
  refine ⟨Nat.le_trans (Nat.mul_le_mul_right _ (Nat.le_add_right _ ys.length)) (h _ (by simp)), fun d hd n hn => h n ?_⟩
  rw [List.mem_cons, List.mem_append]
  exact .inr (.inl (weightsAll_mem hn hd))

theorem readsZ_slice {t e : TypeId} {s : Nat} {α : Type} {f : α → List AV} {G : α → Prop} (hu : P.underlying t = some (.slice e)) (hs : P.cellsOf e = s) (h0 : 0 < s) (he : ReadsZ P e f G) (hf : ∀ a, (f a).length = s) :
    ReadsZ P t (fun l : Option (List α) => [rowF s f l]) (fun l => ∀ l', l = some l' → l'.length ≤ maxLen ∧ l'.length * P.bytesOf e ≤ reachBytes ∧ ∀ a ∈ l', G a) := by
  intro Hd enc W fuel cs x h hsz
  rcases DataW.trod_slice hu h with ⟨rfl, _⟩ | ⟨a, len, cap, elems, rest, n, rfl, rfl, rfl, _, hlc, hcm, hel, hget, hsp, _⟩
  · exact ⟨none, fun _ h => by simp at h, .one .nils⟩
  · rw [hs] at hget hsp
    obtain ⟨hby, hsz'⟩ := sized_elem hu hsz
    rw [List.length_map, hel] at hby
    -- the elements, one by one
    have key : ∀ i, i < len → ∃ b, G b ∧ ∃ cs, (∀ j, j < s → W.cell? ((a.add (i * s)).add j) = cs[j]?) ∧ cs.length = s ∧ RowR W (f b) cs := by
      intro i hi
      have h1 := hget i hi
      rw [List.getElem?_eq_getElem (by omega)] at h1
      simp only [Option.bind_eq_some_iff] at h1
      obtain ⟨cs, hcs, hx⟩ := h1
      obtain ⟨b, hg, hr⟩ := he enc W n cs _ hx (hsz' _ (List.mem_map_of_mem (List.getElem_mem _)))
      obtain ⟨_, hl, hc⟩ := World.cells?_some hcs
      exact ⟨b, hg, cs, fun j hj => hc j hj, hl, hr⟩
    have list : ∀ k, k ≤ len → ∃ l : List α, l.length = k ∧ (∀ b ∈ l, G b) ∧ ∀ i b, l[i]? = some b → ∃ cs, (∀ j, j < s → W.cell? ((a.add (i * s)).add j) = cs[j]?) ∧ cs.length = s ∧ RowR W (f b) cs := by
      intro k
      induction k with
      | zero => intro _; exact ⟨[], rfl, by simp, by simp⟩
      | succ k ih =>
        intro hk
        obtain ⟨l, hl, hg, hr⟩ := ih (by omega)
        obtain ⟨b, hb, cs, h1, h2, h3⟩ := key k (by omega)
        refine ⟨l ++ [b], by simp [hl], fun y hy => ?_, fun i y hy => ?_⟩
        · rcases List.mem_append.1 hy with h | h
          · exact hg y h
          · simp at h; subst h; exact hb
        · rcases Nat.lt_or_ge i l.length with hlt | hge
          · rw [List.getElem?_append_left hlt] at hy; exact hr i y hy
          · rw [List.getElem?_append_right hge] at hy
            have hi : i = l.length := by have := getElem?_lt hy; simp at this; omega
            subst hi
            simp at hy
            subst hy
            rw [hl]
            exact ⟨cs, h1, h2, h3⟩
    obtain ⟨l, hl, hg, hr⟩ := list len (Nat.le_refl _)
    refine ⟨some l, fun l' h => by injection h with h; subst h; exact ⟨by omega, by rw [hl]; exact hby, hg⟩, .one ?_⟩
    by_cases hcap : cap = 0
    · have hlen0 : len = 0 := by omega
      have : l = [] := List.eq_nil_of_length_eq_zero (by omega)
      subst this
      subst hlen0
      subst hcap
      exact .sle s a
    · -- some cell is read: the address is a plain one
      have hspot : a.spot = none := by
        have hcell : ∃ v, W.cell? a = some v := by
          rcases Nat.eq_zero_or_pos len with hz | hp
          · subst hz
            obtain ⟨hrl, hrg⟩ := hsp rfl
            have h1 := hrg 0 (by omega)
            rw [List.getElem?_eq_getElem (by omega)] at h1
            simp only [Option.bind_eq_some_iff] at h1
            obtain ⟨cs, hcs, _⟩ := h1
            obtain ⟨_, hl, hc⟩ := World.cells?_some hcs
            have := hc 0 h0
            simp only [Nat.add_zero, Nat.zero_mul] at this
            rw [List.getElem?_eq_getElem (by omega)] at this
            exact ⟨_, by simpa [Addr.add] using this⟩
          · obtain ⟨b, _, cs, hc, hcl, _⟩ := key 0 hp
            have := hc 0 h0
            rw [List.getElem?_eq_getElem (by omega)] at this
            exact ⟨_, by simpa [Addr.add] using this⟩
        obtain ⟨v, hv⟩ := hcell
        unfold World.cell? at hv
        split at hv
        · split at hv
          · simp at hv
          · rename_i h; simpa using h
        · simp at hv
      obtain ⟨r, o, sp⟩ := a
      simp only at hspot
      subst hspot
      have hadd : ∀ i j, ((⟨r, o, none⟩ : Addr).add (i * s)).add j = ⟨r, o + i * s + j, none⟩ := fun i j => by rw [add_addr, add_addr]
      have hlm : (l.map fun a => mkElem (f a)).length = len := by simp [hl]
      have hcellsAt : ∀ (i : Nat) x (j : Nat) c, (l.map fun a => mkElem (f a))[i]? = some x → x.cells[j]? = some c → ∃ u, W.cell? ⟨r, o + i * s + j, none⟩ = some u ∧ VR (Env.start W) W c u := by
        intro i x j c hi hj
        rw [List.getElem?_map, Option.map_eq_some_iff] at hi
        obtain ⟨b, hb, rfl⟩ := hi
        rw [mkElem_cells] at hj
        obtain ⟨cs, h1, h2, h3⟩ := hr i b hb
        have hjs : j < s := by rw [← hf b]; exact getElem?_lt hj
        have h4 := h1 j hjs
        rw [hadd, List.getElem?_eq_getElem (by omega)] at h4
        exact ⟨_, h4, h3.2 j c _ hj (List.getElem?_eq_getElem (by omega))⟩
      have := VR.sl (E := Env.start W) (w := W) 0 s (l.map fun a => mkElem (f a)) r o cap (fun i j => (W.cell? ⟨r, o + i * s + j, none⟩).getD undef) (by omega)
        (fun i x hi => by
          rw [List.getElem?_map, Option.map_eq_some_iff] at hi
          obtain ⟨b, hb, rfl⟩ := hi
          rw [mkElem_cells, hf])
        (fun i x j c hi hj => by obtain ⟨u, hu, _⟩ := hcellsAt i x j c hi hj; rw [hu]; rfl)
        (fun i x j c hi hj => by obtain ⟨u, hu, _⟩ := hcellsAt i x j c hi hj; simp only [Env.start]; rw [hu]; rfl)
        (fun i x j c hi hj => by obtain ⟨u, hu, hv⟩ := hcellsAt i x j c hi hj; rw [hu]; exact hv)
        (fun h => absurd rfl h) (fun _ => by
          simp only [Env.start]
          have hne : 0 < cap := by omega
          rcases Nat.eq_zero_or_pos len with hz | hp
          · subst hz
            obtain ⟨hrl, hrg⟩ := hsp rfl
            have h1 := hrg 0 (by omega)
            rw [List.getElem?_eq_getElem (by omega)] at h1
            simp only [Option.bind_eq_some_iff] at h1
            obtain ⟨cs, hcs, _⟩ := h1
            obtain ⟨_, hl, hc⟩ := World.cells?_some hcs
            have := hc 0 h0
            rw [add_addr, add_addr, List.getElem?_eq_getElem (by omega)] at this
            exact lt_of_cell this
          · obtain ⟨b, _, cs, hc, hcl, _⟩ := key 0 hp
            have := hc 0 h0
            rw [hadd, List.getElem?_eq_getElem (by omega)] at this
            exact lt_of_cell this)
      rw [hlm] at this
      exact this

/-! ### Structs -/
def ReadsF (P : Program) (fs : List Field) {α : Type} (f : α → List AV) (G : α → Prop) : Prop :=
  ∀ {Hd : Type} (enc : TypeId × Value → Hd) (W : World) (fuel : Nat) (cs : List Value),
    (∀ fl ∈ fs, ∃ x : DataW Hd × List MemPlace, DataW.trod enc P W 0 (fun _ => true) true fuel fl.type ((cs.drop fl.offset).take (P.cellsOf fl.type)) = some x ∧ Sized P fl.type x.1) →
    ∃ a, G a ∧ RowR W (f a) (fs.flatMap fun fl => (cs.drop fl.offset).take (P.cellsOf fl.type))

theorem readsF_nil : ReadsF P [] (fun _ : Unit => []) (fun _ => True) := by
  intro Hd enc W fuel cs _
  exact ⟨(), trivial, rfl, by simp⟩

theorem readsF_cons {fl : Field} {fs : List Field} {α β : Type} {f : α → List AV} {g : β → List AV} {G : α → Prop} {K : β → Prop} (h : ReadsZ P fl.type f G) (hs : ReadsF P fs g K) :
    ReadsF P (fl :: fs) (fun x : α × β => f x.1 ++ g x.2) (fun x => G x.1 ∧ K x.2) := by
  intro Hd enc W fuel cs hx
  obtain ⟨x, hx0, hz⟩ := hx fl (by simp)
  obtain ⟨a, ha, hr⟩ := h enc W fuel _ x hx0 hz
  obtain ⟨b, hb, hr'⟩ := hs enc W fuel cs (fun y hy => hx y (by simp [hy]))
  exact ⟨(a, b), ⟨ha, hb⟩, by rw [List.flatMap_cons]; exact hr.append hr'⟩

/-- Fields lie one behind the other. -/
def tight (P : Program) : List Field → Nat → Nat → Bool
  | [], o, n => o == n
  | fl :: fs, o, n => fl.offset == o && decide (o + P.cellsOf fl.type ≤ n) && tight P fs (o + P.cellsOf fl.type) n

theorem tight_flat : ∀ (fs : List Field) (o : Nat) (cs : List Value), tight P fs o cs.length = true → (fs.flatMap fun fl => (cs.drop fl.offset).take (P.cellsOf fl.type)) = cs.drop o := by
  intro fs
  induction fs with
  | nil =>
    intro o cs h
    simp only [tight, beq_iff_eq] at h
    simp [h]
  | cons fl fs ih =>
    intro o cs h
    simp only [tight, Bool.and_eq_true, beq_iff_eq, decide_eq_true_eq] at h
    obtain ⟨⟨h1, h2⟩, h3⟩ := h
    rw [List.flatMap_cons, ih _ cs h3, h1, ← List.drop_drop, List.take_append_drop]

theorem weightsEach_mem {Hd : Type} {n : Nat} : ∀ {ts : List TypeId} {ds : List (DataW Hd)} {i : Nat} {t : TypeId} {d : DataW Hd}, ts[i]? = some t → ds[i]? = some d → n ∈ d.weights P t → n ∈ DataW.weightsEach P ts ds := by
  intro ts
  induction ts with
  | nil => intro ds i t d ht; simp at ht
  | cons a ts ih =>
    intro ds i t d ht hd hn
    cases ds with
    | nil => simp at hd
    | cons x ds =>
      rw [DataW.weightsEach, List.mem_append]
      cases i with
      | zero =>
        simp only [List.getElem?_cons_zero, Option.some.injEq] at ht hd
        subst ht; subst hd
        exact .inl hn
      | succ i => exact .inr (ih (by simpa using ht) (by simpa using hd) hn)

theorem readsZ_struct {t : TypeId} {fs : Array Field} {α : Type} {f : α → List AV} {G : α → Prop} (hu : P.underlying t = some (.struct fs)) (ht : tight P fs.toList 0 (P.cellsOf t) = true) (hf : ReadsF P fs.toList f G) : ReadsZ P t f G := by
  intro Hd enc W fuel cs x h hz
  obtain ⟨xs, n, rfl, rfl, hl, hxl, hg⟩ := DataW.trod_struct hu h
  have hz : ∀ n ∈ DataW.weightsEach P (fs.toList.map (·.type)) (xs.map (·.1)), n ≤ reachBytes := by
    unfold Sized at hz
    rw [DataW.weights, hu] at hz
    exact hz
  obtain ⟨a, ha, hr⟩ := hf enc W n cs (fun fl hfl => by
    obtain ⟨i, hi, hie⟩ := List.getElem_of_mem hfl
    have hi' : i < fs.size := by simpa using hi
    have := hg i fl (by rw [← hie]; simp [hi'])
    rw [List.getElem?_eq_getElem (by omega)] at this
    refine ⟨_, this, fun n hn => hz n (weightsEach_mem (i := i) (t := fl.type) ?_ ?_ hn)⟩
    · rw [List.getElem?_map, List.getElem?_eq_getElem hi, hie]; rfl
    · rw [List.getElem?_map, List.getElem?_eq_getElem (by omega)]; rfl)
  rw [tight_flat fs.toList 0 cs (by rw [hl]; exact ht), List.drop_zero] at hr
  exact ⟨a, ha, hr⟩

/-- What a law's arguments weigh. -/
theorem sized_arg {Hd : Type} {ts us : List TypeId} {ds gs : List (DataW Hd)} (h : (DataW.weightsEach P (ts ++ us) (ds ++ gs)).all (· ≤ reachBytes) = true) {i : Nat} {t : TypeId} {d : DataW Hd} (ht : ts[i]? = some t) (hd : ds[i]? = some d) : Sized P t d := by
  intro n hn
  have h1 : (ts ++ us)[i]? = some t := by rw [List.getElem?_append_left (getElem?_lt ht)]; exact ht
  have h2 : (ds ++ gs)[i]? = some d := by rw [List.getElem?_append_left (getElem?_lt hd)]; exact hd
  simpa using List.all_eq_true.1 h n (weightsEach_mem h1 h2 hn)

/-! ### What stood in memory at the beginning -/
/-- Each cell of the world in which the call began stands as it was, and each block. -/
def Laid.of (W : World) : Laid where
  L := fun E w => (∀ r i v, W.cell? ⟨r, i, none⟩ = some v → E.prot r i ∧ w.cell? ⟨r, i, none⟩ = some v) ∧ ∀ r, r < W.heap.size → E.inert r ∧ w.heap[r]? = W.heap[r]?
  mono := fun {E H w E' H' w'} hH hS h => ⟨fun r i v hv => ⟨hS.ext.prot _ _ (h.1 r i v hv).1, hS.ext.cell _ _ _ (h.1 r i v hv).1 (h.1 r i v hv).2⟩, fun r hr => by
    obtain ⟨h1, h2⟩ := h.2 r hr
    obtain ⟨k1, k2, k3⟩ := hH.inert r h1
    refine ⟨hS.ext.inert r h1, ?_⟩
    rw [← h2]
    refine (hS.keep r k1 ?_).2
    rintro (⟨b, L, hb, hl, he⟩ | ⟨t, ns, ht, he⟩)
    · exact k2 b L hb hl he
    · exact k3 t ns ht he⟩

theorem Laid.start (W : World) : (Laid.of W).L (Env.start W) W := ⟨fun r i v hv => ⟨by simp only [Env.start, hv, Option.isSome_some], hv⟩, fun r hr => ⟨hr, rfl⟩⟩

theorem ArgsR.one {x : AV} {rs : Array Value} (h : ArgsR E w [x] rs) : ∃ u, rs = #[u] ∧ VR E w x u := by
  obtain ⟨h1, h2⟩ := h
  obtain ⟨l⟩ := rs
  match l, h1 with
  | [u], _ => exact ⟨u, rfl, h2 0 x u rfl rfl⟩

theorem ArgsR.two {x y : AV} {rs : Array Value} (h : ArgsR E w [x, y] rs) : ∃ u v, rs = #[u, v] ∧ VR E w x u ∧ VR E w y v := by
  obtain ⟨h1, h2⟩ := h
  obtain ⟨l⟩ := rs
  match l, h1 with
  | [u, v], _ => exact ⟨u, v, rfl, h2 0 x u rfl rfl, h2 1 y v rfl rfl⟩

theorem ArgsR.mk1 {x : AV} {u : Value} (h : VR E w x u) : ArgsR E w [x] #[u] := by
  refine ⟨rfl, fun j y v hy hv => ?_⟩
  cases j with
  | zero => simp at hy hv; subst hy; subst hv; exact h
  | succ j => simp at hy

theorem ArgsR.mk2 {x y : AV} {u v : Value} (h : VR E w x u) (k : VR E w y v) : ArgsR E w [x, y] #[u, v] := by
  refine ⟨rfl, fun j a b ha hb => ?_⟩
  match j with
  | 0 => simp at ha hb; subst ha; subst hb; exact h
  | 1 => simp at ha hb; subst ha; subst hb; exact k
  | j + 2 => simp at ha

/-- A contract of the library, brought over: one argument, a text. -/
theorem known_str {W : World} {f : FuncId} {l : List UInt8} {v : AV} {u : Value} (hv : ∀ E w, VR E w v u)
    (h : ∀ w, (∀ r, r < W.heap.size → w.heap[r]? = W.heap[r]?) → Calls P f #[.string ⟨l.toArray⟩] w fun e w' => e = .returned u ∧ Below w.heap.size w w') : CallSim P (Laid.of W) f [.str l] H v H := by
  refine CallSim.of_below fun E w rs hr ha => ?_
  obtain ⟨x, rfl, hx⟩ := ha.one
  cases hx
  exact ⟨u, fun w' _ => hv E w', h w fun r hr' => (hr.laid.2 r hr').2⟩

/-! ### A call of the whole -/
theorem call_of {T : Laid} {D : Den} (hD : DOk P T D) {f : FuncId} {args : List AV} {v : AV} {W : World} {rargs : Array Value} (hk : f < 100000) (h : D f args AH.start = some (v, H')) (hl : T.L (Env.start W) W) (ha : ArgsR (Env.start W) W args rargs) :
    Calls P f rargs W fun e w' => (∃ E' v', e = .returned v' ∧ VR E' w' v v') ∧ Below W.heap.size W w' := by
  obtain ⟨_, hc⟩ := hD _ _ _ _ _ h
  rw [Nat.mod_eq_of_lt hk] at hc
  refine (hc (Env.start W) W rargs (HRel.start W) ⟨by simp [AH.start], hl⟩ ha).mono fun e w' ⟨E', v', he, hv, _, hS⟩ => ⟨⟨E', v', he, hv⟩, hS.below⟩

end Go.SV

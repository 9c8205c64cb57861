/- The abstract values of the layer S, what relates them to the model's values, and that this relation lasts while protected memory stays. How the relation between abstract heaps and the model's worlds goes through new blocks, stores, appends. The relation between abstract heaps and worlds, through writes in place: stores, appends, rows that are given up or sealed. The abstract machine: operations over abstract values, and code. The machine's memory operations do what the abstract ones do: loads, stores, new cells, structs and rows that are built. Rows: built, appended to, sliced, indexed, made, copied, sealed. Appends: in place or in a new block, for rows of a token and for rows that may be written. Appends to rows that may be written; slices of rows; places of elements; rows made, copied, sealed. Own text of the prover; nothing is assumed. -/
import Derived.Calls
import Derived.Orders
import Derived.Below
import Derived.KernelRfl
import Derived.Laws.Cells
namespace Go.SV

/-- A strings.Builder lies at a place of a block of so many cells of a type. -/
def lbB (e n o : Nat) : Bool := e == 41 && (n == 2 && o == 0)

inductive AV where
  | undef
  | bool (b : Bool)
  | int (k : IntKind) (n : Int)
  | str (s : List UInt8)
  | nilp
  | bnil
  | ptr (b o : Nat)
  | vp (cs : List AV)
  | nils
  | sl (t s : Nat) (xs : List AV)
  | slr (b o n s : Nat)
  | nilm
  | map (b : Nat)
  | nilf
  | fn (f : Fn) (first cap : List AV)
  | niliface
  | iface (t : Nat) (v : AV)
  | agg (cs : List AV)
  | tup (vs : List AV)
  deriving Inhabited

def AV.cells : AV → List AV
  | .agg cs => cs
  | x => [x]

/-- The first cell of a Builder to which nothing was written. -/
def AV.isB : AV → Bool
  | .bnil => true
  | _ => false

structure Ref where
  r : Nat
  d : Nat
  R : Nat

structure TokL where
  r : Nat
  o : Nat
  cap : Nat

structure Env where
  φ : Nat → Option Ref
  prot : Nat → Nat → Prop
  cl : Nat → Option (Nat × Nat)
  tk : Nat → TokL
  inert : Nat → Prop

inductive VR (E : Env) (w : World) : AV → Value → Prop
  | undef (v : Value) : VR E w .undef v
  | bool (b : Bool) : VR E w (.bool b) (.bool b)
  | int (k : IntKind) (n : Int) : VR E w (.int k n) (.int k n)
  | str (s : List UInt8) : VR E w (.str s) (.string ⟨s.toArray⟩)
  | nilp : VR E w .nilp (.pointer none)
  | bnil (p : Option Addr) : VR E w .bnil (.pointer p)
  | ptr (b o : Nat) (L : Ref) (hL : E.φ b = some L) : VR E w (.ptr b o) (.pointer (some ⟨L.r, L.d + o, none⟩))
  | vp (cs : List AV) (r o : Nat) (us : Nat → Value)
      (hc : ∀ (j : Nat) c, cs[j]? = some c → w.cell? ⟨r, o + j, none⟩ = some (us j))
      (hp : ∀ (j : Nat) c, cs[j]? = some c → E.prot r (o + j))
      (hv : ∀ (j : Nat) c, cs[j]? = some c → VR E w c (us j)) : VR E w (.vp cs) (.pointer (some ⟨r, o, none⟩))
  | nils : VR E w .nils (.slice none 0 0)
  | sl (t s : Nat) (xs : List AV) (r o cap : Nat) (us : Nat → Nat → Value)
      (hcap : xs.length ≤ cap)
      (hs : ∀ (i : Nat) x, xs[i]? = some x → x.cells.length = s)
      (hc : ∀ (i : Nat) x (j : Nat) c, xs[i]? = some x → x.cells[j]? = some c → w.cell? ⟨r, o + i * s + j, none⟩ = some (us i j))
      (hp : ∀ (i : Nat) x (j : Nat) c, xs[i]? = some x → x.cells[j]? = some c → E.prot r (o + i * s + j))
      (hv : ∀ (i : Nat) x (j : Nat) c, xs[i]? = some x → x.cells[j]? = some c → VR E w c (us i j))
      (ht : t ≠ 0 → ∃ n s0, E.cl t = some (n, s0) ∧ xs.length ≤ n ∧ (xs.length = n → s = s0 ∧ E.tk t = ⟨r, o, cap⟩))
      (h0 : t = 0 → E.inert r) :
      VR E w (.sl t s xs) (.slice (some ⟨r, o, none⟩) xs.length cap)
  | sle (s : Nat) (a : Addr) : VR E w (.sl 0 s []) (.slice (some a) 0 0)
  | slr (b o n s cap o' : Nat) (L : Ref) (hL : E.φ b = some L) (hn : n ≤ cap) (ho : cap ≠ 0 → o' = L.d + o ∧ L.d + o + cap * s ≤ L.R) :
      VR E w (.slr b o n s) (.slice (some ⟨L.r, o', none⟩) n cap)
  | nilm : VR E w .nilm (.map none)
  | map (b : Nat) (L : Ref) (hL : E.φ b = some L) : VR E w (.map b) (.map (some L.r))
  | nilf : VR E w .nilf .nilFunc
  | fn (f : Fn) (first cap : List AV) (rf rc : Array Value) (h1 : first.length = rf.size) (h2 : cap.length = rc.size)
      (hf : ∀ (j : Nat) a u, first[j]? = some a → rf[j]? = some u → VR E w a u)
      (hc : ∀ (j : Nat) a u, cap[j]? = some a → rc[j]? = some u → VR E w a u) : VR E w (.fn f first cap) (.func f rf rc)
  | niliface : VR E w .niliface .nilIface
  | iface (t : Nat) (a : AV) (v : Value) (h : VR E w a v) : VR E w (.iface t a) (.iface t v)
  | agg (cs : List AV) (vs : Array Value) (h1 : cs.length = vs.size) (hv : ∀ (j : Nat) a u, cs[j]? = some a → vs[j]? = some u → VR E w a u) : VR E w (.agg cs) (.agg vs)
  | tup (cs : List AV) (vs : Array Value) (h1 : cs.length = vs.size) (hv : ∀ (j : Nat) a u, cs[j]? = some a → vs[j]? = some u → VR E w a u) : VR E w (.tup cs) (.tuple vs)

structure Ext (E : Env) (w : World) (E' : Env) (w' : World) : Prop where
  φ : ∀ b L, E.φ b = some L → E'.φ b = some L
  prot : ∀ r i, E.prot r i → E'.prot r i
  cell : ∀ r i v, E.prot r i → w.cell? ⟨r, i, none⟩ = some v → w'.cell? ⟨r, i, none⟩ = some v
  cl : ∀ t n s, E.cl t = some (n, s) → ∃ n', E'.cl t = some (n', s) ∧ n ≤ n' ∧ (n' = n → E'.tk t = E.tk t)
  inert : ∀ r, E.inert r → E'.inert r

theorem Ext.refl (E : Env) (w : World) : Ext E w E w := ⟨fun _ _ h => h, fun _ _ h => h, fun _ _ _ _ h => h, fun _ n _ h => ⟨n, h, Nat.le_refl _, fun _ => rfl⟩, fun _ h => h⟩

theorem Ext.trans {E1 E2 E3 : Env} {w1 w2 w3 : World} (h : Ext E1 w1 E2 w2) (k : Ext E2 w2 E3 w3) : Ext E1 w1 E3 w3 := by
  refine ⟨fun b L hb => k.φ _ _ (h.φ _ _ hb), fun r i hp => k.prot _ _ (h.prot _ _ hp), fun r i v hp hc => k.cell _ _ _ (h.prot _ _ hp) (h.cell _ _ _ hp hc), ?_, fun r hr => k.inert r (h.inert r hr)⟩
  intro t n s ht
  obtain ⟨n1, h1, hle1, he1⟩ := h.cl t n s ht
  obtain ⟨n2, h2, hle2, he2⟩ := k.cl t n1 s h1
  refine ⟨n2, h2, Nat.le_trans hle1 hle2, fun e => ?_⟩
  have e1 : n1 = n := by omega
  have e2 : n2 = n1 := by omega
  rw [he2 e2, he1 e1]

theorem VR.mono {E E' : Env} {w w' : World} (hx : Ext E w E' w') {a : AV} {v : Value} (h : VR E w a v) : VR E' w' a v := by
  induction h with
  | undef v => exact .undef v
  | bool b => exact .bool b
  | int k n => exact .int k n
  | str s => exact .str s
  | nilp => exact .nilp
  | bnil p => exact .bnil p
  | ptr b o L hL => exact .ptr b o L (hx.φ _ _ hL)
  | vp cs r o us hc hp hv ih => exact .vp cs r o us (fun j c hj => hx.cell _ _ _ (hp j c hj) (hc j c hj)) (fun j c hj => hx.prot _ _ (hp j c hj)) ih
  | nils => exact .nils
  | sl t s xs r o cap us hcap hs hc hp hv ht h0 ih =>
    refine .sl t s xs r o cap us hcap hs (fun i x j c hi hj => hx.cell _ _ _ (hp i x j c hi hj) (hc i x j c hi hj)) (fun i x j c hi hj => hx.prot _ _ (hp i x j c hi hj)) ih ?_ (fun e => hx.inert _ (h0 e))
    intro h0
    obtain ⟨n, s0, hn, hle, he⟩ := ht h0
    obtain ⟨n', hn', hle', he'⟩ := hx.cl t n s0 hn
    refine ⟨n', s0, hn', Nat.le_trans hle hle', fun e => ?_⟩
    have e1 : n' = n := by omega
    have e2 : xs.length = n := by omega
    rw [he' e1]
    exact he e2
  | sle s a => exact .sle s a
  | slr b o n s cap o' L hL hn ho => exact .slr b o n s cap o' L (hx.φ _ _ hL) hn ho
  | nilm => exact .nilm
  | map b L hL => exact .map b L (hx.φ _ _ hL)
  | nilf => exact .nilf
  | fn f first cap rf rc h1 h2 hf hc ih1 ih2 => exact .fn f first cap rf rc h1 h2 ih1 ih2
  | niliface => exact .niliface
  | iface t a v h ih => exact .iface t a v ih
  | agg cs vs h1 hv ih => exact .agg cs vs h1 ih
  | tup cs vs h1 hv ih => exact .tup cs vs h1 ih

/-- A value's cells: one by one. -/
theorem VR.cells {E : Env} {w : World} {a : AV} {v : Value} (h : VR E w a v) (hd : a ≠ .undef) :
    a.cells.length = v.cells.size ∧ ∀ (j : Nat) x u, a.cells[j]? = some x → v.cells[j]? = some u → VR E w x u := by
  have one : ∀ (b : AV) (u : Value), VR E w b u → ∀ (j : Nat) x y, [b][j]? = some x → (#[u] : Array Value)[j]? = some y → VR E w x y := by
    intro b u hb j x y hj hk
    cases j with
    | zero => simp at hj hk; subst hj; subst hk; exact hb
    | succ j => simp at hj
  cases h with
  | undef v => exact absurd rfl hd
  | agg cs vs h1 hv => exact ⟨h1, hv⟩
  | _ => refine ⟨rfl, one _ _ ?_⟩; constructor <;> assumption

inductive AObj where
  | dead
  | cells (c : List AV)
  | map (es : List (AV × AV × Nat)) (clk : Nat)
  | iter (s : List UInt8) (pos : Nat)
  deriving Inhabited

structure AH where
  obs : List AObj
  toks : List (Nat × Nat × Nat)
  deriving Inhabited

def AH.get (H : AH) (b : Nat) : AObj := (H.obs[b]?).getD .dead

def AObj.live : AObj → Bool
  | .dead => false
  | _ => true

/-- No cell below R is frozen. -/
def Unfz (fz : Nat × Nat) (R : Nat) : Prop := fz.1 = fz.2 ∨ R ≤ fz.1
theorem Unfz.no {fz : Nat × Nat} {R : Nat} (h : Unfz fz R) (i : Nat) (hi : i < R) : ¬ (fz.1 ≤ i ∧ i < fz.2) := by
  rcases h with h | h <;> omega

def ObjRel (E : Env) (w : World) (L : Ref) : AObj → Prop
  | .dead => True
  | .cells c => ∃ rc e fz, w.heap[L.r]? = some (.cells rc e fz) ∧ rc.size = L.R ∧ L.d + c.length ≤ L.R ∧
      (∀ (j : Nat) x, c[j]? = some x → ∃ u, rc[L.d + j]? = some u ∧ VR E w x u) ∧ Unfz fz L.R ∧ (∀ i, ¬ E.prot L.r i) ∧
      (∀ (j : Nat) x, c[j]? = some x → x.isB = true → lbB e rc.size (L.d + j) = true ∧ (rc[L.d + j]? = some (.pointer none) ∨ rc[L.d + j]? = some (.pointer (some ⟨L.r, L.d + j, none⟩))))
  | .map es clk => ∃ res, w.heap[L.r]? = some (.map res clk) ∧ res.size = es.length ∧ (∀ i, ¬ E.prot L.r i) ∧
      (∀ (j : Nat) x m, es[j]? = some x → res[j]? = some m → VR E w x.1 m.key ∧ VR E w x.2.1 m.val ∧ m.born = x.2.2)
  | .iter s pos => w.heap[L.r]? = some (.stringIter ⟨s.toArray⟩ pos) ∧ L.d = 0 ∧ (∀ i, ¬ E.prot L.r i)

def TokRel (E : Env) (w : World) (T : TokL) (n s te : Nat) : Prop :=
  ∃ rc e fz, w.heap[T.r]? = some (.cells rc e fz) ∧ n ≤ T.cap ∧ T.o + T.cap * s ≤ rc.size ∧
    (∀ i, T.o + n * s ≤ i → i < rc.size → ¬ (fz.1 ≤ i ∧ i < fz.2)) ∧ (∀ i, T.o + n * s ≤ i → ¬ E.prot T.r i) ∧ (te ≠ 0 → e = te ∧ T.o = 0 ∧ (fz.1 = fz.2 ∨ fz.1 = 0))

structure HRel (E : Env) (H : AH) (w : World) : Prop where
  lt : ∀ b L, E.φ b = some L → b < H.obs.length
  obj : ∀ b L, E.φ b = some L → ObjRel E w L (H.get b)
  inj : ∀ b b' L L', E.φ b = some L → E.φ b' = some L' → (H.get b).live = true → (H.get b').live = true → L.r = L'.r → b = b'
  tok : ∀ t n s, E.cl t = some (n, s) → t ≠ 0 ∧ ∃ te, H.toks[t]? = some (n, s, te) ∧ TokRel E w (E.tk t) n s te
  tinj : ∀ t t' ns ns', E.cl t = some ns → E.cl t' = some ns' → (E.tk t).r = (E.tk t').r → t = t'
  apart : ∀ b L t ns, E.φ b = some L → (H.get b).live = true → E.cl t = some ns → L.r ≠ (E.tk t).r
  prot : ∀ r i, E.prot r i → ∃ v, w.cell? ⟨r, i, none⟩ = some v
  inert : ∀ r, E.inert r → r < w.heap.size ∧ (∀ b L, E.φ b = some L → (H.get b).live = true → L.r ≠ r) ∧ (∀ t ns, E.cl t = some ns → (E.tk t).r ≠ r)

def Own (E : Env) (H : AH) (r : Nat) : Prop :=
  (∃ b L, E.φ b = some L ∧ (H.get b).live = true ∧ L.r = r) ∨ (∃ t ns, E.cl t = some ns ∧ (E.tk t).r = r)

structure Step (E : Env) (H : AH) (w : World) (E' : Env) (H' : AH) (w' : World) : Prop where
  ext : Ext E w E' w'
  os : w'.os = w.os
  tape : w'.tape = w.tape
  output : w'.output = w.output
  size : w.heap.size ≤ w'.heap.size
  keep : ∀ r, r < w.heap.size → ¬ Own E H r → ¬ Own E' H' r ∧ w'.heap[r]? = w.heap[r]?
  toks : H.toks.length ≤ H'.toks.length
  obs : H.obs.length ≤ H'.obs.length
  old : ∀ b L, b < H.obs.length → E'.φ b = some L → E.φ b = some L

theorem Step.refl (E : Env) (H : AH) (w : World) : Step E H w E H w := ⟨.refl _ _, rfl, rfl, rfl, Nat.le_refl _, fun _ _ h => ⟨h, rfl⟩, Nat.le_refl _, Nat.le_refl _, fun _ _ _ h => h⟩

theorem Step.trans {E1 E2 E3 : Env} {H1 H2 H3 : AH} {w1 w2 w3 : World} (h : Step E1 H1 w1 E2 H2 w2) (k : Step E2 H2 w2 E3 H3 w3) : Step E1 H1 w1 E3 H3 w3 := by
  refine ⟨h.ext.trans k.ext, k.os.trans h.os, k.tape.trans h.tape, k.output.trans h.output, Nat.le_trans h.size k.size, fun r hr ho => ?_, Nat.le_trans h.toks k.toks, Nat.le_trans h.obs k.obs, fun b L hb hL => h.old b L hb (k.old b L (Nat.lt_of_lt_of_le hb h.obs) hL)⟩
  obtain ⟨h1, h2⟩ := h.keep r hr ho
  obtain ⟨k1, k2⟩ := k.keep r (Nat.lt_of_lt_of_le hr h.size) h1
  exact ⟨k1, k2.trans h2⟩

end Go.SV

namespace Go.SV

variable {E E' : Env} {H H' : AH} {w w' : World}

theorem lt_of_heap {w : World} {r : Nat} {o : Obj} (h : w.heap[r]? = some o) : r < w.heap.size := by
  rcases Nat.lt_or_ge r w.heap.size with h' | h'
  · exact h'
  · simp [Array.getElem?_eq_none h'] at h

theorem lt_of_cell {w : World} {r i : Nat} {v : Value} (h : w.cell? ⟨r, i, none⟩ = some v) : r < w.heap.size := by
  unfold World.cell? at h
  split at h
  · rename_i hb; exact lt_of_heap hb
  · simp at h

theorem cell_of_block {w : World} {r : Nat} {rc : Array Value} {e : TypeId} {fz : Nat × Nat} (h : w.heap[r]? = some (.cells rc e fz)) (i : Nat) :
    w.cell? ⟨r, i, none⟩ = rc[i]? := by simp [World.cell?, h]

theorem ObjRel.lt {L : Ref} {o : AObj} (h : ObjRel E w L o) (hl : o.live = true) : L.r < w.heap.size := by
  cases o with
  | dead => simp [AObj.live] at hl
  | cells c => obtain ⟨rc, e, fz, hb, _⟩ := h; exact lt_of_heap hb
  | map es clk => obtain ⟨res, hb, _⟩ := h; exact lt_of_heap hb
  | iter s p => exact lt_of_heap h.1

theorem ObjRel.noprot {L : Ref} {o : AObj} (h : ObjRel E w L o) (hl : o.live = true) (i : Nat) : ¬ E.prot L.r i := by
  cases o with
  | dead => simp [AObj.live] at hl
  | cells c => obtain ⟨rc, e, fz, _, _, _, _, _, hp, _⟩ := h; exact hp i
  | map es clk => obtain ⟨res, _, _, hp, _⟩ := h; exact hp i
  | iter s p => exact h.2.2 i

theorem TokRel.lt {T : TokL} {n s te : Nat} (h : TokRel E w T n s te) : T.r < w.heap.size := by
  obtain ⟨rc, e, fz, hb, _⟩ := h; exact lt_of_heap hb

theorem ObjRel.frame {L : Ref} {o : AObj} (h : ObjRel E w L o) (hx : Ext E w E' w') (hb : o.live = true → w'.heap[L.r]? = w.heap[L.r]?)
    (hp : o.live = true → ∀ i, E'.prot L.r i → E.prot L.r i) : ObjRel E' w' L o := by
  cases o with
  | dead => trivial
  | cells c =>
    obtain ⟨rc, e, fz, h1, h2, h3, h4, h5, h6, h7⟩ := h
    refine ⟨rc, e, fz, (hb rfl).trans h1, h2, h3, fun j x hj => ?_, h5, fun i hi => h6 i (hp rfl i hi), h7⟩
    obtain ⟨u, hu, hv⟩ := h4 j x hj
    exact ⟨u, hu, hv.mono hx⟩
  | map es clk =>
    obtain ⟨res, h1, h2, h3, h4⟩ := h
    refine ⟨res, (hb rfl).trans h1, h2, fun i hi => h3 i (hp rfl i hi), fun j x m hj hm => ?_⟩
    obtain ⟨a, b, c⟩ := h4 j x m hj hm
    exact ⟨a.mono hx, b.mono hx, c⟩
  | iter s p => exact ⟨(hb rfl).trans h.1, h.2.1, fun i hi => h.2.2 i (hp rfl i hi)⟩

theorem TokRel.frame {T : TokL} {n s te : Nat} (h : TokRel E w T n s te) (hb : w'.heap[T.r]? = w.heap[T.r]?)
    (hp : ∀ i, E'.prot T.r i → E.prot T.r i) : TokRel E' w' T n s te := by
  obtain ⟨rc, e, fz, h1, h2, h3, h4, h5, h6⟩ := h
  exact ⟨rc, e, fz, hb.trans h1, h2, h3, h4, fun i hi hq => h5 i hi (hp i hq), h6⟩

theorem HRel.tok_lt (hH : HRel E H w) {t n s : Nat} (h : E.cl t = some (n, s)) : (E.tk t).r < w.heap.size := by
  obtain ⟨_, _, _, h2⟩ := hH.tok t n s h; exact h2.lt

/-! ### Draws -/
theorem HRel.drew (hH : HRel E H w) (n : Nat) : HRel E H { w with drawn := n } ∧ Step E H w E H { w with drawn := n } := by
  have hx : Ext E w E { w with drawn := n } := ⟨fun _ _ h => h, fun _ _ h => h, fun _ _ _ _ h => h, fun _ n _ h => ⟨n, h, Nat.le_refl _, fun _ => rfl⟩, fun _ h => h⟩
  exact ⟨⟨hH.lt, fun b L hb => (hH.obj b L hb).frame hx (fun _ => rfl) (fun _ _ h => h), hH.inj, fun t n s h => by obtain ⟨a, te, b, c⟩ := hH.tok t n s h; exact ⟨a, te, b, c.frame rfl (fun _ h => h)⟩, hH.tinj, hH.apart, hH.prot, hH.inert⟩,
    ⟨hx, rfl, rfl, rfl, Nat.le_refl _, fun r _ h => ⟨h, rfl⟩, Nat.le_refl _, Nat.le_refl _, fun _ _ _ h => h⟩⟩

/-! ### A new block -/
theorem heap_alloc_lt (w : World) (o : Obj) {r : Nat} (h : r < w.heap.size) : (w.alloc o).heap[r]? = w.heap[r]? := by
  show (w.heap.push o)[r]? = _
  rw [Array.getElem?_push, if_neg (by omega)]
theorem heap_alloc_new (w : World) (o : Obj) : (w.alloc o).heap[w.heap.size]? = some o := by
  show (w.heap.push o)[w.heap.size]? = _
  rw [Array.getElem?_push, if_pos rfl]

theorem HRel.noprot_new (hH : HRel E H w) (i : Nat) : ¬ E.prot w.heap.size i := fun h => by
  obtain ⟨v, hv⟩ := hH.prot _ _ h
  exact absurd (lt_of_cell hv) (Nat.lt_irrefl _)

theorem AH.get_append_lt {l : List AObj} {tk : List (Nat × Nat × Nat)} {b : Nat} (H : AH) (h : b < H.obs.length) : AH.get ⟨H.obs ++ l, tk⟩ b = H.get b := by
  simp [AH.get, List.getElem?_append_left h]
theorem AH.get_append_new {o : AObj} {tk : List (Nat × Nat × Nat)} (H : AH) : AH.get ⟨H.obs ++ [o], tk⟩ H.obs.length = o := by
  simp [AH.get]

def Env.addRef (E : Env) (b : Nat) (L : Ref) : Env := { E with φ := fun x => if x = b then some L else E.φ x }

theorem HRel.allocRef (hH : HRel E H w) (o : Obj) (o' : AObj) (L : Ref) (hr : L.r = w.heap.size)
    (hobj : ∀ E', Ext E w E' (w.alloc o) → (∀ i, ¬ E'.prot L.r i) → ObjRel E' (w.alloc o) L o') :
    HRel (E.addRef H.obs.length L) ⟨H.obs ++ [o'], H.toks⟩ (w.alloc o) ∧ Step E H w (E.addRef H.obs.length L) ⟨H.obs ++ [o'], H.toks⟩ (w.alloc o) ∧ (E.addRef H.obs.length L).φ H.obs.length = some L := by
  have hφ : ∀ b L', E.φ b = some L' → (E.addRef H.obs.length L).φ b = some L' := by
    intro b L' hb
    have := hH.lt b L' hb
    simp only [Env.addRef]
    rw [if_neg (by omega)]
    exact hb
  have hold : ∀ b L', (E.addRef H.obs.length L).φ b = some L' → (b = H.obs.length ∧ L' = L) ∨ (b < H.obs.length ∧ E.φ b = some L') := by
    intro b L' hb
    simp only [Env.addRef] at hb
    split at hb
    · rename_i e; exact .inl ⟨e, by injection hb with hb; exact hb.symm⟩
    · exact .inr ⟨hH.lt b L' hb, hb⟩
  have hx : Ext E w (E.addRef H.obs.length L) (w.alloc o) := by
    refine ⟨hφ, fun _ _ h => h, fun r i v _ hc => ?_, fun _ n _ h => ⟨n, h, Nat.le_refl _, fun _ => rfl⟩, fun _ h => h⟩
    rw [World.cell?_alloc_lt _ _ _ (lt_of_cell hc)]; exact hc
  have hnp : ∀ i, ¬ (E.addRef H.obs.length L).prot L.r i := fun i => by rw [hr]; exact hH.noprot_new i
  refine ⟨⟨?_, ?_, ?_, ?_, hH.tinj, ?_, ?_, ?_⟩, ⟨hx, rfl, rfl, rfl, by simp, ?_, Nat.le_refl _, by simp, fun b L' hb h => (hold b L' h).elim (fun e => absurd e.1 (by omega)) (fun h => h.2)⟩, by simp [Env.addRef]⟩
  · intro b L' hb
    rcases hold b L' hb with ⟨rfl, _⟩ | ⟨h, _⟩ <;> simp
    omega
  · intro b L' hb
    rcases hold b L' hb with ⟨rfl, rfl⟩ | ⟨h, hb'⟩
    · rw [AH.get_append_new]; exact hobj _ hx hnp
    · rw [AH.get_append_lt _ h]
      exact (hH.obj b L' hb').frame hx (fun hl => heap_alloc_lt _ _ ((hH.obj b L' hb').lt hl)) (fun _ _ h => h)
  · intro b b' L1 L2 hb hb' hl hl' he
    rcases hold b L1 hb with ⟨rfl, rfl⟩ | ⟨h, h1⟩ <;> rcases hold b' L2 hb' with ⟨rfl, rfl⟩ | ⟨h', h2⟩
    · rfl
    · rw [AH.get_append_lt _ h'] at hl'
      have := (hH.obj b' L2 h2).lt hl'
      omega
    · rw [AH.get_append_lt _ h] at hl
      have := (hH.obj b L1 h1).lt hl
      omega
    · rw [AH.get_append_lt _ h] at hl
      rw [AH.get_append_lt _ h'] at hl'
      exact hH.inj b b' L1 L2 h1 h2 hl hl' he
  · intro t n s ht
    obtain ⟨h0, te', h1, h2⟩ := hH.tok t n s ht
    exact ⟨h0, te', h1, h2.frame (heap_alloc_lt _ _ h2.lt) (fun _ h => h)⟩
  · intro b L' t ns hb hl ht
    rcases hold b L' hb with ⟨rfl, rfl⟩ | ⟨h, hb'⟩
    · obtain ⟨n, s⟩ := ns
      have := hH.tok_lt ht
      show L'.r ≠ (E.tk t).r
      omega
    · rw [AH.get_append_lt _ h] at hl
      exact hH.apart b L' t ns hb' hl ht
  · intro r i hp
    obtain ⟨v, hv⟩ := hH.prot r i hp
    exact ⟨v, hx.cell r i v hp hv⟩
  · intro r hi
    obtain ⟨i1, i2, i3⟩ := hH.inert r hi
    refine ⟨by simp; omega, fun b L' hb hl => ?_, i3⟩
    rcases hold b L' hb with ⟨rfl, rfl⟩ | ⟨h, hb'⟩
    · omega
    · rw [AH.get_append_lt _ h] at hl
      exact i2 b L' hb' hl
  · intro r hr' ho
    refine ⟨?_, heap_alloc_lt _ _ hr'⟩
    rintro (⟨b, L', hb, hl, he⟩ | ⟨t, ns, ht, he⟩)
    · rcases hold b L' hb with ⟨rfl, rfl⟩ | ⟨h, hb'⟩
      · omega
      · rw [AH.get_append_lt _ h] at hl
        exact ho (.inl ⟨b, L', hb', hl, he⟩)
    · exact ho (.inr ⟨t, ns, ht, he⟩)

/-- A new row that nobody will write: its first n cells are protected. -/
def Env.addProt (E : Env) (r n : Nat) : Env := { E with prot := fun x i => E.prot x i ∨ (x = r ∧ i < n), inert := fun x => E.inert x ∨ x = r }

theorem HRel.allocRow (hH : HRel E H w) (rc : Array Value) (e : TypeId) (fz : Nat × Nat) (n : Nat) (hn : n ≤ rc.size) :
    HRel (E.addProt w.heap.size n) H (w.alloc (.cells rc e fz)) ∧ Step E H w (E.addProt w.heap.size n) H (w.alloc (.cells rc e fz)) := by
  have hx : Ext E w (E.addProt w.heap.size n) (w.alloc (.cells rc e fz)) := by
    refine ⟨fun _ _ h => h, fun _ _ h => .inl h, fun r i v _ hc => ?_, fun _ n _ h => ⟨n, h, Nat.le_refl _, fun _ => rfl⟩, fun _ h => .inl h⟩
    rw [World.cell?_alloc_lt _ _ _ (lt_of_cell hc)]; exact hc
  refine ⟨⟨hH.lt, ?_, hH.inj, ?_, hH.tinj, hH.apart, ?_, ?_⟩, ⟨hx, rfl, rfl, rfl, by simp, fun r hr ho => ⟨ho, heap_alloc_lt _ _ hr⟩, Nat.le_refl _, Nat.le_refl _, fun _ _ _ h => h⟩⟩
  · intro b L hb
    refine (hH.obj b L hb).frame hx (fun hl => heap_alloc_lt _ _ ((hH.obj b L hb).lt hl)) (fun hl i h => ?_)
    have := (hH.obj b L hb).lt hl
    rcases h with h | ⟨h, _⟩
    · exact h
    · omega
  · intro t m s ht
    obtain ⟨h0, te', h1, h2⟩ := hH.tok t m s ht
    refine ⟨h0, te', h1, h2.frame (heap_alloc_lt _ _ h2.lt) (fun i h => ?_)⟩
    have h3 : (E.tk t).r < w.heap.size := h2.lt
    rcases h with h | ⟨h, _⟩
    · exact h
    · have h4 : (E.tk t).r = w.heap.size := h
      omega
  · intro r i hp
    rcases hp with hp | ⟨rfl, hi⟩
    · obtain ⟨v, hv⟩ := hH.prot r i hp
      exact ⟨v, hx.cell r i v hp hv⟩
    · refine ⟨rc[i], ?_⟩
      rw [cell_of_block (heap_alloc_new _ _)]
      simp [show i < rc.size from Nat.lt_of_lt_of_le hi hn]
  · intro r hi
    rcases hi with hi | rfl
    · obtain ⟨i1, i2, i3⟩ := hH.inert r hi
      exact ⟨by simp; omega, i2, i3⟩
    · refine ⟨by simp, fun b L hb hl => ?_, fun t ns ht => ?_⟩
      · have := (hH.obj b L hb).lt hl
        omega
      · obtain ⟨n', s'⟩ := ns
        have := hH.tok_lt ht
        show (E.tk t).r ≠ _
        omega

/-- A new row that may be appended to: a new token. -/
def Env.addTok (E : Env) (t n s : Nat) (T : TokL) : Env :=
  { E with prot := fun x i => E.prot x i ∨ (x = T.r ∧ T.o ≤ i ∧ i < T.o + n * s), cl := fun x => if x = t then some (n, s) else E.cl x, tk := fun x => if x = t then T else E.tk x }

theorem HRel.toks_lt (hH : HRel E H w) {t : Nat} {ns : Nat × Nat} (h : E.cl t = some ns) : t < H.toks.length := by
  obtain ⟨n, s⟩ := ns
  obtain ⟨_, te, this, _⟩ := hH.tok t n s h
  rcases Nat.lt_or_ge t H.toks.length with h' | h'
  · exact h'
  · simp [List.getElem?_eq_none h'] at this

theorem HRel.allocTok (hH : HRel E H w) (h0 : 0 < H.toks.length) (rc : Array Value) (e : TypeId) (n s cap : Nat) (hn : n ≤ cap) (hc : cap * s ≤ rc.size) (fz : Nat × Nat)
    (hfz : ∀ i, i < rc.size → ¬ (fz.1 ≤ i ∧ i < fz.2)) (te : Nat) (hte : te ≠ 0 → e = te ∧ (fz.1 = fz.2 ∨ fz.1 = 0)) :
    HRel (E.addTok H.toks.length n s ⟨w.heap.size, 0, cap⟩) ⟨H.obs, H.toks ++ [(n, s, te)]⟩ (w.alloc (.cells rc e fz)) ∧
    Step E H w (E.addTok H.toks.length n s ⟨w.heap.size, 0, cap⟩) ⟨H.obs, H.toks ++ [(n, s, te)]⟩ (w.alloc (.cells rc e fz)) := by
  have hns : n * s ≤ rc.size := Nat.le_trans (Nat.mul_le_mul_right s hn) hc
  have hcl : ∀ t ns, (E.addTok H.toks.length n s ⟨w.heap.size, 0, cap⟩).cl t = some ns → (t = H.toks.length ∧ ns = (n, s)) ∨ (t < H.toks.length ∧ E.cl t = some ns) := by
    intro t ns h
    simp only [Env.addTok] at h
    split at h
    · rename_i e; exact .inl ⟨e, by injection h with h; exact h.symm⟩
    · exact .inr ⟨hH.toks_lt h, h⟩
  have htk : ∀ t, t < H.toks.length → (E.addTok H.toks.length n s ⟨w.heap.size, 0, cap⟩).tk t = E.tk t := by
    intro t ht
    simp only [Env.addTok]
    rw [if_neg (by omega)]
  have htn : (E.addTok H.toks.length n s ⟨w.heap.size, 0, cap⟩).tk H.toks.length = ⟨w.heap.size, 0, cap⟩ := by simp [Env.addTok]
  have hx : Ext E w (E.addTok H.toks.length n s ⟨w.heap.size, 0, cap⟩) (w.alloc (.cells rc e fz)) := by
    refine ⟨fun _ _ h => h, fun _ _ h => .inl h, fun r i v _ hc => ?_, fun t n' s' h => ⟨n', ?_, Nat.le_refl _, fun _ => htk t (hH.toks_lt h)⟩, fun _ h => h⟩
    · rw [World.cell?_alloc_lt _ _ _ (lt_of_cell hc)]; exact hc
    · have := hH.toks_lt h
      simp only [Env.addTok]
      rw [if_neg (by omega)]
      exact h
  refine ⟨⟨hH.lt, ?_, hH.inj, ?_, ?_, ?_, ?_, ?_⟩, ⟨hx, rfl, rfl, rfl, by simp, fun r hr ho => ⟨?_, heap_alloc_lt _ _ hr⟩, by simp, Nat.le_refl _, fun _ _ _ h => h⟩⟩
  · intro b L hb
    refine (hH.obj b L hb).frame hx (fun hl => heap_alloc_lt _ _ ((hH.obj b L hb).lt hl)) (fun hl i h => ?_)
    have := (hH.obj b L hb).lt hl
    rcases h with h | ⟨h, _⟩
    · exact h
    · exact absurd h (by show L.r ≠ w.heap.size; omega)
  · intro t m s' ht
    rcases hcl t _ ht with ⟨rfl, he⟩ | ⟨hlt, ht'⟩
    · injection he with e1 e2
      subst e1; subst e2
      refine ⟨by omega, te, by simp, ?_⟩
      rw [htn]
      refine ⟨rc, e, fz, heap_alloc_new _ _, hn, by simpa using hc, fun i _ hi => hfz i hi, fun i hi hp => ?_, fun h => ⟨(hte h).1, rfl, (hte h).2⟩⟩
      rcases hp with hp | ⟨_, _, hp⟩
      · exact hH.noprot_new i hp
      · exact absurd hp (by simp at hi ⊢; exact hi)
    · obtain ⟨h0, te', h1, h2⟩ := hH.tok t m s' ht'
      refine ⟨h0, te', by simp [List.getElem?_append_left hlt, h1], ?_⟩
      rw [htk t hlt]
      refine h2.frame (heap_alloc_lt _ _ h2.lt) (fun i h => ?_)
      have := h2.lt
      rcases h with h | ⟨h, _⟩
      · exact h
      · exact absurd h (by show (E.tk t).r ≠ w.heap.size; omega)
  · intro t t' ns ns' ht ht' he
    rcases hcl t _ ht with ⟨rfl, _⟩ | ⟨hlt, h1⟩ <;> rcases hcl t' _ ht' with ⟨rfl, _⟩ | ⟨hlt', h2⟩
    · rfl
    · rw [htn, htk t' hlt'] at he
      obtain ⟨a, b⟩ := ns'
      have := hH.tok_lt h2
      simp only at he
      omega
    · rw [htn, htk t hlt] at he
      obtain ⟨a, b⟩ := ns
      have := hH.tok_lt h1
      simp only at he
      omega
    · rw [htk t hlt, htk t' hlt'] at he
      exact hH.tinj t t' ns ns' h1 h2 he
  · intro b L t ns hb hl ht
    rcases hcl t _ ht with ⟨rfl, _⟩ | ⟨hlt, h1⟩
    · rw [htn]
      have := (hH.obj b L hb).lt hl
      show L.r ≠ w.heap.size
      omega
    · rw [htk t hlt]; exact hH.apart b L t ns hb hl h1
  · intro r i hp
    rcases hp with hp | ⟨hr, _, hi⟩
    · obtain ⟨v, hv⟩ := hH.prot r i hp
      exact ⟨v, hx.cell r i v hp hv⟩
    · have hr' : r = w.heap.size := hr
      subst hr'
      have hi' : i < rc.size := by simp at hi; omega
      refine ⟨rc[i], ?_⟩
      rw [cell_of_block (heap_alloc_new _ _)]
      simp [hi']
  · intro r hi
    obtain ⟨i1, i2, i3⟩ := hH.inert r hi
    refine ⟨by simp; omega, i2, fun t ns ht => ?_⟩
    rcases hcl t _ ht with ⟨rfl, _⟩ | ⟨hlt, h1⟩
    · rw [htn]; show w.heap.size ≠ r; omega
    · rw [htk t hlt]; exact i3 t ns h1
  · rintro (⟨b, L', hb, hl, he⟩ | ⟨t, ns, ht, he⟩)
    · exact ho (.inl ⟨b, L', hb, hl, he⟩)
    · rcases hcl t _ ht with ⟨rfl, _⟩ | ⟨hlt, h1⟩
      · rw [htn] at he; simp only at he; omega
      · rw [htk t hlt] at he; exact ho (.inr ⟨t, ns, h1, he⟩)

end Go.SV

namespace Go.SV

variable {E E' : Env} {H H' : AH} {w w' : World}

def putBlock (w : World) (r : Nat) (O : Obj) : World := { w with heap := w.heap.setIfInBounds r O }

theorem heap_put_ne (w : World) {r r' : Nat} (O : Obj) (h : r' ≠ r) : (putBlock w r O).heap[r']? = w.heap[r']? := by
  simp only [putBlock]
  rw [Array.getElem?_setIfInBounds_ne (Ne.symm h)]
theorem heap_put_same (w : World) {r : Nat} (O : Obj) (h : r < w.heap.size) : (putBlock w r O).heap[r]? = some O := by
  simp only [putBlock]
  rw [Array.getElem?_setIfInBounds_self, if_pos h]
theorem size_put (w : World) (r : Nat) (O : Obj) : (putBlock w r O).heap.size = w.heap.size := by simp [putBlock]
theorem cell_put_ne (w : World) {r r' i : Nat} (O : Obj) (h : r' ≠ r) : (putBlock w r O).cell? ⟨r', i, none⟩ = w.cell? ⟨r', i, none⟩ := by
  simp only [World.cell?, heap_put_ne w O h]

theorem get_set_ne (H : AH) {b b' : Nat} (o : AObj) (tk : List (Nat × Nat × Nat)) (h : b' ≠ b) : AH.get ⟨H.obs.set b o, tk⟩ b' = H.get b' := by
  simp only [AH.get]
  rw [List.getElem?_set_ne (Ne.symm h)]
theorem get_set_same (H : AH) {b : Nat} (o : AObj) (tk : List (Nat × Nat × Nat)) (h : b < H.obs.length) : AH.get ⟨H.obs.set b o, tk⟩ b = o := by
  simp [AH.get, h]

theorem HRel.putRef (hH : HRel E H w) {b : Nat} {L : Ref} (hb : E.φ b = some L) (hl : (H.get b).live = true) (O : Obj) (o' : AObj)
    (hobj : Ext E w E (putBlock w L.r O) → (∀ i, ¬ E.prot L.r i) → ObjRel E (putBlock w L.r O) L o') :
    HRel E ⟨H.obs.set b o', H.toks⟩ (putBlock w L.r O) ∧ Step E H w E ⟨H.obs.set b o', H.toks⟩ (putBlock w L.r O) := by
  have hnp := (hH.obj b L hb).noprot hl
  have hblt := hH.lt b L hb
  have hx : Ext E w E (putBlock w L.r O) := by
    refine ⟨fun _ _ h => h, fun _ _ h => h, fun r i v hp hc => ?_, fun _ n _ h => ⟨n, h, Nat.le_refl _, fun _ => rfl⟩, fun _ h => h⟩
    rw [cell_put_ne _ _ (fun (e : r = L.r) => hnp i (by rw [← e]; exact hp))]; exact hc
  have hlive : ∀ b', b' ≠ b → AH.get ⟨H.obs.set b o', H.toks⟩ b' = H.get b' := fun b' h => get_set_ne H o' _ h
  have hdiff : ∀ b' L', E.φ b' = some L' → b' ≠ b → (H.get b').live = true → L'.r ≠ L.r := fun b' L' hb' hne hl' he => hne (hH.inj b' b L' L hb' hb hl' hl he)
  refine ⟨⟨?_, ?_, ?_, ?_, hH.tinj, ?_, ?_, ?_⟩, ⟨hx, rfl, rfl, rfl, by rw [size_put]; exact Nat.le_refl _, ?_, Nat.le_refl _, by simp, fun _ _ _ h => h⟩⟩
  · intro b' L' h; simp; exact hH.lt b' L' h
  · intro b' L' h
    by_cases e : b' = b
    · subst e
      rw [hb] at h; injection h with h; subst h
      rw [get_set_same H o' _ hblt]
      exact hobj hx hnp
    · rw [hlive b' e]
      exact (hH.obj b' L' h).frame hx (fun hl' => heap_put_ne _ _ (hdiff b' L' h e hl')) (fun _ _ h => h)
  · intro b1 b2 L1 L2 h1 h2 hl1 hl2 he
    by_cases e1 : b1 = b <;> by_cases e2 : b2 = b
    · rw [e1, e2]
    · subst e1
      rw [hlive b2 e2] at hl2
      rw [hb] at h1; injection h1 with h1; subst h1
      exact absurd he.symm (hdiff b2 L2 h2 e2 hl2)
    · subst e2
      rw [hlive b1 e1] at hl1
      rw [hb] at h2; injection h2 with h2; subst h2
      exact absurd he (hdiff b1 L1 h1 e1 hl1)
    · rw [hlive b1 e1] at hl1
      rw [hlive b2 e2] at hl2
      exact hH.inj b1 b2 L1 L2 h1 h2 hl1 hl2 he
  · intro t n s ht
    obtain ⟨h0, te', h1, h2⟩ := hH.tok t n s ht
    exact ⟨h0, te', h1, h2.frame (heap_put_ne _ _ (Ne.symm (hH.apart b L t (n, s) hb hl ht))) (fun _ h => h)⟩
  · intro b' L' t ns h hl' ht
    by_cases e : b' = b
    · subst e
      rw [hb] at h; injection h with h; subst h
      exact hH.apart b' L t ns hb hl ht
    · rw [hlive b' e] at hl'
      exact hH.apart b' L' t ns h hl' ht
  · intro r i hp
    obtain ⟨v, hv⟩ := hH.prot r i hp
    exact ⟨v, hx.cell r i v hp hv⟩
  · intro r hi
    obtain ⟨i1, i2, i3⟩ := hH.inert r hi
    refine ⟨by rw [size_put]; exact i1, fun b' L' h hl' => ?_, i3⟩
    by_cases e : b' = b
    · subst e
      rw [hb] at h; injection h with h; subst h
      exact i2 b' L hb hl
    · rw [hlive b' e] at hl'
      exact i2 b' L' h hl'
  · intro r hr ho
    have hne : r ≠ L.r := fun e => ho (.inl ⟨b, L, hb, hl, e.symm⟩)
    refine ⟨?_, heap_put_ne _ _ hne⟩
    rintro (⟨b', L', h, hl', he⟩ | ⟨t, ns, ht, he⟩)
    · by_cases e : b' = b
      · subst e
        rw [hb] at h; injection h with h; subst h
        exact hne he.symm
      · rw [hlive b' e] at hl'
        exact ho (.inl ⟨b', L', h, hl', he⟩)
    · exact ho (.inr ⟨t, ns, ht, he⟩)

/-- A row that is given up. -/
theorem HRel.kill (hH : HRel E H w) (b : Nat) :
    HRel E ⟨H.obs.set b .dead, H.toks⟩ w ∧ Step E H w E ⟨H.obs.set b .dead, H.toks⟩ w := by
  have hg : ∀ b', (AH.get ⟨H.obs.set b .dead, H.toks⟩ b').live = true → AH.get ⟨H.obs.set b .dead, H.toks⟩ b' = H.get b' ∧ b' ≠ b := by
    intro b' hl
    by_cases e : b' = b
    · subst e
      rcases Nat.lt_or_ge b' H.obs.length with h | h
      · rw [get_set_same H _ _ h] at hl; simp [AObj.live] at hl
      · simp [AH.get, List.getElem?_eq_none (show (H.obs.set b' .dead).length ≤ b' by simpa using h), AObj.live] at hl
    · exact ⟨get_set_ne H _ _ e, e⟩
  refine ⟨⟨?_, ?_, ?_, hH.tok, hH.tinj, ?_, hH.prot, fun r hi => ⟨(hH.inert r hi).1, fun b' L' h hl => by have g := hg b' hl; rw [g.1] at hl; exact (hH.inert r hi).2.1 b' L' h hl, (hH.inert r hi).2.2⟩⟩, ⟨.refl _ _, rfl, rfl, rfl, Nat.le_refl _, fun r hr ho => ⟨?_, rfl⟩, Nat.le_refl _, by simp, fun _ _ _ h => h⟩⟩
  · intro b' L' h; simp; exact hH.lt b' L' h
  · intro b' L' h
    cases hl : (AH.get ⟨H.obs.set b .dead, H.toks⟩ b').live with
    | true => rw [(hg b' hl).1]; exact hH.obj b' L' h
    | false =>
      generalize AH.get ⟨H.obs.set b .dead, H.toks⟩ b' = o at hl
      cases o <;> simp [AObj.live] at hl
      trivial
  · intro b1 b2 L1 L2 h1 h2 hl1 hl2 he
    have g1 := hg b1 hl1; have g2 := hg b2 hl2
    rw [g1.1] at hl1; rw [g2.1] at hl2
    exact hH.inj b1 b2 L1 L2 h1 h2 hl1 hl2 he
  · intro b' L' t ns h hl ht
    have g := hg b' hl
    rw [g.1] at hl
    exact hH.apart b' L' t ns h hl ht
  · rintro (⟨b', L', h, hl, he⟩ | ⟨t, ns, ht, he⟩)
    · have g := hg b' hl
      rw [g.1] at hl
      exact ho (.inl ⟨b', L', h, hl, he⟩)
    · exact ho (.inr ⟨t, ns, ht, he⟩)

/-- A row that grows in place: the old one is given up, a new one lies where it lay. -/
theorem HRel.regrow (hH : HRel E H w) {b : Nat} {L : Ref} (hb : E.φ b = some L) (hl : (H.get b).live = true) (O : Obj) (o' : AObj) (L' : Ref) (hr : L'.r = L.r)
    (hobj : ∀ E', Ext E w E' (putBlock w L.r O) → (∀ i, ¬ E'.prot L.r i) → ObjRel E' (putBlock w L.r O) L' o') :
    HRel (E.addRef H.obs.length L') ⟨H.obs.set b .dead ++ [o'], H.toks⟩ (putBlock w L.r O) ∧
    Step E H w (E.addRef H.obs.length L') ⟨H.obs.set b .dead ++ [o'], H.toks⟩ (putBlock w L.r O) ∧ (E.addRef H.obs.length L').φ H.obs.length = some L' := by
  have hnp := (hH.obj b L hb).noprot hl
  have hblt := hH.lt b L hb
  have hφ : ∀ c L1, E.φ c = some L1 → (E.addRef H.obs.length L').φ c = some L1 := by
    intro c L1 hc
    have := hH.lt c L1 hc
    simp only [Env.addRef]
    rw [if_neg (by omega)]
    exact hc
  have hold : ∀ c L1, (E.addRef H.obs.length L').φ c = some L1 → (c = H.obs.length ∧ L1 = L') ∨ (c < H.obs.length ∧ E.φ c = some L1) := by
    intro c L1 hc
    simp only [Env.addRef] at hc
    split at hc
    · rename_i e; exact .inl ⟨e, by injection hc with hc; exact hc.symm⟩
    · exact .inr ⟨hH.lt c L1 hc, hc⟩
  have hx : Ext E w (E.addRef H.obs.length L') (putBlock w L.r O) := by
    refine ⟨hφ, fun _ _ h => h, fun r i v hp hc => ?_, fun _ n _ h => ⟨n, h, Nat.le_refl _, fun _ => rfl⟩, fun _ h => h⟩
    rw [cell_put_ne _ _ (fun (e : r = L.r) => hnp i (by rw [← e]; exact hp))]; exact hc
  have hnew : AH.get ⟨H.obs.set b .dead ++ [o'], H.toks⟩ H.obs.length = o' := by
    simp [AH.get]
  have hsame : ∀ c, c < H.obs.length → c ≠ b → AH.get ⟨H.obs.set b .dead ++ [o'], H.toks⟩ c = H.get c := by
    intro c hc hne
    simp only [AH.get]
    rw [List.getElem?_append_left (by simpa using hc), List.getElem?_set_ne (Ne.symm hne)]
  have hdead : AH.get ⟨H.obs.set b .dead ++ [o'], H.toks⟩ b = .dead := by
    simp only [AH.get]
    rw [List.getElem?_append_left (by simpa using hblt)]
    simp [hblt]
  have hdiff : ∀ c L1, E.φ c = some L1 → c ≠ b → (H.get c).live = true → L1.r ≠ L.r := fun c L1 hc hne hl' he => hne (hH.inj c b L1 L hc hb hl' hl he)
  have hcase : ∀ c L1, (E.addRef H.obs.length L').φ c = some L1 → (AH.get ⟨H.obs.set b .dead ++ [o'], H.toks⟩ c).live = true →
      (c = H.obs.length ∧ L1 = L') ∨ (c < H.obs.length ∧ c ≠ b ∧ E.φ c = some L1 ∧ (H.get c).live = true ∧ L1.r ≠ L.r) := by
    intro c L1 hc hlc
    rcases hold c L1 hc with h | ⟨h, h1⟩
    · exact .inl h
    · by_cases e : c = b
      · subst e; rw [hdead] at hlc; simp [AObj.live] at hlc
      · rw [hsame c h e] at hlc
        exact .inr ⟨h, e, h1, hlc, hdiff c L1 h1 e hlc⟩
  refine ⟨⟨?_, ?_, ?_, ?_, hH.tinj, ?_, ?_, ?_⟩, ⟨hx, rfl, rfl, rfl, by rw [size_put]; exact Nat.le_refl _, ?_, Nat.le_refl _, by simp, fun c L1 hc h => (hold c L1 h).elim (fun e => absurd e.1 (by omega)) (fun h => h.2)⟩, by simp [Env.addRef]⟩
  · intro c L1 hc
    rcases hold c L1 hc with ⟨rfl, _⟩ | ⟨h, _⟩ <;> simp
    omega
  · intro c L1 hc
    rcases hold c L1 hc with ⟨rfl, rfl⟩ | ⟨h, h1⟩
    · rw [hnew]; exact hobj _ hx hnp
    · by_cases e : c = b
      · subst e; rw [hdead]; trivial
      · rw [hsame c h e]
        exact (hH.obj c L1 h1).frame hx (fun hl' => heap_put_ne _ _ (hdiff c L1 h1 e hl')) (fun _ _ h => h)
  · intro b1 b2 L1 L2 h1 h2 hl1 hl2 he
    rcases hcase b1 L1 h1 hl1 with ⟨rfl, rfl⟩ | ⟨_, _, p1, p2, p3⟩ <;> rcases hcase b2 L2 h2 hl2 with ⟨rfl, rfl⟩ | ⟨_, _, q1, q2, q3⟩
    · rfl
    · exact absurd (he.symm.trans hr) q3
    · exact absurd (he.trans hr) p3
    · exact hH.inj b1 b2 L1 L2 p1 q1 p2 q2 he
  · intro t n s ht
    obtain ⟨h0, te', h1, h2⟩ := hH.tok t n s ht
    exact ⟨h0, te', h1, h2.frame (heap_put_ne _ _ (Ne.symm (hH.apart b L t (n, s) hb hl ht))) (fun _ h => h)⟩
  · intro c L1 t ns hc hlc ht
    rcases hcase c L1 hc hlc with ⟨rfl, rfl⟩ | ⟨_, _, p1, p2, p3⟩
    · rw [hr]; exact hH.apart b L t ns hb hl ht
    · exact hH.apart c L1 t ns p1 p2 ht
  · intro r i hp
    obtain ⟨v, hv⟩ := hH.prot r i hp
    exact ⟨v, hx.cell r i v hp hv⟩
  · intro r hi
    obtain ⟨i1, i2, i3⟩ := hH.inert r hi
    refine ⟨by rw [size_put]; exact i1, fun c L1 hc hlc => ?_, i3⟩
    rcases hcase c L1 hc hlc with ⟨rfl, rfl⟩ | ⟨_, _, p1, p2, p3⟩
    · rw [hr]; exact i2 b L hb hl
    · exact i2 c L1 p1 p2
  · intro r hr' ho
    have hne : r ≠ L.r := fun e => ho (.inl ⟨b, L, hb, hl, e.symm⟩)
    refine ⟨?_, heap_put_ne _ _ hne⟩
    rintro (⟨c, L1, hc, hlc, he⟩ | ⟨t, ns, ht, he⟩)
    · rcases hcase c L1 hc hlc with ⟨rfl, rfl⟩ | ⟨_, _, p1, p2, p3⟩
      · exact hne (he.symm.trans hr)
      · exact ho (.inl ⟨c, L1, p1, p2, he⟩)
    · exact ho (.inr ⟨t, ns, ht, he⟩)

/-- A row that will be written no more: its cells are protected from here on. -/
def Env.addSeal (E : Env) (r o n : Nat) : Env := { E with prot := fun x i => E.prot x i ∨ (x = r ∧ o ≤ i ∧ i < o + n), inert := fun x => E.inert x ∨ x = r }

theorem HRel.sealR (hH : HRel E H w) {b : Nat} {L : Ref} (hb : E.φ b = some L) (hl : (H.get b).live = true) (o n : Nat)
    (hn : ∀ i, i < n → ∃ v, w.cell? ⟨L.r, o + i, none⟩ = some v) :
    HRel (E.addSeal L.r o n) ⟨H.obs.set b .dead, H.toks⟩ w ∧
    Step E H w (E.addSeal L.r o n) ⟨H.obs.set b .dead, H.toks⟩ w := by
  obtain ⟨hK, sK⟩ := hH.kill b
  have hx : Ext E w (E.addSeal L.r o n) w :=
    ⟨fun _ _ h => h, fun _ _ h => .inl h, fun _ _ _ _ h => h, fun _ n _ h => ⟨n, h, Nat.le_refl _, fun _ => rfl⟩, fun _ h => .inl h⟩
  refine ⟨⟨hK.lt, ?_, hK.inj, ?_, hK.tinj, hK.apart, ?_, ?_⟩, ⟨hx, rfl, rfl, rfl, Nat.le_refl _, fun r hr ho => ⟨(sK.keep r hr ho).1, rfl⟩, Nat.le_refl _, by simp, fun _ _ _ h => h⟩⟩
  · intro b' L' h
    refine (hK.obj b' L' h).frame hx (fun _ => rfl) (fun hl' i hp => ?_)
    rcases hp with hp | ⟨he, _⟩
    · exact hp
    · exfalso
      by_cases e : b' = b
      · subst e
        rw [get_set_same H _ _ (hH.lt _ _ h)] at hl'; simp [AObj.live] at hl'
      · rw [get_set_ne H _ _ e] at hl'
        exact e (hH.inj b' b L' L h hb hl' hl he)
  · intro t n' s ht
    obtain ⟨h0, te', h1, h2⟩ := hK.tok t n' s ht
    refine ⟨h0, te', h1, h2.frame rfl (fun i hp => ?_)⟩
    rcases hp with hp | ⟨he, _⟩
    · exact hp
    · exact absurd he.symm (hH.apart b L t (n', s) hb hl ht)
  · intro r i hp
    rcases hp with hp | ⟨rfl, h1, h2⟩
    · exact hH.prot r i hp
    · obtain ⟨v, hv⟩ := hn (i - o) (by omega)
      rw [show o + (i - o) = i by omega] at hv
      exact ⟨v, hv⟩
  · intro r hi
    rcases hi with hi | rfl
    · exact hK.inert r hi
    · refine ⟨(hH.obj b L hb).lt hl, fun b' L' h hl' he => ?_, fun t ns ht he => hH.apart b L t ns hb hl ht he.symm⟩
      by_cases e : b' = b
      · subst e
        rw [get_set_same H _ _ (hH.lt _ _ h)] at hl'; simp [AObj.live] at hl'
      · rw [get_set_ne H _ _ e] at hl'
        exact e (hH.inj b' b L' L h hb hl' hl he)

/-- A row of a token takes more elements where it lies. -/
def Env.growTok (E : Env) (t n s : Nat) (T : TokL) : Env :=
  { E with prot := fun x i => E.prot x i ∨ (x = T.r ∧ T.o ≤ i ∧ i < T.o + n * s), cl := fun x => if x = t then some (n, s) else E.cl x, tk := fun x => if x = t then T else E.tk x }

theorem HRel.putTok (hH : HRel E H w) {t n s m : Nat} (ht : E.cl t = some (n, s)) {rc rc' : Array Value} {e : TypeId} {fz : Nat × Nat}
    (hb : w.heap[(E.tk t).r]? = some (.cells rc e fz)) (hsz : rc'.size = rc.size) (hlow : ∀ i, i < (E.tk t).o + n * s → rc'[i]? = rc[i]?) (hcap : n + m ≤ (E.tk t).cap) (te : Nat) (hte : te ≠ 0 → e = te ∧ (E.tk t).o = 0 ∧ (fz.1 = fz.2 ∨ fz.1 = 0)) :
    HRel (E.growTok t (n + m) s (E.tk t)) ⟨H.obs, H.toks.set t (n + m, s, te)⟩ (putBlock w (E.tk t).r (.cells rc' e fz)) ∧
    Step E H w (E.growTok t (n + m) s (E.tk t)) ⟨H.obs, H.toks.set t (n + m, s, te)⟩ (putBlock w (E.tk t).r (.cells rc' e fz)) := by
  obtain ⟨h0, te0, htok, rc1, e1, fz1, hb1, hn1, hc1, hf1, hp1, hty⟩ := hH.tok t n s ht
  rw [hb] at hb1; injection hb1 with hb1; injection hb1 with q1 q2 q3
  subst q1; subst q2; subst q3
  have htlt := hH.toks_lt ht
  have hmul : (n + m) * s ≤ (E.tk t).cap * s := Nat.mul_le_mul_right s hcap
  have hrlt : (E.tk t).r < w.heap.size := lt_of_heap hb
  have hcl : ∀ t' ns, (E.growTok t (n + m) s (E.tk t)).cl t' = some ns → (t' = t ∧ ns = (n + m, s)) ∨ (t' ≠ t ∧ E.cl t' = some ns) := by
    intro t' ns h
    simp only [Env.growTok] at h
    split at h
    · rename_i e; exact .inl ⟨e, by injection h with h; exact h.symm⟩
    · rename_i e; exact .inr ⟨e, h⟩
  have htk : ∀ t', (E.growTok t (n + m) s (E.tk t)).tk t' = E.tk t' := by
    intro t'
    simp only [Env.growTok]
    split
    · rename_i e; rw [e]
    · rfl
  have hx : Ext E w (E.growTok t (n + m) s (E.tk t)) (putBlock w (E.tk t).r (.cells rc' e fz)) := by
    refine ⟨fun _ _ h => h, fun _ _ h => .inl h, fun r i v hp hc => ?_, fun t' n' s' h => ?_, fun _ h => h⟩
    · by_cases er : r = (E.tk t).r
      · subst er
        have hi : i < (E.tk t).o + n * s := by
          rcases Nat.lt_or_ge i ((E.tk t).o + n * s) with h | h
          · exact h
          · exact absurd hp (hp1 i h)
        rw [cell_of_block (heap_put_same _ _ hrlt), hlow i hi, ← cell_of_block hb]
        exact hc
      · rw [cell_put_ne _ _ er]; exact hc
    · by_cases et : t' = t
      · subst et
        rw [ht] at h; injection h with h; injection h with a b; subst a; subst b
        exact ⟨n + m, by simp [Env.growTok], by omega, fun _ => htk t'⟩
      · exact ⟨n', by simp [Env.growTok, et, h], Nat.le_refl _, fun _ => htk t'⟩
  refine ⟨⟨hH.lt, ?_, hH.inj, ?_, ?_, ?_, ?_, ?_⟩, ⟨hx, rfl, rfl, rfl, by rw [size_put]; exact Nat.le_refl _, fun r hr ho => ⟨?_, ?_⟩, by simp, Nat.le_refl _, fun _ _ _ h => h⟩⟩
  · intro b L hbL
    refine (hH.obj b L hbL).frame hx (fun hl => heap_put_ne _ _ (hH.apart b L t (n, s) hbL hl ht)) (fun hl i hp => ?_)
    rcases hp with hp | ⟨he, _⟩
    · exact hp
    · exact absurd he (hH.apart b L t (n, s) hbL hl ht)
  · intro t' n' s' h
    rcases hcl t' _ h with ⟨rfl, he⟩ | ⟨hne, h1⟩
    · injection he with a b; subst a; subst b
      refine ⟨h0, te, by simp [htlt], ?_⟩
      rw [htk]
      refine ⟨rc', e, fz, heap_put_same _ _ hrlt, hcap, by rw [hsz]; exact hc1, fun i hi hi2 => hf1 i ?_ (by rw [← hsz]; exact hi2), fun i hi hp => ?_, hte⟩
      · have := Nat.mul_le_mul_right s' (show n ≤ n + m by omega); omega
      · rcases hp with hp | ⟨_, _, hp⟩
        · exact hp1 i (by have := Nat.mul_le_mul_right s' (show n ≤ n + m by omega); omega) hp
        · omega
    · obtain ⟨a, te', b, c⟩ := hH.tok t' n' s' h1
      refine ⟨a, te', by rw [List.getElem?_set_ne (Ne.symm hne)]; exact b, ?_⟩
      rw [htk]
      have hrr : (E.tk t').r ≠ (E.tk t).r := fun he => hne (hH.tinj t' t _ _ h1 ht he)
      refine c.frame (heap_put_ne _ _ hrr) (fun i hp => ?_)
      rcases hp with hp | ⟨he, _⟩
      · exact hp
      · exact absurd he hrr
  · intro t1 t2 ns1 ns2 h1 h2 he
    rw [htk, htk] at he
    have g : ∀ t' ns, (E.growTok t (n + m) s (E.tk t)).cl t' = some ns → ∃ ns', E.cl t' = some ns' := by
      intro t' ns h
      rcases hcl t' _ h with ⟨rfl, _⟩ | ⟨_, h⟩
      · exact ⟨_, ht⟩
      · exact ⟨_, h⟩
    obtain ⟨a, ha⟩ := g t1 ns1 h1
    obtain ⟨b, hb⟩ := g t2 ns2 h2
    exact hH.tinj t1 t2 a b ha hb he
  · intro b L t' ns hbL hl h
    rw [htk]
    rcases hcl t' _ h with ⟨rfl, _⟩ | ⟨_, h⟩
    · exact hH.apart b L t' _ hbL hl ht
    · exact hH.apart b L t' _ hbL hl h
  · intro r i hp
    rcases hp with hp | ⟨rfl, _, hi⟩
    · obtain ⟨v, hv⟩ := hH.prot r i hp
      exact ⟨v, hx.cell r i v hp hv⟩
    · have hi' : i < rc'.size := by omega
      refine ⟨rc'[i], ?_⟩
      rw [cell_of_block (heap_put_same _ _ hrlt)]
      simp [hi']
  · intro r hi
    obtain ⟨i1, i2, i3⟩ := hH.inert r hi
    refine ⟨by rw [size_put]; exact i1, i2, fun t' ns h => ?_⟩
    rw [htk]
    rcases hcl t' _ h with ⟨rfl, _⟩ | ⟨_, h⟩
    · exact i3 t' _ ht
    · exact i3 t' _ h
  · rintro (⟨b', L', hb', hl, he⟩ | ⟨t', ns, h, he⟩)
    · exact ho (.inl ⟨b', L', hb', hl, he⟩)
    · rw [htk] at he
      rcases hcl t' _ h with ⟨rfl, _⟩ | ⟨_, h⟩
      · exact ho (.inr ⟨t', _, ht, he⟩)
      · exact ho (.inr ⟨t', _, h, he⟩)
  · exact heap_put_ne _ _ (fun er => ho (.inr ⟨t, _, ht, er.symm⟩))

/-- A row of a token that takes more elements moves to a new block. -/
theorem HRel.moveTok (hH : HRel E H w) {t n s m : Nat} (ht : E.cl t = some (n, s)) (hm : 0 < m) (rc : Array Value) (e : TypeId) (cap : Nat) (hn : n + m ≤ cap) (hc : cap * s ≤ rc.size)
    (fz : Nat × Nat) (hfz : ∀ i, i < rc.size → ¬ (fz.1 ≤ i ∧ i < fz.2)) (te : Nat) (hte : te ≠ 0 → e = te ∧ (fz.1 = fz.2 ∨ fz.1 = 0)) :
    HRel (E.growTok t (n + m) s ⟨w.heap.size, 0, cap⟩) ⟨H.obs, H.toks.set t (n + m, s, te)⟩ (w.alloc (.cells rc e fz)) ∧
    Step E H w (E.growTok t (n + m) s ⟨w.heap.size, 0, cap⟩) ⟨H.obs, H.toks.set t (n + m, s, te)⟩ (w.alloc (.cells rc e fz)) := by
  obtain ⟨h0, _, htok, _⟩ := hH.tok t n s ht
  have htlt := hH.toks_lt ht
  have hmul : (n + m) * s ≤ cap * s := Nat.mul_le_mul_right s hn
  have hcl : ∀ t' ns, (E.growTok t (n + m) s ⟨w.heap.size, 0, cap⟩).cl t' = some ns → (t' = t ∧ ns = (n + m, s)) ∨ (t' ≠ t ∧ E.cl t' = some ns) := by
    intro t' ns h
    simp only [Env.growTok] at h
    split at h
    · rename_i e; exact .inl ⟨e, by injection h with h; exact h.symm⟩
    · rename_i e; exact .inr ⟨e, h⟩
  have htk : ∀ t', t' ≠ t → (E.growTok t (n + m) s ⟨w.heap.size, 0, cap⟩).tk t' = E.tk t' := by
    intro t' h
    simp [Env.growTok, h]
  have htn : (E.growTok t (n + m) s ⟨w.heap.size, 0, cap⟩).tk t = ⟨w.heap.size, 0, cap⟩ := by simp [Env.growTok]
  have hx : Ext E w (E.growTok t (n + m) s ⟨w.heap.size, 0, cap⟩) (w.alloc (.cells rc e fz)) := by
    refine ⟨fun _ _ h => h, fun _ _ h => .inl h, fun r i v _ hc => ?_, fun t' n' s' h => ?_, fun _ h => h⟩
    · rw [World.cell?_alloc_lt _ _ _ (lt_of_cell hc)]; exact hc
    · by_cases et : t' = t
      · subst et
        rw [ht] at h; injection h with h; injection h with a b; subst a; subst b
        exact ⟨n + m, by simp [Env.growTok], by omega, fun h => by omega⟩
      · exact ⟨n', by simp [Env.growTok, et, h], Nat.le_refl _, fun _ => htk t' et⟩
  refine ⟨⟨hH.lt, ?_, hH.inj, ?_, ?_, ?_, ?_, ?_⟩, ⟨hx, rfl, rfl, rfl, by simp, fun r hr ho => ⟨?_, heap_alloc_lt _ _ hr⟩, by simp, Nat.le_refl _, fun _ _ _ h => h⟩⟩
  · intro b L hb
    refine (hH.obj b L hb).frame hx (fun hl => heap_alloc_lt _ _ ((hH.obj b L hb).lt hl)) (fun hl i h => ?_)
    have := (hH.obj b L hb).lt hl
    rcases h with h | ⟨h, _⟩
    · exact h
    · exact absurd h (by show L.r ≠ w.heap.size; omega)
  · intro t' n' s' h
    rcases hcl t' _ h with ⟨rfl, he⟩ | ⟨hne, h1⟩
    · injection he with a b; subst a; subst b
      refine ⟨h0, te, by simp [htlt], ?_⟩
      rw [htn]
      refine ⟨rc, e, fz, heap_alloc_new _ _, hn, by simpa using hc, fun i _ hi => hfz i hi, fun i hi hp => ?_, fun h => ⟨(hte h).1, rfl, (hte h).2⟩⟩
      rcases hp with hp | ⟨_, _, hp⟩
      · exact hH.noprot_new i hp
      · exact absurd hp (by simp at hi ⊢; exact hi)
    · obtain ⟨a, te', b, c⟩ := hH.tok t' n' s' h1
      refine ⟨a, te', by rw [List.getElem?_set_ne (Ne.symm hne)]; exact b, ?_⟩
      rw [htk t' hne]
      refine c.frame (heap_alloc_lt _ _ c.lt) (fun i h => ?_)
      have := c.lt
      rcases h with h | ⟨h, _⟩
      · exact h
      · exact absurd h (by show (E.tk t').r ≠ w.heap.size; omega)
  · intro t1 t2 ns1 ns2 h1 h2 he
    rcases hcl t1 _ h1 with ⟨rfl, _⟩ | ⟨hne1, g1⟩ <;> rcases hcl t2 _ h2 with ⟨rfl, _⟩ | ⟨hne2, g2⟩
    · rfl
    · rw [htn, htk t2 hne2] at he
      obtain ⟨a, b⟩ := ns2
      have := hH.tok_lt g2
      simp only at he
      omega
    · rw [htn, htk t1 hne1] at he
      obtain ⟨a, b⟩ := ns1
      have := hH.tok_lt g1
      simp only at he
      omega
    · rw [htk t1 hne1, htk t2 hne2] at he
      exact hH.tinj t1 t2 ns1 ns2 g1 g2 he
  · intro b L t' ns hb hl h
    rcases hcl t' _ h with ⟨rfl, _⟩ | ⟨hne, h⟩
    · rw [htn]
      have := (hH.obj b L hb).lt hl
      show L.r ≠ w.heap.size
      omega
    · rw [htk t' hne]; exact hH.apart b L t' ns hb hl h
  · intro r i hp
    rcases hp with hp | ⟨hr, _, hi⟩
    · obtain ⟨v, hv⟩ := hH.prot r i hp
      exact ⟨v, hx.cell r i v hp hv⟩
    · have hr' : r = w.heap.size := hr
      subst hr'
      have hi' : i < rc.size := by simp at hi; omega
      refine ⟨rc[i], ?_⟩
      rw [cell_of_block (heap_alloc_new _ _)]
      simp [hi']
  · intro r hi
    obtain ⟨i1, i2, i3⟩ := hH.inert r hi
    refine ⟨by simp; omega, i2, fun t' ns h => ?_⟩
    rcases hcl t' _ h with ⟨rfl, _⟩ | ⟨hne, h⟩
    · rw [htn]; show w.heap.size ≠ r; omega
    · rw [htk t' hne]; exact i3 t' _ h
  · rintro (⟨b, L', hb, hl, he⟩ | ⟨t', ns, h, he⟩)
    · exact ho (.inl ⟨b, L', hb, hl, he⟩)
    · rcases hcl t' _ h with ⟨rfl, _⟩ | ⟨hne, h⟩
      · rw [htn] at he; simp only at he; omega
      · rw [htk t' hne] at he; exact ho (.inr ⟨t', ns, h, he⟩)

end Go.SV

namespace Go.SV

inductive Opd where
  | tmp (t : Nat)
  | cst (v : AV)
  | fn (f : Nat)
  deriving Inhabited

def Opd.ev (fr : List AV) : Opd → AV
  | .tmp t => (fr[t]?).getD .undef
  | .cst v => v
  | .fn f => .fn (.func f) [] []

inductive EqK where
  | bool | slice | ptr | map | func | iface | ifn

/-- Kinds of scalars, and of keys. -/
inductive CK where
  | int | str | bool

inductive KeyK where
  | scal (k : CK)
  | struct (ks : List CK)

inductive LK where
  | str | row | map

inductive Mode where
  | ro | tok | ref

inductive IOp where
  | mov (x : Opd)
  | pick (c a b : Opd)
  | alloc (z : List AV)
  | box (x : Opd)
  | build (z : List AV) (ps : List (Nat × Nat × Opd))
  | lit (m : Mode) (s : Nat) (xs : List Opd)
  | load (n : Option Nat) (a : Opd)
  | store (n : Nat) (a x : Opd)
  | nilck (x : Opd)
  | bin (op : BinOp) (x y : Opd)
  | eqv (k : EqK) (neg : Bool) (x y : Opd)
  | eqAgg (ks : List CK) (neg : Bool) (x y : Opd)
  | not (x : Opd)
  | neg (x : Opd)
  | cvInt (k : IntKind) (x : Opd)
  | cvRune (x : Opd)
  | cvBytes (x : Opd)
  | cvStr (x : Opd)
  | cvMark (x : Opd)
  | cvSame (x : Opd)
  | mkIface (t : Nat) (x : Opd)
  | mkFn (f : Fn) (first cap : List Opd)
  | mkMap
  | make (m : Mode) (s bytes : Nat) (z : List AV) (l c : Opd)
  | slcS (x : Opd) (lo hi : Option Opd)
  | slc (s : Nat) (x : Opd) (lo hi : Option Opd)
  | fieldAddr (off : Nat) (x : Opd)
  | field (off : Nat) (n : Option Nat) (x : Opd)
  | idxAddr (s : Nat) (x i : Opd)
  | idxAddrArr (len s : Nat) (x i : Opd)
  | idxStr (x i : Opd)
  | idxArr (len s : Nat) (n : Option Nat) (x i : Opd)
  | lookup (K : KeyK) (z : AV) (ok : Bool) (m k : Opd)
  | mapUpd (K : KeyK) (m k v : Opd)
  | mapEntry (K : KeyK) (z : AV) (m k : Opd)
  | entrySt (m s v : Opd)
  | rangeS (x : Opd)
  | nextS (x : Opd)
  | extract (i : Nat) (x : Opd)
  | len (k : LK) (x : Opd)
  | append (m : Mode) (s : Nat) (be : Nat × Nat) (x y : Opd)
  | minmax (mx : Bool) (x : Opd) (xs : List Opd)
  | sealR (x : Opd)
  | call (ver : Nat) (f : Opd) (args : List Opd)

def AV.isCell : AV → Bool
  | .undef | .agg _ | .tup _ | .bnil => false
  | _ => true

theorem isCell_isB {x : AV} (h : x.isCell = true) : x.isB = false := by cases x <;> simp_all [AV.isCell, AV.isB]
theorem all_isB {l : List AV} (h : l.all AV.isCell = true) {j : Nat} {x : AV} (hj : l[j]? = some x) : x.isB = false := isCell_isB (List.all_eq_true.1 h x (List.mem_of_getElem? hj))

def AV.def? : AV → Bool
  | .undef => false
  | _ => true

def splice : List AV → Nat → List AV → List AV
  | c, _, [] => c
  | c, o, x :: xs => splice (c.set o x) (o + 1) xs

theorem splice_length (xs : List AV) : ∀ (c : List AV) (o : Nat), (splice c o xs).length = c.length := by
  induction xs with
  | nil => intro c o; rfl
  | cons x xs ih => intro c o; simp [splice, ih]

/-! ### Integers, strings, equality -/
def aBits (op : BinOp) (k : IntKind) (x y : Int) : Option Int :=
  match op with
  | .and => some (k.wrap (BitVec.ofInt k.bits x &&& BitVec.ofInt k.bits y).toNat)
  | .or => some (k.wrap (BitVec.ofInt k.bits x ||| BitVec.ofInt k.bits y).toNat)
  | .xor => some (k.wrap (BitVec.ofInt k.bits x ^^^ BitVec.ofInt k.bits y).toNat)
  | .andNot => some (k.wrap (BitVec.ofInt k.bits x &&& ~~~(BitVec.ofInt k.bits y)).toNat)
  | _ => none

def aInt (op : BinOp) (k : IntKind) (a b : Int) : Option AV :=
  match op with
  | .add => some (.int k (k.wrap (a + b)))
  | .sub => some (.int k (k.wrap (a - b)))
  | .mul => some (.int k (k.wrap (a * b)))
  | .quo => if b = 0 then none else some (.int k (k.wrap (a.tdiv b)))
  | .rem => if b = 0 then none else some (.int k (a.tmod b))
  | .eql => some (.bool (a == b))
  | .neq => some (.bool (a != b))
  | .lss => some (.bool (decide (a < b)))
  | .leq => some (.bool (decide (a ≤ b)))
  | .gtr => some (.bool (decide (a > b)))
  | .geq => some (.bool (decide (a ≥ b)))
  | op => (aBits op k a b).map (.int k)

def aStr (op : BinOp) (a b : List UInt8) : Option AV :=
  match op with
  | .add => if a.length + b.length ≤ 2 ^ 62 then some (.str (a ++ b)) else none
  | .eql => some (.bool (a == b))
  | .neq => some (.bool (!(a == b)))
  | .lss => some (.bool (Op.bytesLess a b))
  | .leq => some (.bool (Op.bytesLess a b || a == b))
  | .gtr => some (.bool (!(Op.bytesLess a b || a == b)))
  | .geq => some (.bool (!Op.bytesLess a b))
  | _ => none

def aShift (op : BinOp) (k : IntKind) (a b : Int) : Option AV :=
  if b < 0 then none else
  match op with
  | .shl => some (.int k (k.wrap (a * 2 ^ (min b.toNat k.bits))))
  | .shr => some (.int k (a.fdiv (2 ^ (min b.toNat k.bits))))
  | _ => none

def isShift : BinOp → Bool
  | .shl | .shr => true
  | _ => false

def aBin (op : BinOp) (x y : AV) : Option AV :=
  match x, y with
  | .int k a, .int k' b => if isShift op then aShift op k a b else if k = k' then aInt op k a b else none
  | .str a, .str b => aStr op a b
  | _, _ => none

def aEq (k : EqK) (x y : AV) : Option Bool :=
  match k, x, y with
  | .bool, .bool a, .bool b => some (a == b)
  | .slice, .nils, .nils => some true
  | .slice, .nils, .sl _ _ _ | .slice, .nils, .slr _ _ _ _ | .slice, .sl _ _ _, .nils | .slice, .slr _ _ _ _, .nils => some false
  | .ptr, .nilp, .nilp => some true
  | .ptr, .ptr b o, .ptr b' o' => if b = b' ∧ o = o' then some true else none
  | .ptr, .nilp, .ptr _ _ | .ptr, .nilp, .vp _ | .ptr, .ptr _ _, .nilp | .ptr, .vp _, .nilp => some false
  | .map, .nilm, .nilm => some true
  | .map, .nilm, .map _ | .map, .map _, .nilm => some false
  | .func, .nilf, .nilf => some true
  | .func, .nilf, .fn _ _ _ | .func, .fn _ _ _, .nilf => some false
  | .iface, .niliface, .iface _ _ | .iface, .iface _ _, .niliface => some false
  | .ifn, .niliface, .niliface => some true
  | .ifn, .niliface, .iface _ _ | .ifn, .iface _ _, .niliface => some false
  | _, _, _ => none

def cellEq (k : CK) (x y : AV) : Option Bool :=
  match k, x, y with
  | .int, .int k a, .int k' b => if k = k' then some (a == b) else none
  | .str, .str a, .str b => some (a == b)
  | .bool, .bool a, .bool b => some (a == b)
  | _, _, _ => none

def cellsEq : List CK → List AV → List AV → Option Bool
  | [], [], [] => some true
  | k :: ks, x :: xs, y :: ys => (cellEq k x y).bind fun b => (cellsEq ks xs ys).bind fun r => some (b && r)
  | _, _, _ => none

/-- Keys of maps: scalars, or structs of scalars. -/
def keyEq (K : KeyK) (x y : AV) : Option Bool :=
  match K with
  | .scal k => cellEq k x y
  | .struct ks => match x, y with
    | .agg xs, .agg ys => cellsEq ks xs ys
    | _, _ => none

def isKey (K : KeyK) (k : AV) : Bool := (keyEq K k k).isSome

def aFind (K : KeyK) (k : AV) : List (AV × AV × Nat) → Nat → Option (Option (Nat × AV))
  | [], _ => some none
  | e :: es, i =>
    match keyEq K k e.1 with
    | some true => some (some (i, e.2.1))
    | some false => aFind K k es (i + 1)
    | none => none

/-! ### Memory -/
def aLoad (n : Option Nat) (a : AV) (H : AH) : Option AV :=
  match a with
  | .ptr b o =>
    match H.get b with
    | .cells c => match n with
      | none => c[o]?
      | some n => if o + n ≤ c.length then some (.agg ((c.drop o).take n)) else none
    | _ => none
  | .vp cs => match n with
    | none => cs[0]?
    | some n => if n ≤ cs.length then some (.agg (cs.take n)) else none
  | _ => none

def aStore (n : Nat) (a x : AV) (H : AH) : Option AH :=
  match a with
  | .ptr b o =>
    match H.get b with
    | .cells c => if x.def? && x.cells.length == n && x.cells.all AV.isCell && decide (o + n ≤ c.length) then some ⟨H.obs.set b (.cells (splice c o x.cells)), H.toks⟩ else none
    | _ => none
  | _ => none

def allocCells (c : List AV) (H : AH) : Option (AV × AH) := some (.ptr H.obs.length 0, ⟨H.obs ++ [.cells c], H.toks⟩)

def aBuild : List AV → List (Nat × Nat × AV) → Option (List AV)
  | z, [] => some z
  | z, (off, n, x) :: ps => if x.def? && x.cells.length == n && decide (off + n ≤ z.length) then aBuild (splice z off x.cells) ps else none

def mkElem : List AV → AV
  | [x] => if x.isCell then x else .agg [x]
  | cs => .agg cs

theorem mkElem_cells (cs : List AV) : (mkElem cs).cells = cs := by
  unfold mkElem
  split
  · split
    · rename_i x h
      cases x <;> first | rfl | simp [AV.isCell] at h
    · rfl
  · rfl

/-- The elements of a row that came by value, or of a row that may be written, or the bytes of a string. -/
def elems (s : Nat) (x : AV) (H : AH) : Option (List AV) :=
  match x with
  | .nils => some []
  | .sl _ s' xs => if s' = s then some xs else none
  | .str l => some (l.map fun b => .int .u8 b.toNat)
  | .slr b o n s' => if s' = s then
      match H.get b with
      | .cells c => if o + n * s ≤ c.length then some ((List.range n).map fun i => mkElem ((c.drop (o + i * s)).take s)) else none
      | _ => none
    else none
  | _ => none

def elemsOk (s : Nat) (ys : List AV) : Bool := ys.all fun y => y.def? && y.cells.length == s && y.cells.all AV.isCell

/-- What a row's type is known to be when elements of a type were put to it. -/
def tokTy (H : AH) (t e : Nat) : Nat := if H.toks[t]?.map (fun p => p.2.2) = some e then e else 0

def aAppend (m : Mode) (s : Nat) (be : Nat × Nat) (x y : AV) (H : AH) : Option (AV × AH) :=
  match elems s y H with
  | none => none
  | some ys =>
    if ys.isEmpty then (match x with | .nils | .sl _ _ _ | .slr _ _ _ _ => some (x, H) | _ => none) else
    if !elemsOk s ys then none else
    match m, x with
    | .ref, .nils => if ys.length * be.1 ≤ 2 ^ 47 then some (.slr H.obs.length 0 ys.length s, ⟨H.obs ++ [.cells (ys.flatMap AV.cells)], H.toks⟩) else none
    | .ref, .slr b o n s' =>
      match H.get b with
      | .cells c => if s' = s ∧ o + n * s ≤ c.length ∧ (n + ys.length) * be.1 ≤ 2 ^ 47 ∧ ((c.drop o).take (n * s)).all AV.isCell = true
          then some (.slr H.obs.length 0 (n + ys.length) s, ⟨H.obs.set b .dead ++ [.cells ((c.drop o).take (n * s) ++ ys.flatMap AV.cells)], H.toks⟩) else none
      | _ => none
    | .ref, _ => none
    | _, .nils => if ys.length * be.1 ≤ 2 ^ 47 then some (.sl H.toks.length s ys, ⟨H.obs, H.toks ++ [(ys.length, s, be.2)]⟩) else none
    | _, .sl t s' xs => if s' = s ∧ t ≠ 0 ∧ H.toks[t]?.map (fun p => (p.1, p.2.1)) = some (xs.length, s) ∧ (xs.length + ys.length) * be.1 ≤ 2 ^ 47
        then some (.sl t s (xs ++ ys), ⟨H.obs, H.toks.set t (xs.length + ys.length, s, tokTy H t be.2)⟩) else none
    | _, _ => none

def aSlice (s : Nat) (x : AV) (lo hi : Option AV) : Option AV :=
  let bd (n : Nat) : Option (Nat × Nat) :=
    match hi, lo with
    | none, none => some (0, n)
    | none, some (.int _ l) => if 0 ≤ l ∧ l ≤ n then some (l.toNat, n) else none
    | some (.int _ h), none => if 0 ≤ h ∧ h ≤ n then some (0, h.toNat) else none
    | some (.int _ h), some (.int _ l) => if 0 ≤ h ∧ h ≤ n ∧ 0 ≤ l ∧ l ≤ h then some (l.toNat, h.toNat) else none
    | _, _ => none
  match x with
  | .str l => (bd l.length).map fun (a, b) => .str ((l.take b).drop a)
  | .nils => (bd 0).map fun _ => .nils
  | .sl t s' xs => if s' = s then (bd xs.length).map fun (a, b) => .sl t s ((xs.take b).drop a) else none
  | .slr b o n s' => if s' = s then (bd n).map fun (a, h) => .slr b (o + a * s) (h - a) s else none
  | _ => none

def aIdxAddr (s : Nat) (x i : AV) : Option AV :=
  match x, i with
  | .sl _ s' xs, .int _ n => if s' = s ∧ 0 ≤ n then (xs[n.toNat]?).map fun y => .vp y.cells else none
  | .slr b o m s', .int _ n => if s' = s ∧ 0 ≤ n ∧ n < m then some (.ptr b (o + n.toNat * s)) else none
  | _, _ => none

def part (off : Nat) (n : Option Nat) (cs : List AV) : Option AV :=
  match n with
  | none => cs[off]?
  | some n => if off + n ≤ cs.length then some (.agg ((cs.drop off).take n)) else none

def aLen (k : LK) (x : AV) (H : AH) : Option AV :=
  match k, x with
  | .str, .str l => some (.int .i64 l.length)
  | .row, .nils => some (.int .i64 0)
  | .row, .sl _ _ xs => some (.int .i64 xs.length)
  | .row, .slr _ _ n _ => some (.int .i64 n)
  | .map, .nilm => some (.int .i64 0)
  | .map, .map b => match H.get b with
    | .map es _ => some (.int .i64 es.length)
    | _ => none
  | _, _ => none

def aMin (mx : Bool) (x y : AV) : Option AV :=
  match x, y with
  | .int k a, .int _ b => some (.int k (if mx then (if a < b then b else a) else (if b < a then b else a)))
  | _, _ => none

def aFold (mx : Bool) : AV → List AV → Option AV
  | x, [] => some x
  | x, y :: ys => (aMin mx x y).bind fun z => aFold mx z ys

def lookR (z : AV) (ok : Bool) : Option (Nat × AV) → AV
  | some (_, v) => if ok then .tup [v, .bool true] else v
  | none => if ok then .tup [z, .bool false] else z

def mapEs (m : AV) (H : AH) : Option (List (AV × AV × Nat)) :=
  match m with
  | .nilm => some []
  | .map b => match H.get b with
    | .map es _ => some es
    | _ => none
  | _ => none

def aLook (K : KeyK) (z : AV) (ok : Bool) (m k : AV) (H : AH) : Option AV :=
  match mapEs m H with
  | none => none
  | some es => if isKey K k then (aFind K k es 0).map (lookR z ok) else none

def aFieldAddr (off : Nat) (x : AV) : Option AV :=
  match x with
  | .ptr b o => some (.ptr b (o + off))
  | .vp cs => if off ≤ cs.length then some (.vp (cs.drop off)) else none
  | _ => none

def aIdxAddrArr (len s : Nat) (x i : AV) : Option AV :=
  match x, i with
  | .ptr b o, .int _ n => if 0 ≤ n ∧ n < len then some (.ptr b (o + n.toNat * s)) else none
  | .vp cs, .int _ n => if 0 ≤ n ∧ n < len then some (.vp (cs.drop (n.toNat * s))) else none
  | _, _ => none

def aop (fr : List AV) (op : IOp) (H : AH) : Option (AV × AH) :=
  let ret (x : Option AV) : Option (AV × AH) := x.map fun v => (v, H)
  match op with
  | .mov x => some (x.ev fr, H)
  | .pick c a b => match c.ev fr with
    | .bool t => some (if t then a.ev fr else b.ev fr, H)
    | _ => none
  | .alloc z => allocCells z H
  | .box x => if (x.ev fr).def? && (x.ev fr).cells.all AV.isCell then allocCells (x.ev fr).cells H else none
  | .build z ps => ret ((aBuild z (ps.map fun p => (p.1, p.2.1, p.2.2.ev fr))).map .agg)
  | .lit m s xs =>
    let ys := xs.map (Opd.ev fr)
    if !elemsOk s ys then none else
    match m with
    | .ro => some (.sl 0 s ys, H)
    | .tok => some (.sl H.toks.length s ys, ⟨H.obs, H.toks ++ [(ys.length, s, 0)]⟩)
    | .ref => some (.slr H.obs.length 0 ys.length s, ⟨H.obs ++ [.cells (ys.flatMap AV.cells)], H.toks⟩)
  | .load n a => ret (aLoad n (a.ev fr) H)
  | .store n a x => (aStore n (a.ev fr) (x.ev fr) H).map fun H' => (.undef, H')
  | .nilck x => match x.ev fr with
    | .ptr _ _ | .vp _ => some (x.ev fr, H)
    | .fn (.func _) _ _ => some (x.ev fr, H)
    | .iface _ _ => some (x.ev fr, H)
    | _ => none
  | .bin op x y => ret (aBin op (x.ev fr) (y.ev fr))
  | .eqv k neg x y => ret ((aEq k (x.ev fr) (y.ev fr)).map fun b => .bool (if neg then !b else b))
  | .eqAgg ks neg x y => match x.ev fr, y.ev fr with
    | .agg xs, .agg ys => ret ((cellsEq ks xs ys).map fun b => .bool (if neg then !b else b))
    | _, _ => none
  | .not x => match x.ev fr with
    | .bool b => some (.bool (!b), H)
    | _ => none
  | .neg x => match x.ev fr with
    | .int k n => some (.int k (k.wrap (0 - n)), H)
    | _ => none
  | .cvInt k x => match x.ev fr with
    | .int _ n => some (.int k (k.wrap n), H)
    | _ => none
  | .cvRune x => match x.ev fr with
    | .int _ n => some (.str (Utf8.encode n).data.toList, H)
    | _ => none
  | .cvBytes x => match x.ev fr with
    | .str l => some (.sl 0 1 (l.map fun b => .int .u8 b.toNat), H)
    | _ => none
  | .cvStr x => match elems 1 (x.ev fr) H with
    | some xs => match x.ev fr with
      | .str _ => none
      | _ => if xs.all (fun | .int .u8 n => decide (0 ≤ n ∧ n < 256) | _ => false) then some (.str (xs.map fun | .int _ n => UInt8.ofNat n.toNat | _ => 0), H) else none
    | none => none
  | .cvSame x => match x.ev fr with
    | .str l => some (.str l, H)
    | _ => none
  | .cvMark x => match x.ev fr with
    | .slr b o n s => match H.get b with
      | .cells _ => some (.slr b o n s, H)
      | _ => none
    | _ => none
  | .mkIface t x => if (x.ev fr).def? then some (.iface t (x.ev fr), H) else none
  | .mkFn f first cap => some (.fn f (first.map (Opd.ev fr)) (cap.map (Opd.ev fr)), H)
  | .mkMap => some (.map H.obs.length, ⟨H.obs ++ [.map [] 0], H.toks⟩)
  | .make m s bytes z l c => match l.ev fr, c.ev fr with
    | .int _ l, .int _ c => if 0 ≤ l ∧ l ≤ c ∧ bytes * c ≤ 2 ^ 48 ∧ c < 2 ^ 62 ∧ z.length = s ∧ z.all AV.isCell = true then
        some (match m with
          | .ref => (.slr H.obs.length 0 l.toNat s, ⟨H.obs ++ [.cells ((List.replicate c.toNat z).flatten)], H.toks⟩)
          | .tok => (.sl H.toks.length s (List.replicate l.toNat (mkElem z)), ⟨H.obs, H.toks ++ [(l.toNat, s, 0)]⟩)
          | .ro => (.sl 0 s (List.replicate l.toNat (mkElem z)), H)) else none
    | _, _ => none
  | .slcS x lo hi => match x.ev fr with
    | .str l => ret (aSlice 0 (.str l) (lo.map (Opd.ev fr)) (hi.map (Opd.ev fr)))
    | _ => none
  | .slc s x lo hi => match x.ev fr with
    | .str _ => none
    | x => ret (aSlice s x (lo.map (Opd.ev fr)) (hi.map (Opd.ev fr)))
  | .fieldAddr off x => ret (aFieldAddr off (x.ev fr))
  | .field off n x => match x.ev fr with
    | .agg cs => ret (part off n cs)
    | _ => none
  | .idxAddr s x i => ret (aIdxAddr s (x.ev fr) (i.ev fr))
  | .idxAddrArr len s x i => ret (aIdxAddrArr len s (x.ev fr) (i.ev fr))
  | .idxStr x i => match x.ev fr, i.ev fr with
    | .str l, .int _ n => if 0 ≤ n then ret ((l[n.toNat]?).map fun b => .int .u8 b.toNat) else none
    | _, _ => none
  | .idxArr len s n x i => match x.ev fr, i.ev fr with
    | .agg cs, .int _ j => if 0 ≤ j ∧ j < len then ret (part (j.toNat * s) n cs) else none
    | _, _ => none
  | .lookup K z ok m k => ret (aLook K z ok (m.ev fr) (k.ev fr) H)
  | .mapUpd K m k v => match m.ev fr with
    | .map b => match H.get b with
      | .map es clk => if isKey K (k.ev fr) && (v.ev fr).def? then (aFind K (k.ev fr) es 0).map fun
        | some (i, _) => (.undef, ⟨H.obs.set b (.map (es.modify i fun e => (k.ev fr, v.ev fr, e.2.2)) clk), H.toks⟩)
        | none => (.undef, ⟨H.obs.set b (.map (es ++ [(k.ev fr, v.ev fr, clk)]) (clk + 1)), H.toks⟩) else none
      | _ => none
    | _ => none
  | .mapEntry K z m k => match m.ev fr with
    | .map b => match H.get b with
      | .map es clk => if isKey K (k.ev fr) then (aFind K (k.ev fr) es 0).map fun
        | some (i, v) => (.tup [v, .int .i64 (((es[i]?).map (·.2.2)).getD 0)], ⟨H.obs.set b (.map (es.modify i fun e => (k.ev fr, e.2.1, e.2.2)) clk), H.toks⟩)
        | none => (.tup [z, .int .i64 clk], ⟨H.obs.set b (.map (es ++ [(k.ev fr, z, clk)]) (clk + 1)), H.toks⟩) else none
      | _ => none
    | _ => none
  | .entrySt m s v => match m.ev fr, s.ev fr with
    | .map b, .int _ n => match H.get b with
      | .map es clk => if (v.ev fr).def? then match es.findIdx? (fun e => ((e.2.2 : Nat) : Int) == n) with
        | some i => some (.undef, ⟨H.obs.set b (.map (es.modify i fun e => (e.1, v.ev fr, e.2.2)) clk), H.toks⟩)
        | none => none else none
      | _ => none
    | _, _ => none
  | .rangeS x => match x.ev fr with
    | .str l => some (.ptr H.obs.length 0, ⟨H.obs ++ [.iter l 0], H.toks⟩)
    | _ => none
  | .nextS x => match x.ev fr with
    | .ptr b 0 => match H.get b with
      | .iter l pos => if pos < l.length then
          some (.tup [.bool true, .int .i64 pos, .int .i32 (Utf8.decode ⟨l.toArray⟩ pos).1], ⟨H.obs.set b (.iter l (pos + (Utf8.decode ⟨l.toArray⟩ pos).2)), H.toks⟩)
        else some (.tup [.bool false], H)
      | _ => none
    | _ => none
  | .extract i x => match x.ev fr with
    | .tup vs => ret (vs[i]?)
    | _ => none
  | .len k x => ret (aLen k (x.ev fr) H)
  | .append m s bytes x y => aAppend m s bytes (x.ev fr) (y.ev fr) H
  | .minmax mx x xs => ret (aFold mx (x.ev fr) (xs.map (Opd.ev fr)))
  | .sealR x => match x.ev fr with
    | .slr b o n s => match elems s (.slr b o n s) H with
      | some ys => if 0 < s ∧ elemsOk s ys then some (.sl 0 s ys, ⟨H.obs.set b .dead, H.toks⟩) else none
      | none => none
    | _ => none
  | .call _ _ _ => none

/-! ### Code -/
structure IOper where
  dst : Option Nat
  op : IOp
  guard : Option (Nat × Bool)

def setd (d : Option Nat) (v : AV) (fr : List AV) : List AV :=
  match d with
  | some d => fr.set d v
  | none => fr

def want (g : Option (Nat × Bool)) (fr : List AV) : Option Bool :=
  match g with
  | none => some true
  | some (t, b) => match fr[t]? with
    | some (.bool c) => some (c == b)
    | some (.tup []) => some false
    | _ => none

abbrev Den := Nat → List AV → AH → Option (AV × AH)

def iop (D : Den) (fr : List AV) (op : IOp) (H : AH) : Option (AV × AH) :=
  match op with
  | .call ver f args => match f.ev fr with
    | .fn (.func k) first cap => if k < 100000 then D (k + ver * 100000) (first ++ args.map (Opd.ev fr) ++ cap) H else none
    | _ => none
  | op => aop fr op H

def iops (D : Den) : List IOper → List AV → AH → Option (List AV × AH)
  | [], fr, H => some (fr, H)
  | o :: os, fr, H =>
    match want o.guard fr with
    | some true => match iop D fr o.op H with
      | some (v, H') => iops D os (setd o.dst v fr) H'
      | none => none
    | some false => iops D os (setd o.dst (.tup []) fr) H
    | none => none

end Go.SV

namespace Go.SV

variable {P : Program} {E E' : Env} {H H' : AH} {w w' : World}

/-- What an operation of the machine comes to, against what the abstract one says. -/
def Sim (P : Program) (s : Sem Value) (E : Env) (H : AH) (w : World) (v : AV) (H' : AH) : Prop :=
  ∃ E' w' v', s.run P w = .ok v' w' ∧ VR E' w' v v' ∧ HRel E' H' w' ∧ Step E H w E' H' w'
def SimU (P : Program) (s : Sem Unit) (E : Env) (H : AH) (w : World) (H' : AH) : Prop :=
  ∃ E' w', s.run P w = .ok () w' ∧ HRel E' H' w' ∧ Step E H w E' H' w'

theorem Sim.same (hH : HRel E H w) {s : Sem Value} {v : AV} {v' : Value} (hr : s.run P w = .ok v' w) (hv : VR E w v v') : Sim P s E H w v H :=
  ⟨E, w, v', hr, hv, hH, .refl _ _ _⟩

theorem add_addr (r o i : Nat) : (⟨r, o, none⟩ : Addr).add i = ⟨r, o + i, none⟩ := by
  unfold Addr.add
  split
  · rename_i h; subst h; rfl
  · rfl

/-! ### Types -/
def sizeT (P : Program) (t : TypeId) : Option Nat := (P.info? t).map (·.size)
def bytesT (P : Program) (t : TypeId) : Option Nat := (P.info? t).map (·.bytes)
def zeroT (P : Program) (t : TypeId) : Option Value := (P.info? t).bind (·.zero)
def isAggD : TypeDesc → Bool
  | .struct _ | .array _ _ => true
  | _ => false

theorem r_typeInfo {t : TypeId} {i : TypeInfo} (h : P.info? t = some i) : (typeInfo t).run P w = .ok i w := by simp [typeInfo, h]
theorem r_under {t : TypeId} {d : TypeDesc} (h : P.underlying t = some d) : (underlying t).run P w = .ok d w := by simp [underlying, h]
theorem r_sizeOf {t n : Nat} (h : sizeT P t = some n) : (sizeOf t).run P w = .ok n w := by
  simp only [sizeT, Option.map_eq_some_iff] at h
  obtain ⟨i, hi, rfl⟩ := h
  simp [sizeOf, r_typeInfo hi]
theorem r_zero {t : Nat} {z : Value} (h : zeroT P t = some z) : (zeroValue t).run P w = .ok z w := by
  simp only [zeroT, Option.bind_eq_some_iff] at h
  obtain ⟨i, hi, hz⟩ := h
  simp [zeroValue, r_typeInfo hi, hz]
theorem r_isAgg {t : Nat} {d : TypeDesc} (h : P.underlying t = some d) : (isAgg t).run P w = .ok (isAggD d) w := by
  simp only [isAgg, Sem.run_bind, r_under h, Result.andThen_ok, isAggD]
  cases d <;> rfl

/-! ### Loads -/
theorem ref_cells (hH : HRel E H w) {b : Nat} {L : Ref} (hb : E.φ b = some L) {c : List AV} (hc : H.get b = .cells c) :
    L.d + c.length ≤ L.R ∧ (∀ (j : Nat) x, c[j]? = some x → ∃ u, w.cell? ⟨L.r, L.d + j, none⟩ = some u ∧ VR E w x u) := by
  have := hH.obj b L hb
  rw [hc] at this
  obtain ⟨rc, e, fz, h1, h2, h3, h4, _⟩ := this
  refine ⟨h3, fun j x hj => ?_⟩
  obtain ⟨u, hu, hv⟩ := h4 j x hj
  exact ⟨u, by rw [cell_of_block h1]; exact hu, hv⟩

/-- Some cells from a place on, as one value. -/
theorem load_cells {cs : List AV} {r o : Nat} {n : Nat} (hn : n ≤ cs.length)
    (h : ∀ (j : Nat) x, cs[j]? = some x → ∃ u, w.cell? ⟨r, o + j, none⟩ = some u ∧ VR E w x u) :
    ∃ vs : Array Value, (loadCells ⟨r, o, none⟩ n).run P w = .ok vs w ∧ vs.size = n ∧ ∀ (j : Nat) a u, (cs.take n)[j]? = some a → vs[j]? = some u → VR E w a u := by
  have hf : ∀ j, j < n → w.cell? ((⟨r, o, none⟩ : Addr).add j) = some ((w.cell? ⟨r, o + j, none⟩).getD undef) := by
    intro j hj
    obtain ⟨u, hu, _⟩ := h j cs[j] (List.getElem?_eq_getElem (by omega))
    rw [add_addr, hu]; rfl
  refine ⟨_, run_loadCells w _ n _ hf, by simp, ?_⟩
  intro j a u ha hu
  have hj : j < n := by
    rcases Nat.lt_or_ge j n with h | h
    · exact h
    · rw [List.getElem?_eq_none (by simp; omega)] at ha; simp at ha
  rw [List.getElem?_take, if_pos hj] at ha
  obtain ⟨v, hv, hr⟩ := h j a ha
  simp [hj, hv] at hu
  exact hu ▸ hr

theorem load_gen {cs : List AV} {r o t : Nat} {d : TypeDesc} (hd : P.underlying t = some d) {n : Option Nat} (hn : n = if isAggD d then sizeT P t else none)
    (hs : (sizeT P t).isSome) {x : AV} (hx : part 0 n cs = some x)
    (h : ∀ (j : Nat) x, cs[j]? = some x → ∃ u, w.cell? ⟨r, o + j, none⟩ = some u ∧ VR E w x u) :
    ∃ v', (loadVar t ⟨r, o, none⟩).run P w = .ok v' w ∧ VR E w x v' := by
  obtain ⟨sz, hsz⟩ := Option.isSome_iff_exists.1 hs
  cases ha : isAggD d with
  | false =>
    simp [ha] at hn
    subst hn
    obtain ⟨u, hu, hv⟩ := h 0 x hx
    exact ⟨u, by simp [loadVar, r_isAgg hd, ha, show w.cell? ⟨r, o, none⟩ = some u from hu], hv⟩
  | true =>
    simp [ha, hsz] at hn
    subst hn
    simp only [part] at hx
    split at hx
    · rename_i hle
      injection hx with hx
      subst hx
      obtain ⟨vs, h1, h2, h3⟩ := load_cells (P := P) (n := sz) (by omega) h
      refine ⟨.agg vs, by simp [loadVar, r_isAgg hd, ha, r_sizeOf hsz, h1], .agg _ _ ?_ ?_⟩
      · simp; omega
      · intro j a u ha' hu; exact h3 j a u (by simpa using ha') hu
    · simp at hx

theorem sim_load (hH : HRel E H w) {t : TypeId} {d : TypeDesc} (hd : P.underlying t = some d) {n : Option Nat} (hn : n = if isAggD d then sizeT P t else none)
    (hs : (sizeT P t).isSome) {a x : AV} {v : Value} (ha : VR E w a v) (hx : aLoad n a H = some x) : Sim P (Instr.loadAt t v) E H w x H := by
  unfold aLoad at hx
  split at hx
  · rename_i b o
    cases ha with
    | ptr _ _ L hL =>
      split at hx
      · rename_i c hc
        obtain ⟨h1, h2⟩ := ref_cells hH hL hc
        have hp : part 0 n (c.drop o) = some x := by
          cases n with
          | none => simpa [part] using hx
          | some n =>
            simp only [part] at hx ⊢
            simp only [List.drop_zero, Nat.zero_add, List.length_drop]
            split at hx
            · rename_i hle; rw [if_pos (by omega)]; exact hx
            · simp at hx
        obtain ⟨v', hr, hv⟩ := load_gen (w := w) (E := E) (r := L.r) (o := L.d + o) hd hn hs hp (fun j y hj => by
          rw [List.getElem?_drop] at hj
          obtain ⟨u, hu, hv⟩ := h2 (o + j) y hj
          exact ⟨u, by rw [Nat.add_assoc]; exact hu, hv⟩)
        exact Sim.same hH (by simp [Instr.loadAt, Instr.sureAddr, hr]) hv
      · simp at hx
  · rename_i cs
    cases ha with
    | vp _ r o us hc hp hv =>
      have hp : part 0 n cs = some x := by
        cases n with
        | none => simpa [part] using hx
        | some n => simpa [part] using hx
      obtain ⟨v', hr, hv⟩ := load_gen (w := w) (E := E) (r := r) (o := o) hd hn hs hp (fun j y hj => ⟨us j, hc j y hj, hv j y hj⟩)
      exact Sim.same hH (by simp [Instr.loadAt, Instr.sureAddr, hr]) hv
  · simp at hx

/-! ### Stores -/
theorem VR.oneCell {a : AV} {v : Value} (h : VR E w a v) (hc : a.isCell = true) : v.oneCell' = true := by
  cases h <;> first | rfl | simp [AV.isCell] at hc

def setCells : Array Value → Nat → List Value → Array Value
  | c, _, [] => c
  | c, o, v :: vs => setCells (c.setIfInBounds o v) (o + 1) vs

theorem setCells_size (vs : List Value) : ∀ (c : Array Value) (o : Nat), (setCells c o vs).size = c.size := by
  induction vs with
  | nil => intro c o; rfl
  | cons v vs ih => intro c o; simp [setCells, ih]

theorem setCells_get (vs : List Value) : ∀ (c : Array Value) (o i : Nat), o + vs.length ≤ c.size →
    (setCells c o vs)[i]? = if o ≤ i ∧ i < o + vs.length then vs[i - o]? else c[i]? := by
  induction vs with
  | nil => intro c o i _; simp [setCells]; omega
  | cons v vs ih =>
    intro c o i h
    simp only [setCells]
    rw [ih _ _ _ (by simp at h ⊢; omega)]
    simp only [List.length_cons]
    by_cases h1 : o + 1 ≤ i ∧ i < o + 1 + vs.length
    · rw [if_pos h1, if_pos (by omega)]
      rw [show i - o = (i - (o + 1)) + 1 by omega, List.getElem?_cons_succ]
    · rw [if_neg h1]
      by_cases h2 : i = o
      · subst h2
        rw [if_pos (by omega)]
        simp at h
        simp [show i < c.size by omega]
      · rw [if_neg (by omega), Array.getElem?_setIfInBounds_ne (by omega)]

theorem splice_get (xs : List AV) : ∀ (c : List AV) (o i : Nat), o + xs.length ≤ c.length →
    (splice c o xs)[i]? = if o ≤ i ∧ i < o + xs.length then xs[i - o]? else c[i]? := by
  induction xs with
  | nil => intro c o i _; simp [splice]; omega
  | cons v vs ih =>
    intro c o i h
    simp only [splice]
    rw [ih _ _ _ (by simp at h ⊢; omega)]
    simp only [List.length_cons]
    by_cases h1 : o + 1 ≤ i ∧ i < o + 1 + vs.length
    · rw [if_pos h1, if_pos (by omega)]
      rw [show i - o = (i - (o + 1)) + 1 by omega, List.getElem?_cons_succ]
    · rw [if_neg h1]
      by_cases h2 : i = o
      · subst h2
        rw [if_pos (by omega)]
        simp at h
        simp [show i < c.length by omega]
      · rw [if_neg (by omega), List.getElem?_set_ne (by omega)]

theorem setCell_put {w : World} {r o : Nat} {c : Array Value} {e : TypeId} {fz : Nat × Nat} (h : w.heap[r]? = some (.cells c e fz)) (v : Value) :
    w.setCell ⟨r, o, none⟩ v = putBlock w r (.cells (c.setIfInBounds o v) e fz) := by
  have hr := lt_of_heap h
  unfold World.setCell putBlock
  congr 1
  apply Array.ext'
  apply List.ext_getElem?
  intro i
  simp only [Array.getElem?_toList, Array.getElem?_modify, Array.getElem?_setIfInBounds]
  by_cases hi : r = i
  · subst hi
    rw [h]; simp [hr]
  · simp [hi]

theorem put_put (w : World) (r : Nat) (O O' : Obj) : putBlock (putBlock w r O) r O' = putBlock w r O' := by
  unfold putBlock
  congr 1
  apply Array.ext'
  apply List.ext_getElem?
  intro i
  simp only [Array.getElem?_toList, Array.getElem?_setIfInBounds, Array.size_setIfInBounds]
  by_cases hi : r = i <;> simp [hi]

theorem put_same {w : World} {r : Nat} {O : Obj} (h : w.heap[r]? = some O) : putBlock w r O = w := by
  have hr := lt_of_heap h
  unfold putBlock
  cases w with
  | mk heap tape drawn os output =>
    congr 1
    apply Array.ext'
    apply List.ext_getElem?
    intro i
    simp only [Array.getElem?_toList, Array.getElem?_setIfInBounds]
    by_cases hi : r = i
    · subst hi; simp at hr; simp only at h; rw [h]; simp [hr]
    · simp [hi]

theorem run_setCells (vs : List Value) : ∀ (w : World) (r o i : Nat) (c : Array Value) (e : TypeId) (fz : Nat × Nat), w.heap[r]? = some (.cells c e fz) → o + i + vs.length ≤ c.size →
    (∀ j, o + i ≤ j → j < o + i + vs.length → ¬ (fz.1 ≤ j ∧ j < fz.2)) → (∀ v ∈ vs, v.oneCell' = true) →
    (storeCells ⟨r, o, none⟩ vs i).run P w = .ok () (putBlock w r (.cells (setCells c (o + i) vs) e fz)) := by
  induction vs with
  | nil =>
    intro w r o i c e fz h _ _ _
    simp only [storeCells, setCells, Sem.run_pure]
    rw [put_same h]
  | cons v vs ih =>
    intro w r o i c e fz h hlen hf hv
    simp only [List.length_cons] at hlen hf
    have hcell : w.cell? ⟨r, o + i, none⟩ = some c[o + i] := by
      rw [cell_of_block h]; simp [show o + i < c.size by omega]
    have hfr : w.frozen? ⟨r, o + i, none⟩ = false := by
      unfold World.frozen?
      rw [h]
      simp only [Bool.and_eq_false_iff, decide_eq_false_iff_not]
      have := hf (o + i) (Nat.le_refl _) (by omega)
      by_cases h1 : fz.1 ≤ o + i
      · right; intro h2; exact this ⟨h1, h2⟩
      · left; exact h1
    have hs := run_store P w ⟨r, o + i, none⟩ v .plain (hv v (by simp))
    rw [hcell] at hs
    simp only [hfr, Bool.false_eq_true, if_false] at hs
    rw [setCell_put h] at hs
    simp only [storeCells, Sem.run_bind, add_addr, hs, Result.andThen_ok]
    rw [ih (putBlock w r (.cells (c.setIfInBounds (o + i) v) e fz)) r o (i + 1) (c.setIfInBounds (o + i) v) e fz (heap_put_same _ _ (lt_of_heap h)) (by simp; omega)
      (fun j h1 h2 => hf j (by omega) (by omega)) (fun v' hv' => hv v' (by simp [hv']))]
    rw [put_put]
    simp only [setCells, Nat.add_assoc]

theorem oneCells {xs : List AV} {vs : Array Value} (hlen : xs.length = vs.size) (h : ∀ (j : Nat) x u, xs[j]? = some x → vs[j]? = some u → VR E w x u) (hc : xs.all AV.isCell = true) :
    ∀ v ∈ vs.toList, v.oneCell' = true := by
  intro v hv
  obtain ⟨j, hj, hje⟩ := List.getElem_of_mem hv
  have hj' : j < vs.size := by simpa using hj
  have hx : xs[j]? = some xs[j] := List.getElem?_eq_getElem (by omega)
  have hu : vs[j]? = some v := by rw [Array.getElem?_eq_getElem hj']; simpa using hje
  exact (h j _ _ hx hu).oneCell (List.all_eq_true.1 hc _ (List.getElem_mem _))

theorem sim_store (hH : HRel E H w) {t : TypeId} {n : Nat} (hn : sizeT P t = some n) {a x : AV} {va vx : Value} (ha : VR E w a va) (hx : VR E w x vx)
    (h : aStore n a x H = some H') : SimU P (Instr.storeAt t va vx) E H w H' := by
  unfold aStore at h
  split at h
  · rename_i b o
    cases ha with
    | ptr _ _ L hL =>
      split at h
      · rename_i c hc
        split at h
        · rename_i hcond
          injection h with h
          subst h
          simp only [Bool.and_eq_true, beq_iff_eq, decide_eq_true_eq] at hcond
          obtain ⟨⟨⟨hd, hl⟩, hcells⟩, hb⟩ := hcond
          have hdef : x ≠ .undef := by rintro rfl; simp [AV.def?] at hd
          obtain ⟨hsz, hvr⟩ := hx.cells hdef
          have hobj := hH.obj b L hL
          rw [hc] at hobj
          obtain ⟨rc, e, fz, h1, h2, h3, h4, h5, h6, h7⟩ := hobj
          have hvlen : vx.cells.size = n := by omega
          have hrun := run_setCells (P := P) vx.cells.toList w L.r (L.d + o) 0 rc e fz h1 (by simp; omega) (fun j hj1 hj2 => h5.no j (by simp at hj2; omega)) (oneCells hsz hvr hcells)
          obtain ⟨hH', hS⟩ := hH.putRef hL (by rw [hc]; rfl) (.cells (setCells rc (L.d + o + 0) vx.cells.toList) e fz) (.cells (splice c o x.cells)) (fun hx' hnp => by
            refine ⟨_, e, fz, heap_put_same _ _ (lt_of_heap h1), by rw [setCells_size]; exact h2, by rw [splice_length]; exact h3, fun j y hj => ?_, h5, hnp, fun j y hj hB => ?_⟩
            rotate_left
            · rw [splice_get _ _ _ _ (by omega)] at hj
              by_cases hj2 : o ≤ j ∧ j < o + x.cells.length
              · rw [if_pos hj2] at hj
                rw [all_isB hcells hj] at hB; simp at hB
              · rw [if_neg hj2] at hj
                rw [setCells_size, setCells_get _ _ _ _ (by simp; omega), if_neg (by simp; omega)]; exact h7 j y hj hB
            rw [splice_get _ _ _ _ (by omega)] at hj
            rw [setCells_get _ _ _ _ (by simp; omega)]
            by_cases hj2 : o ≤ j ∧ j < o + x.cells.length
            · rw [if_pos hj2] at hj
              rw [if_pos (by simp; omega)]
              have hlt : j - o < vx.cells.size := by omega
              refine ⟨vx.cells[j - o], ?_, (hvr (j - o) y _ hj (Array.getElem?_eq_getElem hlt)).mono hx'⟩
              rw [show L.d + j - (L.d + o + 0) = j - o by omega]
              simp [hlt]
            · rw [if_neg hj2] at hj
              rw [if_neg (by simp; omega)]
              obtain ⟨u, hu, hv⟩ := h4 j y hj
              exact ⟨u, hu, hv.mono hx'⟩)
          refine ⟨E, _, ?_, hH', hS⟩
          simp only [Instr.storeAt, Instr.sureAddr, pure_bind, storeVar, Sem.run_bind, r_sizeOf hn, Result.andThen_ok]
          rw [if_neg (by simpa using hvlen)]
          simpa using hrun
        · simp at h
      · simp at h
  · simp at h

/-! ### New cells -/
theorem sim_newRow (hH : HRel E H w) (e : TypeId) {xs : List AV} {vs : Array Value} (hlen : xs.length = vs.size)
    (hv : ∀ (j : Nat) x u, xs[j]? = some x → vs[j]? = some u → VR E w x u) (hB : ∀ (j : Nat) x, xs[j]? = some x → x.isB = true → lbB e vs.size j = true ∧ vs[j]? = some (.pointer none)) :
    ∃ E' w' , (newRow e vs).run P w = .ok ⟨w.heap.size, 0, none⟩ w' ∧ E'.φ H.obs.length = some ⟨w.heap.size, 0, vs.size⟩ ∧ HRel E' ⟨H.obs ++ [.cells xs], H.toks⟩ w' ∧ Step E H w E' ⟨H.obs ++ [.cells xs], H.toks⟩ w' := by
  obtain ⟨h1, h2, h3⟩ := hH.allocRef (.cells vs e) (.cells xs) ⟨w.heap.size, 0, vs.size⟩ rfl (fun E' hx hnp => by
    refine ⟨vs, e, (0, 0), heap_alloc_new _ _, rfl, by simp; omega, fun j x hj => ?_, .inl rfl, hnp, fun j x hj hb => by rw [Nat.zero_add]; exact ⟨(hB j x hj hb).1, .inl (hB j x hj hb).2⟩⟩
    have hj' : j < vs.size := by
      rcases Nat.lt_or_ge j xs.length with h | h
      · omega
      · rw [List.getElem?_eq_none h] at hj; simp at hj
    exact ⟨vs[j], by simp [hj'], (hv j x _ hj (Array.getElem?_eq_getElem hj')).mono hx⟩)
  exact ⟨_, _, rfl, h3, h1, h2⟩

theorem sim_newVar (hH : HRel E H w) (e : TypeId) {xs : List AV} {v : Value} (hlen : xs.length = v.cells.size)
    (hv : ∀ (j : Nat) x u, xs[j]? = some x → v.cells[j]? = some u → VR E w x u) (hB : ∀ (j : Nat) x, xs[j]? = some x → x.isB = true → lbB e v.cells.size j = true ∧ v.cells[j]? = some (.pointer none)) :
    Sim P (do pure (.pointer (some (← newVar e v)))) E H w (.ptr H.obs.length 0) ⟨H.obs ++ [.cells xs], H.toks⟩ := by
  obtain ⟨E', w', h1, h2, h3, h4⟩ := sim_newRow (P := P) hH e hlen hv hB
  exact ⟨E', w', .pointer (some ⟨w.heap.size, 0 + 0, none⟩), by simp [newVar, h1], .ptr _ _ _ h2, h3, h4⟩

/-! ### Structs and rows that are built -/
theorem foldl_set (vs : List Value) : ∀ (k o : Nat) (c : Array Value), (vs.zipIdx k).foldl (fun cs (x : Value × Nat) => cs.setIfInBounds (o + x.2) x.1) c = setCells c (o + k) vs := by
  induction vs with
  | nil => intro k o c; rfl
  | cons v vs ih => intro k o c; simp only [List.zipIdx_cons, List.foldl_cons, setCells, ih, Nat.add_assoc]

theorem sim_fill (ps : List (Nat × Nat × AV)) : ∀ (place : Nat → Option (Nat × Nat)) (rs : List (Nat × Value)) (z z' : List AV) (cells : Array Value),
    ps.length = rs.length → (∀ (k : Nat) p q, ps[k]? = some p → rs[k]? = some q → place q.1 = some (p.1, p.2.1) ∧ VR E w p.2.2 q.2) →
    z.length = cells.size → (∀ (j : Nat) x u, z[j]? = some x → cells[j]? = some u → VR E w x u) → aBuild z ps = some z' →
    ∃ cells', Instr.fill place cells rs = some cells' ∧ z'.length = cells'.size ∧ (∀ (j : Nat) x u, z'[j]? = some x → cells'[j]? = some u → VR E w x u) := by
  induction ps with
  | nil =>
    intro place rs z z' cells hl _ hz hv h
    cases rs with
    | nil => simp only [aBuild, Option.some.injEq] at h; subst h; exact ⟨cells, rfl, hz, hv⟩
    | cons r rs => simp at hl
  | cons p ps ih =>
    intro place rs z z' cells hl hp hz hv h
    cases rs with
    | nil => simp at hl
    | cons r rs =>
      obtain ⟨off, n, x⟩ := p
      obtain ⟨i, v⟩ := r
      obtain ⟨hpl, hvr⟩ := hp 0 (off, n, x) (i, v) rfl rfl
      simp only at hpl hvr
      simp only [aBuild] at h
      split at h
      · rename_i hc
        simp only [Bool.and_eq_true, beq_iff_eq, decide_eq_true_eq] at hc
        obtain ⟨⟨hd, hn⟩, hb⟩ := hc
        have hdef : x ≠ .undef := by rintro rfl; simp [AV.def?] at hd
        obtain ⟨hsz, hcv⟩ := hvr.cells hdef
        have hset : (v.cells.zipIdx.foldl (fun cs (x : Value × Nat) => cs.setIfInBounds (off + x.2) x.1) cells) = setCells cells off v.cells.toList := by
          rw [← Array.foldl_toList, Array.toList_zipIdx, foldl_set, Nat.add_zero]
        obtain ⟨cells', h1, h2, h3⟩ := ih place rs (splice z off x.cells) z' (setCells cells off v.cells.toList) (by simpa using hl)
          (fun k p q hk hq => hp (k + 1) p q (by simpa using hk) (by simpa using hq)) (by rw [splice_length, setCells_size]; exact hz)
          (fun j y u hj hu => by
            rw [splice_get _ _ _ _ (by omega)] at hj
            rw [setCells_get _ _ _ _ (by simp; omega)] at hu
            by_cases hj2 : off ≤ j ∧ j < off + x.cells.length
            · rw [if_pos hj2] at hj
              rw [if_pos (by simp; omega)] at hu
              exact hcv _ _ _ hj (by simpa using hu)
            · rw [if_neg hj2] at hj
              rw [if_neg (by simp; omega)] at hu
              exact hv j y u hj hu) h
        refine ⟨cells', ?_, h2, h3⟩
        simp only [Instr.fill, hpl]
        rw [if_neg (by simp; omega)]
        rw [← h1]
        congr 1
      · simp at h

end Go.SV

namespace Go.SV

variable {P : Program} {E E' : Env} {H H' : AH} {w w' : World}

/-! ### Structs -/
def placesT (P : Program) : List Field → Option (List (Nat × Nat))
  | [] => some []
  | f :: fs => (sizeT P f.type).bind fun s => (placesT P fs).map fun l => (f.offset, s) :: l

theorem r_places (fs : List Field) : ∀ {pl : List (Nat × Nat)}, placesT P fs = some pl →
    (fs.toArray.mapM fun f => (do pure (f.offset, ← sizeOf f.type) : Sem (Nat × Nat))).run P w = .ok pl.toArray w := by
  have key : ∀ {pl : List (Nat × Nat)}, placesT P fs = some pl → (fs.mapM fun f => (do pure (f.offset, ← sizeOf f.type) : Sem (Nat × Nat))).run P w = .ok pl w := by
    induction fs with
    | nil => intro pl h; simp only [placesT, Option.some.injEq] at h; subst h; simp
    | cons f fs ih =>
      intro pl h
      simp only [placesT, Option.bind_eq_some_iff, Option.map_eq_some_iff] at h
      obtain ⟨s, hs, l, hl, rfl⟩ := h
      simp only [List.mapM_cons, Sem.run_bind, r_sizeOf hs, Result.andThen_ok, Sem.run_pure, ih hl]
  intro pl h
  rw [List.mapM_toArray]
  simp only [Sem.run_map, key h, Result.andThen_ok]

theorem sim_build (hH : HRel E H w) {t : TypeId} {fs : List Field} (hu : P.underlying t = some (.struct fs.toArray)) {z : Value} (hz : zeroT P t = some z)
    {zz : AV} (hzd : zz.def? = true) (hzz : VR E w zz z) {pl : List (Nat × Nat)} (hpl : placesT P fs = some pl) {ps : List (Nat × Nat × AV)} {rs : List (Nat × Value)} (hl : ps.length = rs.length)
    (hp : ∀ (k : Nat) p q, ps[k]? = some p → rs[k]? = some q → pl[q.1]? = some (p.1, p.2.1) ∧ VR E w p.2.2 q.2) {z' : List AV} (h : aBuild zz.cells ps = some z') :
    Sim P (Instr.build t rs.toArray) E H w (.agg z') H := by
  have hdef : zz ≠ .undef := by rintro rfl; simp [AV.def?] at hzd
  obtain ⟨hsz, hcv⟩ := hzz.cells hdef
  obtain ⟨cells', h1, h2, h3⟩ := sim_fill (E := E) (w := w) ps (pl.toArray[·]?) rs zz.cells z' z.cells hl (fun k p q hk hq => by
    obtain ⟨a, b⟩ := hp k p q hk hq
    exact ⟨by simpa using a, b⟩) hsz hcv h
  refine Sim.same hH (v' := .agg cells') ?_ (.agg _ _ h2 h3)
  have hf := r_places (P := P) (w := w) fs hpl
  simp only [Instr.build, Sem.run_bind, r_zero hz, Result.andThen_ok, r_under hu]
  simp only [hf, Result.andThen_ok, h1, Sem.run_pure]

theorem sim_buildArr (hH : HRel E H w) {t : TypeId} {n e sz : Nat} (hu : P.underlying t = some (.array n e)) (hs : sizeT P e = some sz) {z : Value} (hz : zeroT P t = some z)
    {zz : AV} (hzd : zz.def? = true) (hzz : VR E w zz z) {ps : List (Nat × Nat × AV)} {rs : List (Nat × Value)} (hl : ps.length = rs.length)
    (hp : ∀ (k : Nat) p q, ps[k]? = some p → rs[k]? = some q → (q.1 * sz, sz) = (p.1, p.2.1) ∧ VR E w p.2.2 q.2) {z' : List AV} (h : aBuild zz.cells ps = some z') :
    Sim P (Instr.build t rs.toArray) E H w (.agg z') H := by
  have hdef : zz ≠ .undef := by rintro rfl; simp [AV.def?] at hzd
  obtain ⟨hsz, hcv⟩ := hzz.cells hdef
  obtain ⟨cells', h1, h2, h3⟩ := sim_fill (E := E) (w := w) ps (fun i => some (i * sz, sz)) rs zz.cells z' z.cells hl (fun k p q hk hq => by
    obtain ⟨a, b⟩ := hp k p q hk hq
    exact ⟨congrArg some a, b⟩) hsz hcv h
  refine Sim.same hH (v' := .agg cells') ?_ (.agg _ _ h2 h3)
  simp only [Instr.build, Sem.run_bind, r_zero hz, Result.andThen_ok, r_under hu, r_sizeOf hs, h1, Sem.run_pure]

/-! ### Rows whose elements are given -/
/-- The cells of rows' elements, one behind the other. -/
theorem flat_get {s : Nat} (xs : List AV) : ∀ (_ : ∀ x ∈ xs, x.cells.length = s) (i j : Nat) x c, xs[i]? = some x → x.cells[j]? = some c → (xs.flatMap AV.cells)[i * s + j]? = some c := by
  induction xs with
  | nil => intro _ i j x c h; simp at h
  | cons y ys ih =>
    intro hs i j x c hi hj
    have hy := hs y (by simp)
    cases i with
    | zero =>
      simp only [List.getElem?_cons_zero, Option.some.injEq] at hi
      subst hi
      have hlt : j < y.cells.length := by
        rcases Nat.lt_or_ge j y.cells.length with h | h
        · exact h
        · rw [List.getElem?_eq_none h] at hj; simp at hj
      simp only [List.flatMap_cons]
      rw [List.getElem?_append_left (by omega)]
      simpa using hj
    | succ i =>
      simp only [List.getElem?_cons_succ] at hi
      have := ih (fun x hx => hs x (by simp [hx])) i j x c hi hj
      simp only [List.flatMap_cons]
      rw [List.getElem?_append_right (by rw [hy, Nat.succ_mul]; omega), hy, show (i + 1) * s + j - s = i * s + j by rw [Nat.succ_mul]; omega]
      exact this

theorem flat_len {s : Nat} (xs : List AV) (hs : ∀ x ∈ xs, x.cells.length = s) : (xs.flatMap AV.cells).length = xs.length * s := by
  induction xs with
  | nil => simp
  | cons y ys ih =>
    simp only [List.flatMap_cons, List.length_append, List.length_cons, ih (fun x hx => hs x (by simp [hx])), hs y (by simp), Nat.succ_mul]
    omega

theorem elemsOk_spec {s : Nat} {ys : List AV} (h : elemsOk s ys = true) : ∀ y ∈ ys, y ≠ .undef ∧ y.cells.length = s ∧ y.cells.all AV.isCell = true := by
  intro y hy
  have := List.all_eq_true.1 h y hy
  simp only [Bool.and_eq_true, beq_iff_eq] at this
  exact ⟨by rintro rfl; simp [AV.def?] at this, this.1.2, this.2⟩

/-- Values that stand for elements: their cells, one behind the other, stand for the elements' cells. -/
theorem flat_VR {s : Nat} (xs : List AV) : ∀ (vs : List Value), xs.length = vs.length → (∀ x ∈ xs, x ≠ .undef ∧ x.cells.length = s) →
    (∀ (j : Nat) x u, xs[j]? = some x → vs[j]? = some u → VR E w x u) →
    (xs.flatMap AV.cells).length = (vs.flatMap fun v => v.cells.toList).length ∧
    (∀ v ∈ vs, v.cells.size = s) ∧
    ∀ (j : Nat) x u, (xs.flatMap AV.cells)[j]? = some x → (vs.flatMap fun v => v.cells.toList)[j]? = some u → VR E w x u := by
  induction xs with
  | nil => intro vs hl _ _; cases vs with
    | nil => simp
    | cons => simp at hl
  | cons x xs ih =>
    intro vs hl hs hv
    cases vs with
    | nil => simp at hl
    | cons v vs =>
      have hxv := hv 0 x v rfl rfl
      obtain ⟨hx1, hx2⟩ := hs x (by simp)
      obtain ⟨h1, h2⟩ := hxv.cells hx1
      obtain ⟨a, b, c⟩ := ih vs (by simpa using hl) (fun y hy => hs y (by simp [hy])) (fun j y u hj hu => hv (j + 1) y u (by simpa using hj) (by simpa using hu))
      refine ⟨by simp only [List.flatMap_cons, List.length_append, a, Array.length_toList, h1], fun u hu => ?_, fun j y u hj hu => ?_⟩
      · rcases List.mem_cons.1 hu with rfl | hu
        · omega
        · exact b u hu
      · simp only [List.flatMap_cons] at hj hu
        rcases Nat.lt_or_ge j x.cells.length with hlt | hge
        · rw [List.getElem?_append_left hlt] at hj
          rw [List.getElem?_append_left (by simp; omega)] at hu
          exact h2 j y u hj (by simpa using hu)
        · rw [List.getElem?_append_right hge] at hj
          rw [List.getElem?_append_right (by simp; omega)] at hu
          simp only [Array.length_toList] at hu
          rw [← h1] at hu
          exact c _ y u hj hu

/-- Filling every place of a row in order. -/
theorem fill_row (s : Nat) (vs : List Value) : ∀ (k : Nat) (cells : Array Value) (pre : List Value), (∀ v ∈ vs, v.cells.size = s) → cells.size = (k + vs.length) * s → pre.length = k * s → (∀ i, i < k * s → cells[i]? = pre[i]?) →
    Instr.fill (fun i => some (i * s, s)) cells ((vs.zipIdx k).map fun p => (p.2, p.1)) = some (pre ++ vs.flatMap fun v => v.cells.toList).toArray := by
  induction vs with
  | nil =>
    intro k cells pre _ hsz hpre hc
    simp only [List.zipIdx_nil, List.map_nil, Instr.fill, List.flatMap_nil, List.append_nil]
    congr 1
    apply Array.ext'
    apply List.ext_getElem?
    intro i
    simp only [Array.getElem?_toList]
    rcases Nat.lt_or_ge i (k * s) with h | h
    · exact hc i h
    · rw [Array.getElem?_eq_none (by simp at hsz; omega), List.getElem?_eq_none (by omega)]
  | cons v vs ih =>
    intro k cells pre hs hsz hpre hc
    have hv := hs v (by simp)
    simp only [List.length_cons] at hsz
    have hk : (k + (vs.length + 1)) * s = k * s + s + vs.length * s := by rw [Nat.add_mul, Nat.succ_mul]; omega
    simp only [List.zipIdx_cons, List.map_cons, Instr.fill]
    rw [if_neg (by simp; omega)]
    have hset : (v.cells.zipIdx.foldl (fun cs (x : Value × Nat) => cs.setIfInBounds (k * s + x.2) x.1) cells) = setCells cells (k * s) v.cells.toList := by
      rw [← Array.foldl_toList, Array.toList_zipIdx, foldl_set, Nat.add_zero]
    have := ih (k + 1) (setCells cells (k * s) v.cells.toList) (pre ++ v.cells.toList) (fun u hu => hs u (by simp [hu])) (by rw [setCells_size, hsz]; congr 1; omega)
      (by simp [hpre, hv, Nat.succ_mul]) (fun i hi => by
        rw [setCells_get _ _ _ _ (by simp; omega)]
        rw [Nat.succ_mul] at hi
        by_cases h : k * s ≤ i ∧ i < k * s + v.cells.toList.length
        · rw [if_pos h, List.getElem?_append_right (by omega), hpre]
        · rw [if_neg h]
          have hlt : i < k * s := by simp at h; omega
          rw [hc i hlt, List.getElem?_append_left (by omega)])
    rw [List.append_assoc] at this
    simp only [List.flatMap_cons]
    rw [← this]
    congr 1

theorem sim_litCells {t e s : Nat} (hu : P.underlying t = some (.slice e)) (hs : sizeT P e = some s) (hz : (zeroT P e).isSome) {xs : List AV} {vs : List Value} (hl : xs.length = vs.length)
    (hok : elemsOk s xs = true) (hv : ∀ (j : Nat) x u, xs[j]? = some x → vs[j]? = some u → VR E w x u) (hbig : xs.length * s ≤ 2 ^ 24) :
    (Instr.buildSlice t xs.length ((vs.zipIdx 0).map fun p => (p.2, p.1)).toArray).run P w =
      ((newRow e (vs.flatMap fun v => v.cells.toList).toArray).run P w).andThen fun a w' => .ok (.slice (some a) xs.length xs.length) w' := by
  have hspec := elemsOk_spec hok
  obtain ⟨_, hsz, _⟩ := flat_VR (s := s) xs vs hl (fun x hx => ⟨(hspec x hx).1, (hspec x hx).2.1⟩) hv
  obtain ⟨z, hz⟩ := Option.isSome_iff_exists.1 hz
  simp only [Instr.buildSlice, Sem.run_bind, r_under hu, Result.andThen_ok, r_sizeOf hs]
  rw [if_neg (by omega)]
  have hfill := fill_row s vs 0 ((Array.range (xs.length * s)).map fun i => (if xs.length * s = 0 then #[] else z.cells)[i % (if xs.length * s = 0 then (#[] : Array Value) else z.cells).size]!) [] hsz (by simp [hl]) (by simp) (by simp)
  simp only [List.nil_append] at hfill
  by_cases h0 : xs.length * s = 0
  · simp only [h0, if_true] at hfill ⊢
    simp only [Sem.run_pure, pure_bind, Sem.run_bind, hfill]
  · simp only [h0, if_false] at hfill ⊢
    simp only [Sem.run_bind, r_zero hz, Result.andThen_ok, Sem.run_pure, hfill]

theorem inL {α : Type} {c : List α} {i : Nat} {u : α} (h : c[i]? = some u) : i < c.length := by
  rcases Nat.lt_or_ge i c.length with h' | h'
  · exact h'
  · rw [List.getElem?_eq_none h'] at h; simp at h

/-- A row of elements that lie one behind the other in a block from a place on: each cell read there. -/
theorem row_cells {s r o : Nat} {xs : List AV} {cells : List Value} (hs : ∀ x ∈ xs, x.cells.length = s) (hcell : ∀ (j : Nat) u, cells[j]? = some u → w.cell? ⟨r, o + j, none⟩ = some u)
    (hlen : cells.length = (xs.flatMap AV.cells).length) (hv : ∀ (j : Nat) x u, (xs.flatMap AV.cells)[j]? = some x → cells[j]? = some u → VR E w x u) :
    ∃ us : Nat → Nat → Value, (∀ (i : Nat) x (j : Nat) c, xs[i]? = some x → x.cells[j]? = some c → w.cell? ⟨r, o + i * s + j, none⟩ = some (us i j)) ∧
      (∀ (i : Nat) x (j : Nat) c, xs[i]? = some x → x.cells[j]? = some c → VR E w c (us i j)) := by
  refine ⟨fun i j => (cells[i * s + j]?).getD undef, fun i x j c hi hj => ?_, fun i x j c hi hj => ?_⟩
  · have h1 := flat_get xs hs i j x c hi hj
    have h2 := inL h1
    have h3 : cells[i * s + j]? = some cells[i * s + j] := List.getElem?_eq_getElem (by omega)
    have := hcell _ _ h3
    simp only [h3, Option.getD_some]
    rw [show o + i * s + j = o + (i * s + j) by omega, this]
  · have h1 := flat_get xs hs i j x c hi hj
    have h2 := inL h1
    have h3 : cells[i * s + j]? = some cells[i * s + j] := List.getElem?_eq_getElem (by omega)
    simp only [h3, Option.getD_some]
    exact hv _ _ _ h1 h3

theorem elem_cells {s : Nat} {xs : List AV} (h : ∀ x ∈ xs, x ≠ .undef ∧ x.cells.length = s) {i : Nat} {x : AV} (hi : xs[i]? = some x) : x.cells.length = s :=
  (h x (List.mem_of_getElem? hi)).2

/-- A row that lies new in a block: given as one that nobody will write. -/
theorem newRow_ro (hH : HRel E H w) (e : TypeId) (fz : Nat × Nat) {s : Nat} {xs : List AV} {cells : Array Value} {cap : Nat} (hok : ∀ x ∈ xs, x ≠ .undef ∧ x.cells.length = s) (hcap : xs.length ≤ cap)
    (hlen : (xs.flatMap AV.cells).length ≤ cells.size) (hv : ∀ (j : Nat) x u, (xs.flatMap AV.cells)[j]? = some x → cells[j]? = some u → VR E w x u) :
    ∃ E', VR E' (w.alloc (.cells cells e fz)) (.sl 0 s xs) (.slice (some ⟨w.heap.size, 0, none⟩) xs.length cap) ∧ HRel E' H (w.alloc (.cells cells e fz)) ∧ Step E H w E' H (w.alloc (.cells cells e fz)) := by
  have hfl := flat_len xs (fun x hx => (hok x hx).2)
  obtain ⟨h1, h2⟩ := hH.allocRow cells e fz (xs.length * s) (by omega)
  obtain ⟨us, a, b⟩ := row_cells (E := E.addProt w.heap.size (xs.length * s)) (w := w.alloc (.cells cells e fz)) (s := s) (r := w.heap.size) (o := 0) (xs := xs) (cells := cells.toList.take (xs.flatMap AV.cells).length) (fun x hx => (hok x hx).2)
    (fun j u hj => by
      rw [cell_of_block (heap_alloc_new _ _), Nat.zero_add]
      rw [List.getElem?_take] at hj
      split at hj
      · simpa using hj
      · simp at hj) (by have := Array.length_toList (xs := cells); rw [List.length_take]; omega) (fun j x u hj hu => (hv j x u hj (by
        rw [List.getElem?_take] at hu
        split at hu
        · simpa using hu
        · simp at hu)).mono h2.ext)
  refine ⟨_, .sl 0 s xs _ 0 cap us hcap (fun i x hi => elem_cells hok hi) a (fun i x j c hi hj => Or.inr ⟨rfl, ?_⟩) b (fun h => absurd rfl h) (fun _ => Or.inr rfl), h1, h2⟩
  have := inL (flat_get xs (fun x hx => (hok x hx).2) i j x c hi hj)
  omega

/-- The same, as one that may be appended to. -/
theorem newRow_tok (hH : HRel E H w) (h0 : 0 < H.toks.length) (e : TypeId) (fz : Nat × Nat) {s : Nat} {xs : List AV} {cells : Array Value} {cap : Nat} (hok : ∀ x ∈ xs, x ≠ .undef ∧ x.cells.length = s) (hcap : xs.length ≤ cap)
    (hlen : cap * s ≤ cells.size) (hfz : ∀ i, i < cells.size → ¬ (fz.1 ≤ i ∧ i < fz.2)) (hv : ∀ (j : Nat) x u, (xs.flatMap AV.cells)[j]? = some x → cells[j]? = some u → VR E w x u) (te : Nat) (hte : te ≠ 0 → e = te ∧ (fz.1 = fz.2 ∨ fz.1 = 0)) :
    ∃ E', VR E' (w.alloc (.cells cells e fz)) (.sl H.toks.length s xs) (.slice (some ⟨w.heap.size, 0, none⟩) xs.length cap) ∧ HRel E' ⟨H.obs, H.toks ++ [(xs.length, s, te)]⟩ (w.alloc (.cells cells e fz)) ∧
      Step E H w E' ⟨H.obs, H.toks ++ [(xs.length, s, te)]⟩ (w.alloc (.cells cells e fz)) := by
  have hfl := flat_len xs (fun x hx => (hok x hx).2)
  have hmul : xs.length * s ≤ cap * s := Nat.mul_le_mul_right s hcap
  obtain ⟨h1, h2⟩ := hH.allocTok h0 cells e xs.length s cap hcap hlen fz hfz te hte
  obtain ⟨us, a, b⟩ := row_cells (E := E.addTok H.toks.length xs.length s ⟨w.heap.size, 0, cap⟩) (w := w.alloc (.cells cells e fz)) (s := s) (r := w.heap.size) (o := 0) (xs := xs) (cells := cells.toList.take (xs.flatMap AV.cells).length) (fun x hx => (hok x hx).2)
    (fun j u hj => by
      rw [cell_of_block (heap_alloc_new _ _), Nat.zero_add]
      rw [List.getElem?_take] at hj
      split at hj
      · simpa using hj
      · simp at hj) (by have := Array.length_toList (xs := cells); rw [List.length_take]; omega) (fun j x u hj hu => (hv j x u hj (by
        rw [List.getElem?_take] at hu
        split at hu
        · simpa using hu
        · simp at hu)).mono h2.ext)
  refine ⟨_, .sl _ s xs _ 0 cap us hcap (fun i x hi => elem_cells hok hi) a (fun i x j c hi hj => Or.inr ⟨rfl, Nat.zero_le _, ?_⟩) b (fun _ => ⟨xs.length, s, ?_, Nat.le_refl _, fun _ => ⟨rfl, ?_⟩⟩) (fun h => by omega), h1, h2⟩
  · simp [Env.addTok]
  · simp [Env.addTok]
  · have := inL (flat_get xs (fun x hx => (hok x hx).2) i j x c hi hj)
    show 0 + i * s + j < 0 + xs.length * s
    omega

/-- The same, as one that may be written. -/
theorem newRow_ref (hH : HRel E H w) (e : TypeId) {s : Nat} {xs : List AV} {cells : Array Value} {cap n : Nat} (hn : n ≤ cap) (hcap : cap * s ≤ cells.size)
    (hlen : xs.length ≤ cells.size) (hv : ∀ (j : Nat) x u, xs[j]? = some x → cells[j]? = some u → VR E w x u) (hB : ∀ (j : Nat) x, xs[j]? = some x → x.isB = false) :
    ∃ E', VR E' (w.alloc (.cells cells e)) (.slr H.obs.length 0 n s) (.slice (some ⟨w.heap.size, 0, none⟩) n cap) ∧ HRel E' ⟨H.obs ++ [.cells xs], H.toks⟩ (w.alloc (.cells cells e)) ∧
      Step E H w E' ⟨H.obs ++ [.cells xs], H.toks⟩ (w.alloc (.cells cells e)) := by
  obtain ⟨h1, h2, h3⟩ := hH.allocRef (.cells cells e) (.cells xs) ⟨w.heap.size, 0, cells.size⟩ rfl (fun E' hx hnp => by
    refine ⟨cells, e, (0, 0), heap_alloc_new _ _, rfl, by simp; omega, fun j x hj => ?_, .inl rfl, hnp, fun j x hj hb => by rw [hB j x hj] at hb; simp at hb⟩
    have hj' : j < cells.size := by have := inL hj; omega
    exact ⟨cells[j], by simp [hj'], (hv j x _ hj (Array.getElem?_eq_getElem hj')).mono hx⟩)
  exact ⟨_, .slr _ 0 n s cap 0 _ h3 hn (fun _ => ⟨rfl, by show 0 + 0 + cap * s ≤ cells.size; omega⟩), h1, h2⟩

theorem flat_isB' {s : Nat} {xs : List AV} (h : ∀ x ∈ xs, x ≠ .undef ∧ x.cells.length = s ∧ x.cells.all AV.isCell = true) (j : Nat) (x : AV) (hj : (xs.flatMap AV.cells)[j]? = some x) : x.isB = false := by
  obtain ⟨y, hy, hx⟩ := List.mem_flatMap.1 (List.mem_of_getElem? hj)
  exact isCell_isB (List.all_eq_true.1 (h y hy).2.2 x hx)
theorem flat_isB {s : Nat} {xs : List AV} (h : elemsOk s xs = true) (j : Nat) (x : AV) (hj : (xs.flatMap AV.cells)[j]? = some x) : x.isB = false := by
  obtain ⟨y, hy, hx⟩ := List.mem_flatMap.1 (List.mem_of_getElem? hj)
  have := List.all_eq_true.1 h y hy
  simp only [Bool.and_eq_true] at this
  exact isCell_isB (List.all_eq_true.1 this.2 x hx)

theorem sim_lit (hH : HRel E H w) (h0 : 0 < H.toks.length) {t e s : Nat} (hu : P.underlying t = some (.slice e)) (hs : sizeT P e = some s) (hz : (zeroT P e).isSome) {xs : List AV} {vs : List Value} (hl : xs.length = vs.length)
    (hok : elemsOk s xs = true) (hv : ∀ (j : Nat) x u, xs[j]? = some x → vs[j]? = some u → VR E w x u) (hbig : xs.length * s ≤ 2 ^ 24) (m : Mode) :
    Sim P (Instr.buildSlice t xs.length ((vs.zipIdx 0).map fun p => (p.2, p.1)).toArray) E H w
      (match m with | .ro => .sl 0 s xs | .tok => .sl H.toks.length s xs | .ref => .slr H.obs.length 0 xs.length s)
      (match m with | .ro => H | .tok => ⟨H.obs, H.toks ++ [(xs.length, s, 0)]⟩ | .ref => ⟨H.obs ++ [.cells (xs.flatMap AV.cells)], H.toks⟩) := by
  have hspec := elemsOk_spec hok
  have hok' : ∀ x ∈ xs, x ≠ .undef ∧ x.cells.length = s := fun x hx => ⟨(hspec x hx).1, (hspec x hx).2.1⟩
  obtain ⟨hlen, hsz, hcv⟩ := flat_VR (s := s) xs vs hl hok' hv
  have hfl := flat_len xs (fun x hx => (hok' x hx).2)
  have hrun := sim_litCells (P := P) (w := w) hu hs hz hl hok hv hbig
  have hnew : (newRow e (vs.flatMap fun v => v.cells.toList).toArray).run P w = .ok ⟨w.heap.size, 0, none⟩ (w.alloc (.cells (vs.flatMap fun v => v.cells.toList).toArray e)) := rfl
  rw [hnew] at hrun
  simp only [Result.andThen_ok] at hrun
  have hcv' : ∀ (j : Nat) x u, (xs.flatMap AV.cells)[j]? = some x → ((vs.flatMap fun v => v.cells.toList).toArray)[j]? = some u → VR E w x u := fun j x u hj hu => hcv j x u hj (by simpa using hu)
  have hsize : ((vs.flatMap fun v => v.cells.toList).toArray).size = xs.length * s := by rw [List.size_toArray]; omega
  cases m with
  | ro =>
    obtain ⟨E', a, b, c⟩ := newRow_ro hH e (0, 0) (cap := xs.length) hok' (Nat.le_refl _) (by rw [hsize]; omega) hcv'
    exact ⟨E', _, _, hrun, a, b, c⟩
  | tok =>
    obtain ⟨E', a, b, c⟩ := newRow_tok hH h0 e (0, 0) (cap := xs.length) hok' (Nat.le_refl _) (by rw [hsize]; omega) (fun i _ h => by simp at h) hcv' 0 (fun h => absurd rfl h)
    exact ⟨E', _, _, hrun, a, b, c⟩
  | ref =>
    obtain ⟨E', a, b, c⟩ := newRow_ref (s := s) (cap := xs.length) (n := xs.length) hH e (xs := xs.flatMap AV.cells) (Nat.le_refl _) (by rw [hsize]; omega) (by rw [hsize]; omega) hcv' (flat_isB hok)
    exact ⟨E', _, _, hrun, a, b, c⟩

end Go.SV

namespace Go.SV

variable {P : Program} {E E' : Env} {H H' : AH} {w w' : World}

theorem flat_at {s : Nat} {xs : List AV} (hs : ∀ x ∈ xs, x.cells.length = s) {k : Nat} {c : AV} (h : (xs.flatMap AV.cells)[k]? = some c) :
    ∃ x, xs[k / s]? = some x ∧ x.cells[k % s]? = some c ∧ k / s * s + k % s = k := by
  have hk := inL h
  rw [flat_len xs hs] at hk
  have hs0 : 0 < s := by
    rcases Nat.eq_zero_or_pos s with h0 | h0
    · subst h0; simp at hk
    · exact h0
  have hdm : k / s * s + k % s = k := by rw [Nat.mul_comm]; exact Nat.div_add_mod k s
  have hi : k / s < xs.length := (Nat.div_lt_iff_lt_mul hs0).2 hk
  have hx : xs[k / s]? = some xs[k / s] := List.getElem?_eq_getElem hi
  have hj : k % s < xs[k / s].cells.length := by rw [hs _ (List.getElem_mem _)]; exact Nat.mod_lt _ hs0
  have hc : xs[k / s].cells[k % s]? = some xs[k / s].cells[k % s] := List.getElem?_eq_getElem hj
  have := flat_get xs hs _ _ _ _ hx hc
  rw [hdm, h] at this
  injection this with this
  exact ⟨_, hx, by rw [hc, this], hdm⟩

/-- The cells of a row's elements, as the machine reads them. -/
theorem elems_run (hH : HRel E H w) {s : Nat} {y : AV} {vy : Value} {ys : List AV} (hy : VR E w y vy) (he : elems s y H = some ys) (hok : ∀ x ∈ ys, x ≠ .undef ∧ x.cells.length = s) :
    (Builtin.lenOf vy).run P w = .ok ys.length w ∧ ∃ cells : List Value, (∀ d, (Builtin.firstCells s ys.length vy).run P { w with drawn := d } = .ok cells.toArray { w with drawn := d }) ∧
      cells.length = (ys.flatMap AV.cells).length ∧ (∀ (j : Nat) x u, (ys.flatMap AV.cells)[j]? = some x → cells[j]? = some u → VR E w x u) := by
  have hsz : ∀ x ∈ ys, x.cells.length = s := fun x hx => (hok x hx).2
  have hfl := flat_len ys hsz
  have rowcase : ∀ (r o : Nat) (f : Nat → Value), (∀ k, k < ys.length * s → w.cell? ⟨r, o + k, none⟩ = some (f k)) → (∀ k x, (ys.flatMap AV.cells)[k]? = some x → VR E w x (f k)) →
      ∃ cells : List Value, (∀ d, (loadCells ⟨r, o, none⟩ (ys.length * s)).run P { w with drawn := d } = .ok cells.toArray { w with drawn := d }) ∧
      cells.length = (ys.flatMap AV.cells).length ∧ (∀ (j : Nat) x u, (ys.flatMap AV.cells)[j]? = some x → cells[j]? = some u → VR E w x u) := by
    intro r o f h1 h2
    refine ⟨(List.range (ys.length * s)).map f, fun d => run_loadCells _ _ _ f (fun j hj => by rw [add_addr]; exact h1 j hj), by simp; simpa using hfl.symm, fun j x u hj hu => ?_⟩
    have hlt : j < ys.length * s := by have := inL hj; omega
    simp [hlt] at hu
    exact hu ▸ h2 j x hj
  unfold elems at he
  split at he
  · injection he with he; subst he
    cases hy
    exact ⟨by simp [Builtin.lenOf], [], fun d => by simp [Builtin.firstCells], rfl, fun j x u h => by simp at h⟩
  · rename_i t s' xs
    split at he
    case isFalse => simp at he
    rename_i ess
    subst ess
    injection he with he; subst he
    cases hy with
    | sl _ _ _ r o cap us hcap hs hc hp hv ht h0 =>
      refine ⟨by simp [Builtin.lenOf], ?_⟩
      have := rowcase r o (fun k => us (k / s') (k % s')) (fun k hk => by
        have h1 : (xs.flatMap AV.cells)[k]? = some (xs.flatMap AV.cells)[k] := List.getElem?_eq_getElem (by omega)
        obtain ⟨x, hx, hcx, hdm⟩ := flat_at hsz h1
        have := hc _ _ _ _ hx hcx
        rw [← this]
        congr 2
        omega) (fun k x hk => by
        obtain ⟨y, hy, hcy, _⟩ := flat_at hsz hk
        exact hv _ _ _ _ hy hcy)
      simpa [Builtin.firstCells] using this
    | sle _ a => exact ⟨by simp [Builtin.lenOf], [], fun d => by simp [Builtin.firstCells, loadCells, loadCellsFrom], rfl, fun j x u h => by simp at h⟩
  · rename_i l
    injection he with he; subst he
    cases hy
    have hlen : (ByteArray.mk l.toArray).size = l.length := by simp [ByteArray.size]
    have hl1 : l.length = (l.map fun b => AV.int .u8 b.toNat).length * s := by
      cases l with
      | nil => simp
      | cons a l => have := hsz (.int .u8 a.toNat) (by simp); simp [AV.cells] at this ⊢; rw [← this]; omega
    refine ⟨by simp [Builtin.lenOf, hlen], (l.map fun b => .int .u8 b.toNat), fun d => ?_, by rw [hfl, ← hl1]; simp, ?_⟩
    · simp only [Builtin.firstCells, Sem.run_pure]
      congr 1
      apply Array.ext'
      simp
    · intro j x u hj hu
      have : (List.flatMap AV.cells (l.map fun b => AV.int .u8 b.toNat)) = l.map fun b => AV.int .u8 b.toNat := by
        clear hj hu hok hsz hfl rowcase hlen hl1
        induction l with
        | nil => rfl
        | cons a l ih => simp only [List.map_cons, List.flatMap_cons, ih, AV.cells]; rfl
      rw [this] at hj
      simp only [List.getElem?_map, Option.map_eq_some_iff] at hj hu
      obtain ⟨a, ha, rfl⟩ := hj
      obtain ⟨b, hb, rfl⟩ := hu
      rw [ha] at hb; injection hb with hb; subst hb
      exact .int _ _
  · rename_i b o n s'
    split at he
    · rename_i es; subst es
      split at he
      · rename_i c hc
        split at he
        · rename_i hle
          injection he with he
          cases hy with
          | slr _ _ _ _ cap o' L hL hn ho =>
            obtain ⟨h1, h2⟩ := ref_cells hH hL hc
            have hlen : ys.length = n := by rw [← he]; simp
            refine ⟨by simp [Builtin.lenOf, hlen], ?_⟩
            have hcell : ∀ k, k < n * s' → (ys.flatMap AV.cells)[k]? = c[o + k]? := by
              intro k hk
              have hkl : k < (ys.flatMap AV.cells).length := by rw [hfl, hlen]; exact hk
              obtain ⟨x, hx, hcx, hdm⟩ := flat_at hsz (List.getElem?_eq_getElem hkl)
              rw [List.getElem?_eq_getElem hkl, ← hcx]
              rw [← he] at hx
              have hi := inL hx
              simp only [List.length_map, List.length_range] at hi
              simp only [List.getElem?_map, List.getElem?_range hi, Option.map_some, Option.some.injEq] at hx
              subst hx
              rw [mkElem_cells] at hcx ⊢
              have hmod : k % s' < s' := by have := inL hcx; simp at this; omega
              rw [List.getElem?_take, if_pos hmod, List.getElem?_drop]
              congr 1
              omega
            by_cases h0 : n = 0
            · subst h0
              have hy0 : ys = [] := by cases ys <;> simp_all
              subst hy0
              exact ⟨[], fun d => by simp [Builtin.firstCells, loadCells, loadCellsFrom], by simp, fun j x u h => by simp at h⟩
            · have hcap : cap ≠ 0 := by omega
              obtain ⟨ho1, ho2⟩ := ho hcap
              have := rowcase L.r o' (fun k => (w.cell? ⟨L.r, o' + k, none⟩).getD undef) (fun k hk => by
                have hk' : o + k < c.length := by rw [hlen] at hk; omega
                obtain ⟨u, hu, _⟩ := h2 (o + k) _ (List.getElem?_eq_getElem hk')
                rw [ho1, show L.d + o + k = L.d + (o + k) by omega, hu]; rfl) (fun k x hk => by
                have hk2 := inL hk
                rw [hfl, hlen] at hk2
                rw [hcell k hk2] at hk
                obtain ⟨u, hu, hvu⟩ := h2 (o + k) x hk
                rw [ho1, show L.d + o + k = L.d + (o + k) by omega, hu]; exact hvu)
              simpa [Builtin.firstCells] using this
        · simp at he
      · simp at he
    · simp at he
  · simp at he


theorem growBy_le (newLen : Nat) : ∀ (r c : Nat), 256 ≤ c → c ≤ 2 * newLen → Builtin.growBy newLen r c ≤ 2 * newLen := by
  intro r
  induction r with
  | zero => intro c _ h; exact h
  | succ r ih =>
    intro c hc h
    simp only [Builtin.growBy]
    split
    · exact h
    · exact ih _ (by omega) (by omega)

theorem nextcap_le {need cap : Nat} (h : cap < need) : Builtin.nextslicecap need cap ≤ 2 * need := by
  unfold Builtin.nextslicecap
  split
  · omega
  · split
    · omega
    · exact growBy_le _ _ _ (by omega) (by omega)

theorem run_append_in {t tx e s : Nat} {dx : TypeDesc} (hu : P.underlying t = some (.slice e)) (hx : P.underlying tx = some dx) (hdx : ∀ k, dx ≠ .int k) (hs : sizeT P e = some s)
    {base : Option Addr} {len cap n T : Nat} {vx : Value} {new : List Value} (hn : (Builtin.lenOf vx).run P w = .ok n w) (hnew : (Builtin.firstCells s n vx).run P w = .ok new.toArray w) (hle : len + n ≤ cap) :
    (Builtin.append_ #[t, tx] T #[.slice base len cap, vx]).run P w =
      ((match base with | some a => storeCells (a.add (len * s)) new | none => pure ()).run P w).andThen fun _ w' => .ok (.slice base (len + n) cap) w' := by
  have hz : (match dx with | .int _ => true | _ => false) = false := by cases dx <;> first | rfl | exact absurd rfl (hdx _)
  simp only [Builtin.append_, List.getElem?_toArray, List.getElem?_cons_zero, List.getElem?_cons_succ, Sem.run_bind, r_under hu, Result.andThen_ok, r_sizeOf hs, r_under hx, Sem.run_pure, hz, Bool.false_eq_true, if_false, hn, Bool.not_false, if_true, hnew]
  rw [if_pos hle]
  cases base with
  | none => simp [hnew]
  | some a => simp [hnew]

theorem run_append_new {t tx e s bytes : Nat} {dx : TypeDesc} {z : Value} (hu : P.underlying t = some (.slice e)) (hx : P.underlying tx = some dx) (hdx : ∀ k, dx ≠ .int k) (hs : sizeT P e = some s)
    (hb : bytesT P e = some bytes) (hb0 : 0 < bytes) (hz0 : zeroT P e = some z) (hzs : z.cells.size = s)
    {base : Option Addr} {len cap n T : Nat} {vx : Value} {old new : List Value} (hn : (Builtin.lenOf vx).run P w = .ok n w) (hold : ∀ d, (Builtin.firstCells s len (.slice base len cap)).run P { w with drawn := d } = .ok old.toArray { w with drawn := d })
    (hnew : ∀ d, (Builtin.firstCells s n vx).run P { w with drawn := d } = .ok new.toArray { w with drawn := d }) (hlt : cap < len + n) (hbig : (len + n) * bytes ≤ 2 ^ 47) :
    ∃ newCap rest d, len + n ≤ newCap ∧ rest.length = (newCap - (len + n)) * s ∧ (Builtin.append_ #[t, tx] T #[.slice base len cap, vx]).run P w =
      .ok (.slice (some ⟨w.heap.size, 0, none⟩) (len + n) newCap) (World.alloc { w with drawn := d } (.cells (old ++ new ++ rest).toArray e)) := by
  have hz : (match dx with | .int _ => true | _ => false) = false := by cases dx <;> first | rfl | exact absurd rfl (hdx _)
  simp only [bytesT, Option.map_eq_some_iff] at hb
  obtain ⟨i, hi, hib⟩ := hb
  have hneed : len + n ≤ 2 ^ 47 := Nat.le_trans (Nat.le_mul_of_pos_right _ hb0) hbig
  have hq : ¬ (((len + n : Nat) : Int) > IntKind.i64.max ∧ (False ∨ i.bytes = 0)) := by
    have hmax : IntKind.i64.max = 9223372036854775807 := by decide
    rw [hib, hmax]; omega
  have hcap := nextcap_le hlt
  have hmul : Builtin.nextslicecap (len + n) cap * i.bytes ≤ 2 * (len + n) * i.bytes := Nat.mul_le_mul_right _ hcap
  have hr2 : ¬ (Builtin.nextslicecap (len + n) cap * i.bytes > 2 ^ 48) := by
    have h2 : 2 * (len + n) * i.bytes = 2 * ((len + n) * i.bytes) := Nat.mul_assoc _ _ _
    rw [hib] at hmul h2 ⊢
    omega
  let t0 := w.tape w.drawn (.appendCap (len + n) cap e)
  let nc := len + n + t0 % (2 ^ 63 - (len + n))
  refine ⟨nc, (Builtin.zeroCells z.cells (nc - (len + n))).toList, w.drawn + 1, Nat.le_add_right _ _, by simp [Builtin.zeroCells, hzs], ?_⟩
  have hm : ¬ (len + n ≤ cap) := by omega
  have hro := hold (w.drawn + 1)
  have hrn := hnew (w.drawn + 1)
  simp only [Builtin.append_, List.getElem?_toArray, List.getElem?_cons_zero, List.getElem?_cons_succ, Sem.run_bind, r_under hu, Result.andThen_ok, r_sizeOf hs, r_under hx, Sem.run_pure, hz, Bool.false_eq_true, if_false, hn, Bool.not_false, if_true, r_typeInfo hi]
  rw [if_neg hm]
  rw [Sem.run_bind, r_typeInfo hi, Result.andThen_ok, if_neg hq, Sem.run_bind, r_typeInfo hi, Result.andThen_ok, if_neg hr2]
  have hch : (choose (.appendCap (len + n) cap e)).run P w = .ok nc { w with drawn := w.drawn + 1 } := by
    rw [run_choose]; rfl
  simp only [Sem.run_bind, hch, Result.andThen_ok, r_typeInfo hi, run_askRoom, hro, hrn, r_zero hz0, Sem.run_pure]
  have : (newRow e (old.toArray ++ new.toArray ++ Builtin.zeroCells z.cells (nc - (len + n)))).run P { w with drawn := w.drawn + 1 } = .ok ⟨w.heap.size, 0, none⟩ (World.alloc { w with drawn := w.drawn + 1 } (.cells (old.toArray ++ new.toArray ++ Builtin.zeroCells z.cells (nc - (len + n))) e)) := rfl
  rw [this]
  simp only [Result.andThen_ok]
  congr 3
  apply Array.ext'
  simp

/-- What an append is told of its types. -/
structure AppT (P : Program) (t tx e s bytes : Nat) : Prop where
  hu : P.underlying t = some (.slice e)
  hx : ∃ dx, P.underlying tx = some dx ∧ ∀ k, dx ≠ .int k
  hs : sizeT P e = some s
  hb : bytesT P e = some bytes
  hb0 : 0 < bytes
  hz : ∃ z, zeroT P e = some z ∧ z.cells.size = s

/-- Cells, then others: what they stand for. -/
theorem cells_app {xs ys : List AV} {cs ds : List Value} (hl : cs.length = xs.length) (h1 : ∀ (j : Nat) x u, xs[j]? = some x → cs[j]? = some u → VR E w x u)
    (h2 : ∀ (j : Nat) x u, ys[j]? = some x → ds[j]? = some u → VR E w x u) (rest : List Value) (j : Nat) (x : AV) (u : Value) (hj : (xs ++ ys)[j]? = some x) (hu : ((cs ++ ds ++ rest).toArray)[j]? = some u) (hld : ds.length = ys.length) : VR E w x u := by
  simp only [List.getElem?_toArray] at hu
  have hlt := inL hj
  simp only [List.length_append] at hlt
  rw [List.getElem?_append_left (by simp; omega)] at hu
  rcases Nat.lt_or_ge j xs.length with h | h
  · rw [List.getElem?_append_left h] at hj
    rw [List.getElem?_append_left (by omega)] at hu
    exact h1 j x u hj hu
  · rw [List.getElem?_append_right h] at hj
    rw [List.getElem?_append_right (by omega), hl] at hu
    exact h2 _ x u hj hu

theorem sim_append_nil (hH : HRel E H w) (h0 : 0 < H.toks.length) {t tx e s bytes T : Nat} (hT : AppT P t tx e s bytes) {vy : Value} {ys : List AV} (hok : ∀ x ∈ ys, x ≠ .undef ∧ x.cells.length = s)
    (hn : (Builtin.lenOf vy).run P w = .ok ys.length w) {cells : List Value} (hc : ∀ d, (Builtin.firstCells s ys.length vy).run P { w with drawn := d } = .ok cells.toArray { w with drawn := d })
    (hcl : cells.length = (ys.flatMap AV.cells).length) (hcv : ∀ (j : Nat) x u, (ys.flatMap AV.cells)[j]? = some x → cells[j]? = some u → VR E w x u) (hpos : 0 < ys.length) (hbig : ys.length * bytes ≤ 2 ^ 47) (m : Bool) (hB : ∀ (j : Nat) (x : AV), (ys.flatMap AV.cells)[j]? = some x → x.isB = false) :
    Sim P (Builtin.append_ #[t, tx] T #[.slice none 0 0, vy]) E H w (if m then .slr H.obs.length 0 ys.length s else .sl H.toks.length s ys)
      (if m then ⟨H.obs ++ [.cells (ys.flatMap AV.cells)], H.toks⟩ else ⟨H.obs, H.toks ++ [(ys.length, s, e)]⟩) := by
  obtain ⟨dx, hx, hdx⟩ := hT.hx
  obtain ⟨z, hz, hzs⟩ := hT.hz
  obtain ⟨nc, rest, d, h1, h2, hrun⟩ := run_append_new (P := P) (w := w) (T := T) hT.hu hx hdx hT.hs hT.hb hT.hb0 hz hzs (base := none) (len := 0) (cap := 0) (old := []) hn (fun d => by simp [Builtin.firstCells]) hc (by omega) (by simpa using hbig)
  obtain ⟨hD, sD⟩ := hH.drew d
  have hfl := flat_len ys (fun x hx => (hok x hx).2)
  have hcv' : ∀ (j : Nat) x u, (ys.flatMap AV.cells)[j]? = some x → (([] ++ cells ++ rest).toArray)[j]? = some u → VR E { w with drawn := d } x u := by
    intro j x u hj hu
    have := inL hj
    simp only [List.nil_append, List.getElem?_toArray] at hu
    rw [List.getElem?_append_left (by omega)] at hu
    exact (hcv j x u hj hu).mono sD.ext
  simp only [Nat.zero_add] at h1 h2 hrun
  have hsz : (([] ++ cells ++ rest).toArray).size = nc * s := by
    simp only [List.nil_append, List.size_toArray, List.length_append, h2, hcl, hfl]
    rw [← Nat.add_mul]; congr 1; omega
  cases m with
  | true =>
    obtain ⟨E', a, b, c⟩ := newRow_ref (s := s) (cap := nc) (n := ys.length) hD e (xs := ys.flatMap AV.cells) h1 (by rw [hsz]; exact Nat.le_refl _) (by rw [hsz, hfl]; exact Nat.mul_le_mul_right _ h1) hcv' hB
    exact ⟨E', _, _, hrun, a, b, sD.trans c⟩
  | false =>
    obtain ⟨E', a, b, c⟩ := newRow_tok hD h0 e (0, 0) (cap := nc) hok h1 (by rw [hsz]; exact Nat.le_refl _) (fun i _ h => by simp at h) hcv' e (fun _ => ⟨rfl, .inl rfl⟩)
    exact ⟨E', _, _, hrun, a, b, sD.trans c⟩

theorem sim_append_tok (hH : HRel E H w) {t tx e s bytes T : Nat} (hT : AppT P t tx e s bytes) {vx vy : Value} {k : Nat} {xs ys : List AV} (hx : VR E w (.sl k s xs) vx) (hk : k ≠ 0) (hk2 : H.toks[k]?.map (fun p => (p.1, p.2.1)) = some (xs.length, s))
    (hok : ∀ x ∈ ys, x ≠ .undef ∧ x.cells.length = s ∧ x.cells.all AV.isCell = true)
    (hn : (Builtin.lenOf vy).run P w = .ok ys.length w) {cells : List Value} (hc : ∀ d, (Builtin.firstCells s ys.length vy).run P { w with drawn := d } = .ok cells.toArray { w with drawn := d })
    (hcl : cells.length = (ys.flatMap AV.cells).length) (hcv : ∀ (j : Nat) x u, (ys.flatMap AV.cells)[j]? = some x → cells[j]? = some u → VR E w x u) (hpos : 0 < ys.length) (hbig : (xs.length + ys.length) * bytes ≤ 2 ^ 47) :
    Sim P (Builtin.append_ #[t, tx] T #[vx, vy]) E H w (.sl k s (xs ++ ys)) ⟨H.obs, H.toks.set k (xs.length + ys.length, s, tokTy H k e)⟩ := by
  obtain ⟨dx, hdxu, hdx⟩ := hT.hx
  obtain ⟨z, hz, hzs⟩ := hT.hz
  have hfl := flat_len ys (fun x hx => (hok x hx).2.1)
  have hall : (ys.flatMap AV.cells).all AV.isCell = true := by
    rw [List.all_eq_true]
    intro c hcm
    obtain ⟨x, hxm, hcx⟩ := List.mem_flatMap.1 hcm
    exact List.all_eq_true.1 (hok x hxm).2.2 c hcx
  cases hx with
  | sle => exact absurd rfl hk
  | sl _ _ _ r o cap us hcap hs hcc hp hv ht h0 =>
    obtain ⟨n, s0, hcl0, hle, he⟩ := ht hk
    have htok := hH.tok k n s0 hcl0
    obtain ⟨_, te, hts, htr⟩ := htok
    rw [hts] at hk2
    simp only [Option.map_some, Option.some.injEq, Prod.mk.injEq] at hk2
    obtain ⟨e1, e2⟩ := hk2
    replace e2 := e2.symm
    subst e1; subst e2
    have hty : tokTy H k e ≠ 0 → tokTy H k e = e ∧ te = e := by
      unfold tokTy
      rw [hts]
      simp only [Option.map_some, Option.some.injEq]
      split
      · rename_i h; exact fun _ => ⟨rfl, h⟩
      · exact fun h => absurd rfl h
    obtain ⟨e3, e4⟩ := he rfl
    obtain ⟨rc, e', fz, hb, hn1, hsz1, hfz, hnp, htt⟩ := htr
    rw [e4] at hb hn1 hsz1 hfz hnp htt
    simp only at hb hn1 hsz1 hfz hnp htt
    have hxok : ∀ x ∈ xs ++ ys, x.cells.length = s := by
      intro x hx
      rcases List.mem_append.1 hx with h | h
      · obtain ⟨i, hi, hxe⟩ := List.getElem_of_mem h
        exact hs i x (by rw [List.getElem?_eq_getElem hi, hxe])
      · exact (hok x h).2.1
    have hcell : w.heap[r]? = some (.cells rc e' fz) := hb
    have oldc : ∀ (j : Nat) c, (xs.flatMap AV.cells)[j]? = some c → ∃ u, rc[o + j]? = some u ∧ VR E w c u := by
      intro j c hj
      obtain ⟨x, hx, hcx, hdm⟩ := flat_at (fun x hx => hxok x (List.mem_append_left _ hx)) hj
      have h1 := hcc _ _ _ _ hx hcx
      rw [cell_of_block hcell] at h1
      rw [show o + j / s * s + j % s = o + j by omega] at h1
      exact ⟨_, h1, hv _ _ _ _ hx hcx⟩
    have hflx := flat_len xs (fun x hx => hxok x (List.mem_append_left _ hx))
    have hmul : (xs.length + ys.length) * s = xs.length * s + ys.length * s := Nat.add_mul _ _ _
    rcases Nat.lt_or_ge cap (xs.length + ys.length) with hlt | hge
    · -- a new block
      have hold : ∀ d, (Builtin.firstCells s xs.length (.slice (some ⟨r, o, none⟩) xs.length cap)).run P { w with drawn := d } = .ok (((List.range (xs.length * s)).map fun j => (rc[o + j]?).getD undef).toArray) { w with drawn := d } := fun d => by
        simp only [Builtin.firstCells]
        refine run_loadCells _ _ _ (fun j => (rc[o + j]?).getD undef) (fun j hj => ?_)
        have : (xs.flatMap AV.cells)[j]? = some (xs.flatMap AV.cells)[j] := List.getElem?_eq_getElem (by omega)
        obtain ⟨u, hu, _⟩ := oldc j _ this
        rw [add_addr, hu]
        show w.cell? _ = _
        rw [cell_of_block hcell, hu]; rfl
      obtain ⟨nc, rest, d, h1, h2, hrun⟩ := run_append_new (P := P) (w := w) (T := T) hT.hu hdxu hdx hT.hs hT.hb hT.hb0 hz hzs hn hold hc hlt hbig
      obtain ⟨hD, sD⟩ := hH.drew d
      have hsz : ((((List.range (xs.length * s)).map fun j => (rc[o + j]?).getD undef) ++ cells ++ rest).toArray).size = nc * s := by
        simp only [List.size_toArray, List.length_append, List.length_map, List.length_range, h2, hcl, hfl]
        rw [← Nat.add_mul, ← Nat.add_mul]; congr 1; omega
      obtain ⟨hM, sM⟩ := hD.moveTok hcl0 hpos ((((List.range (xs.length * s)).map fun j => (rc[o + j]?).getD undef) ++ cells ++ rest).toArray) e nc h1 (by rw [hsz]; exact Nat.le_refl _) (0, 0) (fun i _ h => by simp at h) (tokTy H k e) (fun h => ⟨(hty h).1.symm, .inl rfl⟩)
      have hxs : (xs ++ ys).length = xs.length + ys.length := List.length_append
      have hflall : (xs ++ ys).flatMap AV.cells = xs.flatMap AV.cells ++ ys.flatMap AV.cells := List.flatMap_append
      obtain ⟨us, a, b⟩ := row_cells (E := E.growTok k (xs.length + ys.length) s ⟨w.heap.size, 0, nc⟩) (w := World.alloc { w with drawn := d } (.cells ((((List.range (xs.length * s)).map fun j => (rc[o + j]?).getD undef) ++ cells ++ rest).toArray) e)) (s := s) (r := w.heap.size) (o := 0) (xs := xs ++ ys)
        (cells := (((List.range (xs.length * s)).map fun j => (rc[o + j]?).getD undef) ++ cells)) hxok (fun j u hj => by
          rw [cell_of_block (heap_alloc_new _ _), Nat.zero_add]
          simp only [List.getElem?_toArray]
          rw [List.getElem?_append_left (inL hj)]
          exact hj) (by rw [hflall]; simp only [List.length_append, List.length_map, List.length_range, hcl, hflx]) (fun j x u hj hu => by
          rw [hflall] at hj
          refine (cells_app (E := E) (w := w) (xs := xs.flatMap AV.cells) (ys := ys.flatMap AV.cells) (cs := (List.range (xs.length * s)).map fun j => (rc[o + j]?).getD undef) (ds := cells) (by rw [List.length_map, List.length_range, hflx]) ?_ hcv [] j x u hj (by simpa using hu) hcl).mono (sD.ext.trans sM.ext)
          intro j' x' u' hj' hu'
          obtain ⟨u2, hu2, hv2⟩ := oldc j' x' hj'
          have : j' < xs.length * s := by have := inL hj'; omega
          simp [this, hu2] at hu'
          exact hu' ▸ hv2)
      refine ⟨_, _, _, hrun, ?_, hM, sD.trans sM⟩
      have hVR := VR.sl (E := E.growTok k (xs.length + ys.length) s ⟨w.heap.size, 0, nc⟩) (w := World.alloc { w with drawn := d } (.cells ((((List.range (xs.length * s)).map fun j => (rc[o + j]?).getD undef) ++ cells ++ rest).toArray) e))
        k s (xs ++ ys) w.heap.size 0 nc us (by rw [hxs]; exact h1) (fun i x hi => hxok x (List.mem_of_getElem? hi)) a (fun i x j c hi hj => Or.inr ⟨rfl, Nat.zero_le _, ?_⟩) b (fun _ => ⟨xs.length + ys.length, s, by simp [Env.growTok], by rw [hxs]; exact Nat.le_refl _, fun _ => ⟨rfl, by simp [Env.growTok]⟩⟩) (fun h => absurd h hk)
      · rw [hxs] at hVR; exact hVR
      · have h5 := inL (flat_get _ hxok i j x c hi hj)
        rw [flat_len _ hxok, hxs] at h5
        show 0 + i * s + j < 0 + (xs.length + ys.length) * s
        omega
    · -- in place
      have hnew0 := hc w.drawn
      have hrun := run_append_in (P := P) (w := w) (T := T) hT.hu hdxu hdx hT.hs (base := some ⟨r, o, none⟩) hn hnew0 hge
      have hcapmul : (xs.length + ys.length) * s ≤ cap * s := Nat.mul_le_mul_right _ hge
      have hone : ∀ v ∈ cells, v.oneCell' = true := by
        intro v hv'
        have := oneCells (E := E) (w := w) (xs := ys.flatMap AV.cells) (vs := cells.toArray) (by simpa using hcl.symm) (fun j x u hj hu => hcv j x u hj (by simpa using hu)) hall v (by simpa using hv')
        exact this
      have hst := run_setCells (P := P) cells w r (o + xs.length * s) 0 rc e' fz hcell (by omega) (fun j h1 h2 => hfz j (by omega) (by omega)) hone
      simp only [Nat.add_zero] at hst
      simp only [add_addr] at hrun
      simp only [hst, Result.andThen_ok] at hrun
      have hlow : ∀ i, i < (E.tk k).o + xs.length * s → (setCells rc (o + xs.length * s) cells)[i]? = rc[i]? := by
        intro i hi
        rw [e4] at hi
        simp only at hi
        rw [setCells_get _ _ _ _ (by omega), if_neg (by omega)]
      have hb' : w.heap[(E.tk k).r]? = some (.cells rc e' fz) := by rw [e4]; exact hcell
      obtain ⟨hM, sM⟩ := hH.putTok (m := ys.length) hcl0 hb' (setCells_size _ _ _) hlow (by rw [e4]; exact hge) (tokTy H k e) (fun h => by
        obtain ⟨a, b⟩ := hty h
        rw [b] at htt
        rw [a] at h
        rw [e4, a]
        exact htt h)
      rw [e4] at hM sM
      simp only at hM sM
      have hxs : (xs ++ ys).length = xs.length + ys.length := List.length_append
      have hflall : (xs ++ ys).flatMap AV.cells = xs.flatMap AV.cells ++ ys.flatMap AV.cells := List.flatMap_append
      obtain ⟨us, a, b⟩ := row_cells (E := E.growTok k (xs.length + ys.length) s ⟨r, o, cap⟩) (w := putBlock w r (.cells (setCells rc (o + xs.length * s) cells) e' fz)) (s := s) (r := r) (o := o) (xs := xs ++ ys)
        (cells := (((List.range (xs.length * s)).map fun j => (rc[o + j]?).getD undef) ++ cells)) hxok (fun j u hj => by
          rw [cell_of_block (heap_put_same _ _ (lt_of_heap hcell)), setCells_get _ _ _ _ (by omega)]
          rcases Nat.lt_or_ge j (xs.length * s) with h | h
          · rw [if_neg (by omega)]
            rw [List.getElem?_append_left (by simpa using h)] at hj
            have hjx : j < (xs.flatMap AV.cells).length := by omega
            obtain ⟨u2, hu2, _⟩ := oldc j _ (List.getElem?_eq_getElem hjx)
            simp [h, hu2] at hj
            rw [hu2, hj]
          · have hj' := inL hj
            simp only [List.length_append, List.length_map, List.length_range] at hj'
            rw [if_pos (by omega)]
            rw [List.getElem?_append_right (by simpa using h)] at hj
            simp only [List.length_map, List.length_range] at hj
            rw [show o + j - (o + xs.length * s) = j - xs.length * s by omega]
            exact hj) (by rw [hflall]; simp only [List.length_append, List.length_map, List.length_range, hcl, hflx]) (fun j x u hj hu => by
          rw [hflall] at hj
          refine (cells_app (E := E) (w := w) (xs := xs.flatMap AV.cells) (ys := ys.flatMap AV.cells) (cs := (List.range (xs.length * s)).map fun j => (rc[o + j]?).getD undef) (ds := cells) (by rw [List.length_map, List.length_range, hflx]) ?_ hcv [] j x u hj (by simpa using hu) hcl).mono sM.ext
          intro j' x' u' hj' hu'
          obtain ⟨u2, hu2, hv2⟩ := oldc j' x' hj'
          have : j' < xs.length * s := by have := inL hj'; omega
          simp [this, hu2] at hu'
          exact hu' ▸ hv2)
      refine ⟨_, _, _, hrun, ?_, hM, sM⟩
      have hVR := VR.sl (E := E.growTok k (xs.length + ys.length) s ⟨r, o, cap⟩) (w := putBlock w r (.cells (setCells rc (o + xs.length * s) cells) e' fz))
        k s (xs ++ ys) r o cap us (by rw [hxs]; exact hge) (fun i x hi => hxok x (List.mem_of_getElem? hi)) a (fun i x j c hi hj => Or.inr ⟨rfl, by show o ≤ _; omega, ?_⟩) b (fun _ => ⟨xs.length + ys.length, s, by simp [Env.growTok], by rw [hxs]; exact Nat.le_refl _, fun _ => ⟨rfl, by simp [Env.growTok]⟩⟩) (fun h => absurd h hk)
      · rw [hxs] at hVR; exact hVR
      · have h5 := inL (flat_get _ hxok i j x c hi hj)
        rw [flat_len _ hxok, hxs] at h5
        show o + i * s + j < o + (xs.length + ys.length) * s
        omega

end Go.SV

namespace Go.SV

variable {P : Program} {E E' : Env} {H H' : AH} {w w' : World}

theorem sim_append_ref (hH : HRel E H w) {t tx e s bytes T : Nat} (hT : AppT P t tx e s bytes) {vx vy : Value} {b o n : Nat} {c : List AV} {ys : List AV} (hx : VR E w (.slr b o n s) vx) (hc0 : H.get b = .cells c) (hle : o + n * s ≤ c.length)
    (hok : ∀ x ∈ ys, x ≠ .undef ∧ x.cells.length = s ∧ x.cells.all AV.isCell = true)
    (hn : (Builtin.lenOf vy).run P w = .ok ys.length w) {cells : List Value} (hc : ∀ d, (Builtin.firstCells s ys.length vy).run P { w with drawn := d } = .ok cells.toArray { w with drawn := d })
    (hcl : cells.length = (ys.flatMap AV.cells).length) (hcv : ∀ (j : Nat) x u, (ys.flatMap AV.cells)[j]? = some x → cells[j]? = some u → VR E w x u) (hpos : 0 < ys.length) (hbig : (n + ys.length) * bytes ≤ 2 ^ 47) (hcB : ((c.drop o).take (n * s)).all AV.isCell = true) :
    Sim P (Builtin.append_ #[t, tx] T #[vx, vy]) E H w (.slr H.obs.length 0 (n + ys.length) s) ⟨H.obs.set b .dead ++ [.cells ((c.drop o).take (n * s) ++ ys.flatMap AV.cells)], H.toks⟩ := by
  obtain ⟨dx, hdxu, hdx⟩ := hT.hx
  obtain ⟨z, hz, hzs⟩ := hT.hz
  have hfl := flat_len ys (fun x hx => (hok x hx).2.1)
  have hall : (ys.flatMap AV.cells).all AV.isCell = true := by
    rw [List.all_eq_true]
    intro c hcm
    obtain ⟨x, hxm, hcx⟩ := List.mem_flatMap.1 hcm
    exact List.all_eq_true.1 (hok x hxm).2.2 c hcx
  have hmul : (n + ys.length) * s = n * s + ys.length * s := Nat.add_mul _ _ _
  have hallB : ∀ (j : Nat) (x : AV), ((c.drop o).take (n * s) ++ ys.flatMap AV.cells)[j]? = some x → x.isB = false := fun j x hj => all_isB (by rw [List.all_append, hcB, hall]; rfl) hj
  cases hx with
  | slr _ _ _ _ cap o' L hL hncap ho =>
    have hobj := hH.obj b L hL
    rw [hc0] at hobj
    obtain ⟨rc, e', fz, hb, hR, hlen, hcv0, hfz, hnp, _⟩ := hobj
    have hlive : (H.get b).live = true := by rw [hc0]; rfl
    have hcv1 : ∀ (j : Nat) x, ((c.drop o).take (n * s))[j]? = some x → ∃ u, rc[L.d + o + j]? = some u ∧ VR E w x u := by
      intro j x hj
      have hj2 := inL hj
      simp only [List.length_take, List.length_drop] at hj2
      rw [List.getElem?_take, if_pos (by omega), List.getElem?_drop] at hj
      obtain ⟨u, hu, hv⟩ := hcv0 _ _ hj
      exact ⟨u, by rw [Nat.add_assoc]; exact hu, hv⟩
    have htl : ((c.drop o).take (n * s)).length = n * s := by simp; omega
    rcases Nat.lt_or_ge cap (n + ys.length) with hlt | hge
    · have hcap0 : n = 0 ∨ cap ≠ 0 := by omega
      have hold : ∀ d, (Builtin.firstCells s n (.slice (some ⟨L.r, o', none⟩) n cap)).run P { w with drawn := d } = .ok (((List.range (n * s)).map fun j => (rc[L.d + o + j]?).getD undef).toArray) { w with drawn := d } := fun d => by
        simp only [Builtin.firstCells]
        refine run_loadCells _ _ _ (fun j => (rc[L.d + o + j]?).getD undef) (fun j hj => ?_)
        have hn0 : n ≠ 0 := by rintro rfl; simp at hj
        have ho1 := (ho (by omega)).1
        have hj' : j < ((c.drop o).take (n * s)).length := by omega
        obtain ⟨u, hu, _⟩ := hcv1 j _ (List.getElem?_eq_getElem hj')
        rw [add_addr, hu]
        show w.cell? _ = _
        rw [cell_of_block hb, ho1, hu]; rfl
      obtain ⟨nc, rest, d, h1, h2, hrun⟩ := run_append_new (P := P) (w := w) (T := T) hT.hu hdxu hdx hT.hs hT.hb hT.hb0 hz hzs hn hold hc hlt hbig
      obtain ⟨hD, sD⟩ := hH.drew d
      obtain ⟨hK, sK⟩ := hD.kill b
      have hsz : ((((List.range (n * s)).map fun j => (rc[L.d + o + j]?).getD undef) ++ cells ++ rest).toArray).size = nc * s := by
        simp only [List.size_toArray, List.length_append, List.length_map, List.length_range, h2, hcl, hfl]
        rw [← Nat.add_mul, ← Nat.add_mul]; congr 1; omega
      obtain ⟨E', a, b', c'⟩ := newRow_ref (s := s) (cap := nc) (n := n + ys.length) hK e (xs := (c.drop o).take (n * s) ++ ys.flatMap AV.cells) h1 (by rw [hsz]; exact Nat.le_refl _)
        (by rw [hsz, List.length_append, htl, hfl, ← hmul]; exact Nat.mul_le_mul_right _ h1) (fun j x u hj hu => by
          refine (cells_app (E := E) (w := w) (cs := (List.range (n * s)).map fun j => (rc[L.d + o + j]?).getD undef) (ds := cells) (by rw [List.length_map, List.length_range, htl]) ?_ hcv rest j x u hj hu hcl).mono sD.ext
          intro j' x' u' hj' hu'
          obtain ⟨u2, hu2, hv2⟩ := hcv1 j' x' hj'
          have : j' < n * s := by have := inL hj'; omega
          simp [this, hu2] at hu'
          exact hu' ▸ hv2) hallB
      refine ⟨E', _, _, hrun, ?_, ?_, sD.trans (sK.trans ?_)⟩
      · simpa using a
      · exact b'
      · exact c'
    · have hcap0 : cap ≠ 0 := by omega
      obtain ⟨ho1, ho2⟩ := ho hcap0
      subst ho1
      have hnew0 := hc w.drawn
      have hrun := run_append_in (P := P) (w := w) (T := T) hT.hu hdxu hdx hT.hs (base := some ⟨L.r, L.d + o, none⟩) hn hnew0 hge
      have hcapmul : (n + ys.length) * s ≤ cap * s := Nat.mul_le_mul_right _ hge
      have hone : ∀ v ∈ cells, v.oneCell' = true := by
        intro v hv'
        exact oneCells (E := E) (w := w) (xs := ys.flatMap AV.cells) (vs := cells.toArray) (by simpa using hcl.symm) (fun j x u hj hu => hcv j x u hj (by simpa using hu)) hall v (by simpa using hv')
      have hst := run_setCells (P := P) cells w L.r (L.d + o + n * s) 0 rc e' fz hb (by omega) (fun j h1 h2 => hfz.no j (by omega)) hone
      simp only [Nat.add_zero] at hst
      simp only [add_addr] at hrun
      simp only [hst, Result.andThen_ok] at hrun
      obtain ⟨hM, sM, hφ⟩ := hH.regrow hL hlive (.cells (setCells rc (L.d + o + n * s) cells) e' fz) (.cells ((c.drop o).take (n * s) ++ ys.flatMap AV.cells)) ⟨L.r, L.d + o, L.R⟩ rfl (fun E' hx' hnp' => by
        refine ⟨_, e', fz, heap_put_same _ _ (lt_of_heap hb), by rw [setCells_size]; exact hR, by simp only [List.length_append, htl, hfl]; omega, fun j x hj => ?_, hfz, hnp', fun j x hj hb => by rw [hallB j x hj] at hb; simp at hb⟩
        rw [setCells_get _ _ _ _ (by omega)]
        simp only
        rcases Nat.lt_or_ge j (n * s) with h | h
        · rw [if_neg (by omega)]
          rw [List.getElem?_append_left (by omega)] at hj
          obtain ⟨u, hu, hv⟩ := hcv1 j x hj
          exact ⟨u, hu, hv.mono hx'⟩
        · rw [List.getElem?_append_right (by omega), htl] at hj
          have hj3 := inL hj
          rw [if_pos (by omega), show L.d + o + j - (L.d + o + n * s) = j - n * s by omega]
          have hj4 : j - n * s < cells.length := by omega
          exact ⟨_, List.getElem?_eq_getElem hj4, (hcv _ x _ hj (List.getElem?_eq_getElem hj4)).mono hx'⟩)
      exact ⟨_, _, _, hrun, .slr H.obs.length 0 _ _ cap (L.d + o) ⟨L.r, L.d + o, L.R⟩ hφ hge (fun _ => ⟨rfl, by show L.d + o + 0 + cap * s ≤ L.R; omega⟩), hM, sM⟩

theorem sim_append (hH : HRel E H w) (h0 : 0 < H.toks.length) {t tx e s bytes T : Nat} (hT : AppT P t tx e s bytes) {m : Mode} {x y v : AV} {vx vy : Value} (hx : VR E w x vx) (hy : VR E w y vy)
    (h : aAppend m s (bytes, e) x y H = some (v, H')) : Sim P (Builtin.append_ #[t, tx] T #[vx, vy]) E H w v H' := by
  unfold aAppend at h
  split at h
  · simp at h
  · rename_i ys he
    split at h
    · rename_i hemp
      have hy0 : ys = [] := by simpa using hemp
      subst hy0
      obtain ⟨hn, cells, hc, hcl, _⟩ := elems_run (P := P) hH hy he (fun x hx => by simp at hx)
      have hc0 : cells = [] := by cases cells <;> simp_all
      subst hc0
      obtain ⟨dx, hdxu, hdx⟩ := hT.hx
      have key : ∀ (base : Option Addr) (len cap : Nat), vx = .slice base len cap → len ≤ cap → (Builtin.append_ #[t, tx] T #[vx, vy]).run P w = .ok vx w := by
        intro base len cap hv hle
        have := run_append_in (P := P) (w := w) (T := T) (len := len) (cap := cap) hT.hu hdxu hdx hT.hs (base := base) hn (hc w.drawn) (by simpa using hle)
        rw [hv, this]
        cases base with
        | none => simp
        | some a => simp [storeCells]
      split at h
      · simp only [Option.some.injEq, Prod.mk.injEq] at h
        obtain ⟨rfl, rfl⟩ := h
        refine Sim.same hH ?_ hx
        cases hx
        exact key _ _ _ rfl (Nat.le_refl _)
      · simp only [Option.some.injEq, Prod.mk.injEq] at h
        obtain ⟨rfl, rfl⟩ := h
        refine Sim.same hH ?_ hx
        cases hx with
        | sl _ _ _ r o cap us hcap => exact key _ _ _ rfl hcap
        | sle _ a => exact key _ _ _ rfl (Nat.le_refl _)
      · simp only [Option.some.injEq, Prod.mk.injEq] at h
        obtain ⟨rfl, rfl⟩ := h
        refine Sim.same hH ?_ hx
        cases hx with
        | slr _ _ _ _ cap o' L hL hn => exact key _ _ _ rfl hn
      · simp at h
    · rename_i hne
      have hpos : 0 < ys.length := by cases ys <;> simp_all
      split at h
      · simp at h
      · rename_i hok
        have hok : elemsOk s ys = true := by simpa using hok
        have hspec := elemsOk_spec hok
        obtain ⟨hn, cells, hc, hcl, hcv⟩ := elems_run (P := P) hH hy he (fun x hx => ⟨(hspec x hx).1, (hspec x hx).2.1⟩)
        split at h
        · split at h
          · rename_i hb
            simp only [Option.some.injEq, Prod.mk.injEq] at h
            obtain ⟨rfl, rfl⟩ := h
            cases hx
            exact sim_append_nil hH h0 hT (fun x hx => ⟨(hspec x hx).1, (hspec x hx).2.1⟩) hn hc hcl hcv hpos hb true (flat_isB' hspec)
          · simp at h
        · rename_i b o n s'
          split at h
          · rename_i c hc0
            split at h
            · rename_i hcond
              obtain ⟨rfl, hle, hb, hcB⟩ := hcond
              simp only [Option.some.injEq, Prod.mk.injEq] at h
              obtain ⟨rfl, rfl⟩ := h
              exact sim_append_ref hH hT hx hc0 hle hspec hn hc hcl hcv hpos hb hcB
            · simp at h
          · simp at h
        · simp at h
        · split at h
          · rename_i hb
            simp only [Option.some.injEq, Prod.mk.injEq] at h
            obtain ⟨rfl, rfl⟩ := h
            cases hx
            exact sim_append_nil hH h0 hT (fun x hx => ⟨(hspec x hx).1, (hspec x hx).2.1⟩) hn hc hcl hcv hpos hb false (flat_isB' hspec)
          · simp at h
        · rename_i k s' xs _
          split at h
          · rename_i hcond
            obtain ⟨rfl, hk, hk2, hb⟩ := hcond
            simp only [Option.some.injEq, Prod.mk.injEq] at h
            obtain ⟨rfl, rfl⟩ := h
            exact sim_append_tok hH hT hx hk hk2 hspec hn hc hcl hcv hpos hb
          · simp at h
        · simp at h


/-! ### Slices of rows -/
theorem r_bound {k : IntKind} {i : Int} {y : Nat} {c : BoundsCode} (h : 0 ≤ i ∧ i ≤ y) : (Instr.sliceBound (.int k i) y c).run P w = .ok i.toNat w := by
  simp [Instr.sliceBound, asIntOf, h]

def aBd (n : Nat) (lo hi : Option AV) : Option (Nat × Nat) :=
  match hi, lo with
  | none, none => some (0, n)
  | none, some (.int _ l) => if 0 ≤ l ∧ l ≤ n then some (l.toNat, n) else none
  | some (.int _ h), none => if 0 ≤ h ∧ h ≤ n then some (0, h.toNat) else none
  | some (.int _ h), some (.int _ l) => if 0 ≤ h ∧ h ≤ n ∧ 0 ≤ l ∧ l ≤ h then some (l.toNat, h.toNat) else none
  | _, _ => none

theorem aSlice_eq (s : Nat) (x : AV) (lo hi : Option AV) : aSlice s x lo hi = (match x with
  | .str l => (aBd l.length lo hi).map fun (a, b) => .str ((l.take b).drop a)
  | .nils => (aBd 0 lo hi).map fun _ => .nils
  | .sl t s' xs => if s' = s then (aBd xs.length lo hi).map fun (a, b) => .sl t s ((xs.take b).drop a) else none
  | .slr b o n s' => if s' = s then (aBd n lo hi).map fun (a, h) => .slr b (o + a * s) (h - a) s else none
  | _ => none) := rfl

inductive OptVR (E : Env) (w : World) : Option AV → Option Value → Prop
  | none : OptVR E w none none
  | some {a : AV} {v : Value} (h : VR E w a v) : OptVR E w (some a) (some v)

theorem r_bounds {n cap : Nat} {lo hi : Option AV} {vlo vhi : Option Value} (hlo : OptVR E w lo vlo) (hhi : OptVR E w hi vhi) {a b : Nat} (h : aBd n lo hi = some (a, b)) (hc : n ≤ cap) (isS : Bool) :
    a ≤ b ∧ b ≤ n ∧ (Instr.sliceBounds isS n cap vlo vhi none).run P w = .ok (a, b, cap) w := by
  unfold aBd at h
  cases hhi with
  | none =>
    cases hlo with
    | none =>
      simp only [Option.some.injEq, Prod.mk.injEq] at h
      obtain ⟨rfl, rfl⟩ := h
      exact ⟨Nat.zero_le _, Nat.le_refl _, by simp [Instr.sliceBounds]⟩
    | some hl =>
      rename_i al vl
      cases hl with
      | int k l =>
        simp only at h
        split at h
        · rename_i hb
          simp only [Option.some.injEq, Prod.mk.injEq] at h
          obtain ⟨rfl, rfl⟩ := h
          refine ⟨by omega, Nat.le_refl _, ?_⟩
          simp [Instr.sliceBounds, r_bound hb]
        · simp at h
      | _ => simp at h
  | some hh =>
    rename_i ah vh
    cases hh with
    | int k hv =>
      cases hlo with
      | none =>
        simp only at h
        split at h
        · rename_i hb
          simp only [Option.some.injEq, Prod.mk.injEq] at h
          obtain ⟨rfl, rfl⟩ := h
          refine ⟨Nat.zero_le _, by omega, ?_⟩
          have hb' : 0 ≤ hv ∧ hv ≤ (cap : Int) := by omega
          simp [Instr.sliceBounds, r_bound hb']
        · simp at h
      | some hl =>
        rename_i al vl
        cases hl with
        | int k' l =>
          simp only at h
          split at h
          · rename_i hb
            simp only [Option.some.injEq, Prod.mk.injEq] at h
            obtain ⟨rfl, rfl⟩ := h
            refine ⟨by omega, by omega, ?_⟩
            have hb' : 0 ≤ hv ∧ hv ≤ (cap : Int) := by omega
            have hb2 : 0 ≤ l ∧ l ≤ ((hv.toNat : Nat) : Int) := by omega
            simp only [Instr.sliceBounds, Sem.run_bind, Sem.run_pure, Result.andThen_ok, r_bound hb', r_bound hb2]
          · simp at h
        | _ => simp at h
    | _ => cases lo <;> simp at h

theorem sim_slice_str (hH : HRel E H w) {t s : Nat} (hu : P.underlying t = some .string) {x v : AV} {vx : Value} {lo hi : Option AV} {vlo vhi : Option Value} (hx : VR E w x vx) (hlo : OptVR E w lo vlo) (hhi : OptVR E w hi vhi)
    {l : List UInt8} (hl : x = .str l) (h : aSlice s x lo hi = some v) : Sim P (Instr.sliceAt t vx vlo vhi none) E H w v H := by
  subst hl
  rw [aSlice_eq] at h
  simp only [Option.map_eq_some_iff] at h
  obtain ⟨⟨a, b⟩, hab, rfl⟩ := h
  cases hx with
  | str =>
    have hsz : (ByteArray.mk l.toArray).size = l.length := by simp [ByteArray.size]
    obtain ⟨h1, h2, h3⟩ := r_bounds (P := P) hlo hhi hab (Nat.le_refl _) false
    refine Sim.same hH ?_ (.str _)
    simp only [Instr.sliceAt, Sem.run_bind, r_under hu, Result.andThen_ok, Instr.slice, Option.isSome_none, Bool.false_eq_true, if_false, Sem.run_pure, pure_bind, hsz, h3]
    congr 2
    apply ByteArray.ext
    apply Array.ext'
    simp [ByteArray.data_extract, List.extract_eq_take_drop, List.drop_take]

theorem sim_slice_row (hH : HRel E H w) {t e s : Nat} (hu : P.underlying t = some (.slice e)) (hs : sizeT P e = some s) {x v : AV} {vx : Value} {lo hi : Option AV} {vlo vhi : Option Value} (hx : VR E w x vx) (hlo : OptVR E w lo vlo) (hhi : OptVR E w hi vhi)
    (hl : ∀ l, x ≠ .str l) (h : aSlice s x lo hi = some v) : Sim P (Instr.sliceAt t vx vlo vhi none) E H w v H := by
  have run : ∀ (base : Option Addr) (n cap a b : Nat), vx = .slice base n cap → aBd n lo hi = some (a, b) → n ≤ cap → a ≤ b ∧ b ≤ n ∧
      (Instr.sliceAt t vx vlo vhi none).run P w = .ok (.slice (if cap = a then base else base.map (·.add (a * s))) (b - a) (cap - a)) w := by
    intro base n cap a b hv hab hle
    obtain ⟨h1, h2, h3⟩ := r_bounds (P := P) hlo hhi hab hle true
    refine ⟨h1, h2, ?_⟩
    rw [hv]
    simp only [Instr.sliceAt, Sem.run_bind, r_under hu, Result.andThen_ok, Instr.slice, h3, r_sizeOf hs, Sem.run_pure]
  rw [aSlice_eq] at h
  cases hx with
  | nils =>
    simp only [Option.map_eq_some_iff] at h
    obtain ⟨⟨a, b⟩, hab, rfl⟩ := h
    obtain ⟨h1, h2, h3⟩ := run none 0 0 a b rfl hab (Nat.le_refl _)
    have ha : a = 0 := by omega
    have hb : b = 0 := by omega
    subst ha; subst hb
    exact Sim.same hH h3 (by simpa using VR.nils)
  | sle s' a =>
    simp only at h
    split at h
    case isFalse => simp at h
    simp only [List.length_nil, Option.map_eq_some_iff] at h
    obtain ⟨⟨x, y⟩, hab, rfl⟩ := h
    obtain ⟨h1, h2, h3⟩ := run (some a) 0 0 x y rfl hab (Nat.le_refl _)
    have ha : x = 0 := by omega
    have hb : y = 0 := by omega
    subst ha; subst hb
    exact Sim.same hH h3 (by simpa using VR.sle (E := E) (w := w) s a)
  | sl k s' xs r o cap us hcap hs' hc hp hv ht h0 =>
    simp only at h
    split at h
    case isFalse => simp at h
    rename_i ess
    subst ess
    simp only [Option.map_eq_some_iff] at h
    obtain ⟨⟨a, b⟩, hab, rfl⟩ := h
    obtain ⟨h1, h2, h3⟩ := run _ _ _ a b rfl hab hcap
    refine Sim.same hH h3 ?_
    have hlen : ((xs.take b).drop a).length = b - a := by simp; omega
    have hget : ∀ (i : Nat) x, ((xs.take b).drop a)[i]? = some x → i < b - a ∧ xs[a + i]? = some x := by
      intro i x hi
      have := inL hi
      rw [List.getElem?_drop, List.getElem?_take, if_pos (by omega)] at hi
      exact ⟨by omega, hi⟩
    by_cases hca : cap = a
    · have hbn : b = a := by omega
      have hemp : (xs.take b).drop a = [] := by apply List.eq_nil_of_length_eq_zero; omega
      rw [if_pos hca]
      rw [hemp]
      have := VR.sl (E := E) (w := w) k s' [] r o (cap - a) us (Nat.zero_le _) (fun i x h => by simp at h) (fun i x j c h => by simp at h) (fun i x j c h => by simp at h) (fun i x j c h => by simp at h) (fun hk => by
        obtain ⟨n, s0, e1, e2, e3⟩ := ht hk
        refine ⟨n, s0, e1, Nat.zero_le _, fun h => ?_⟩
        simp only [List.length_nil] at h
        obtain ⟨e4, e5⟩ := e3 (by omega)
        exact ⟨e4, by rw [e5, show cap - a = cap by omega]⟩) h0
      rw [show b - a = 0 by omega]
      exact this
    · rw [if_neg hca]
      simp only [Option.map_some, add_addr]
      have := VR.sl (E := E) (w := w) k s' ((xs.take b).drop a) r (o + a * s') (cap - a) (fun i j => us (a + i) j) (by omega) (fun i x h => hs' _ x (hget i x h).2)
        (fun i x j c hi hj => by rw [← hc _ x j c (hget i x hi).2 hj]; congr 2; rw [Nat.add_mul]; omega)
        (fun i x j c hi hj => by have := hp _ x j c (hget i x hi).2 hj; rw [Nat.add_mul] at this; rw [show o + a * s' + i * s' + j = o + (a * s' + i * s') + j by omega]; exact this)
        (fun i x j c hi hj => hv _ x j c (hget i x hi).2 hj) (fun hk => by
        obtain ⟨n, s0, e1, e2, e3⟩ := ht hk
        refine ⟨n, s0, e1, by omega, fun h => ?_⟩
        have ha0 : a = 0 := by omega
        obtain ⟨e4, e5⟩ := e3 (by omega)
        subst ha0
        exact ⟨e4, by rw [e5]; simp⟩) h0
      rw [hlen] at this
      exact this
  | slr b0 o n s' cap o' L hL hn ho =>
    simp only at h
    split at h
    · rename_i hss
      subst hss
      simp only [Option.map_eq_some_iff] at h
      obtain ⟨⟨a, b⟩, hab, rfl⟩ := h
      obtain ⟨h1, h2, h3⟩ := run _ _ _ a b rfl hab hn
      refine Sim.same hH h3 ?_
      by_cases hca : cap = a
      · rw [if_pos hca]
        exact .slr _ _ _ _ _ _ _ hL (by omega) (fun h => by omega)
      · rw [if_neg hca]
        simp only [Option.map_some, add_addr]
        obtain ⟨ho1, ho2⟩ := ho (by omega)
        refine .slr _ _ _ _ _ _ _ hL (by omega) (fun _ => ⟨by omega, ?_⟩)
        have : (cap - a) * s' = cap * s' - a * s' := Nat.sub_mul _ _ _
        have h4 : a * s' ≤ cap * s' := Nat.mul_le_mul_right _ (by omega)
        omega
    · simp at h
  | str l => exact absurd rfl (hl l)
  | _ => simp at h

end Go.SV

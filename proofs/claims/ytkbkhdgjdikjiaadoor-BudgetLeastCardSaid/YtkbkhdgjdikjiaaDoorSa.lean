/- The abstract values of the layer S, what relates them to the model's values, and that this relation lasts while protected memory stays. Own text of the prover; nothing is assumed. -/
import Derived.Calls
import Derived.Orders
import Derived.Below
import Derived.KernelRfl
namespace Go.SV

inductive AV where
  | undef
  | bool (b : Bool)
  | int (k : IntKind) (n : Int)
  | str (s : List UInt8)
  | nilp
  | ptr (b o : Nat)
  | vp (cs : List AV)
  | nils
  | sl (t s : Nat) (xs : List AV)
  | slr (b o n s : Nat)
  | nilm
  | map (b : Nat)
  | nilf
  | fn (f : Fn) (first cap : List AV)
  | niliface
  | iface (t : Nat) (v : AV)
  | agg (cs : List AV)
  | tup (vs : List AV)
  deriving Inhabited

def AV.cells : AV → List AV
  | .agg cs => cs
  | x => [x]

structure Ref where
  r : Nat
  d : Nat
  R : Nat

structure TokL where
  r : Nat
  o : Nat
  cap : Nat

structure Env where
  φ : Nat → Option Ref
  prot : Nat → Nat → Prop
  cl : Nat → Option (Nat × Nat)
  tk : Nat → TokL
  inert : Nat → Prop

inductive VR (E : Env) (w : World) : AV → Value → Prop
  | undef (v : Value) : VR E w .undef v
  | bool (b : Bool) : VR E w (.bool b) (.bool b)
  | int (k : IntKind) (n : Int) : VR E w (.int k n) (.int k n)
  | str (s : List UInt8) : VR E w (.str s) (.string ⟨s.toArray⟩)
  | nilp : VR E w .nilp (.pointer none)
  | ptr (b o : Nat) (L : Ref) (hL : E.φ b = some L) : VR E w (.ptr b o) (.pointer (some ⟨L.r, L.d + o, none⟩))
  | vp (cs : List AV) (r o : Nat) (us : Nat → Value)
      (hc : ∀ (j : Nat) c, cs[j]? = some c → w.cell? ⟨r, o + j, none⟩ = some (us j))
      (hp : ∀ (j : Nat) c, cs[j]? = some c → E.prot r (o + j))
      (hv : ∀ (j : Nat) c, cs[j]? = some c → VR E w c (us j)) : VR E w (.vp cs) (.pointer (some ⟨r, o, none⟩))
  | nils : VR E w .nils (.slice none 0 0)
  | sl (t s : Nat) (xs : List AV) (r o cap : Nat) (us : Nat → Nat → Value)
      (hcap : xs.length ≤ cap)
      (hs : ∀ (i : Nat) x, xs[i]? = some x → x.cells.length = s)
      (hc : ∀ (i : Nat) x (j : Nat) c, xs[i]? = some x → x.cells[j]? = some c → w.cell? ⟨r, o + i * s + j, none⟩ = some (us i j))
      (hp : ∀ (i : Nat) x (j : Nat) c, xs[i]? = some x → x.cells[j]? = some c → E.prot r (o + i * s + j))
      (hv : ∀ (i : Nat) x (j : Nat) c, xs[i]? = some x → x.cells[j]? = some c → VR E w c (us i j))
      (ht : t ≠ 0 → ∃ n s0, E.cl t = some (n, s0) ∧ xs.length ≤ n ∧ (xs.length = n → s = s0 ∧ E.tk t = ⟨r, o, cap⟩))
      (h0 : t = 0 → E.inert r) :
      VR E w (.sl t s xs) (.slice (some ⟨r, o, none⟩) xs.length cap)
  | sle (s : Nat) (a : Addr) : VR E w (.sl 0 s []) (.slice (some a) 0 0)
  | slr (b o n s cap o' : Nat) (L : Ref) (hL : E.φ b = some L) (hn : n ≤ cap) (ho : cap ≠ 0 → o' = L.d + o ∧ L.d + o + cap * s ≤ L.R) :
      VR E w (.slr b o n s) (.slice (some ⟨L.r, o', none⟩) n cap)
  | nilm : VR E w .nilm (.map none)
  | map (b : Nat) (L : Ref) (hL : E.φ b = some L) : VR E w (.map b) (.map (some L.r))
  | nilf : VR E w .nilf .nilFunc
  | fn (f : Fn) (first cap : List AV) (rf rc : Array Value) (h1 : first.length = rf.size) (h2 : cap.length = rc.size)
      (hf : ∀ (j : Nat) a u, first[j]? = some a → rf[j]? = some u → VR E w a u)
      (hc : ∀ (j : Nat) a u, cap[j]? = some a → rc[j]? = some u → VR E w a u) : VR E w (.fn f first cap) (.func f rf rc)
  | niliface : VR E w .niliface .nilIface
  | iface (t : Nat) (a : AV) (v : Value) (h : VR E w a v) : VR E w (.iface t a) (.iface t v)
  | agg (cs : List AV) (vs : Array Value) (h1 : cs.length = vs.size) (hv : ∀ (j : Nat) a u, cs[j]? = some a → vs[j]? = some u → VR E w a u) : VR E w (.agg cs) (.agg vs)
  | tup (cs : List AV) (vs : Array Value) (h1 : cs.length = vs.size) (hv : ∀ (j : Nat) a u, cs[j]? = some a → vs[j]? = some u → VR E w a u) : VR E w (.tup cs) (.tuple vs)

structure Ext (E : Env) (w : World) (E' : Env) (w' : World) : Prop where
  φ : ∀ b L, E.φ b = some L → E'.φ b = some L
  prot : ∀ r i, E.prot r i → E'.prot r i
  cell : ∀ r i v, E.prot r i → w.cell? ⟨r, i, none⟩ = some v → w'.cell? ⟨r, i, none⟩ = some v
  cl : ∀ t n s, E.cl t = some (n, s) → ∃ n', E'.cl t = some (n', s) ∧ n ≤ n' ∧ (n' = n → E'.tk t = E.tk t)
  inert : ∀ r, E.inert r → E'.inert r

theorem Ext.refl (E : Env) (w : World) : Ext E w E w := ⟨fun _ _ h => h, fun _ _ h => h, fun _ _ _ _ h => h, fun _ n _ h => ⟨n, h, Nat.le_refl _, fun _ => rfl⟩, fun _ h => h⟩

theorem Ext.trans {E1 E2 E3 : Env} {w1 w2 w3 : World} (h : Ext E1 w1 E2 w2) (k : Ext E2 w2 E3 w3) : Ext E1 w1 E3 w3 := by
  refine ⟨fun b L hb => k.φ _ _ (h.φ _ _ hb), fun r i hp => k.prot _ _ (h.prot _ _ hp), fun r i v hp hc => k.cell _ _ _ (h.prot _ _ hp) (h.cell _ _ _ hp hc), ?_, fun r hr => k.inert r (h.inert r hr)⟩
  intro t n s ht
  obtain ⟨n1, h1, hle1, he1⟩ := h.cl t n s ht
  obtain ⟨n2, h2, hle2, he2⟩ := k.cl t n1 s h1
  refine ⟨n2, h2, Nat.le_trans hle1 hle2, fun e => ?_⟩
  have e1 : n1 = n := by omega
  have e2 : n2 = n1 := by omega
  rw [he2 e2, he1 e1]

theorem VR.mono {E E' : Env} {w w' : World} (hx : Ext E w E' w') {a : AV} {v : Value} (h : VR E w a v) : VR E' w' a v := by
  induction h with
  | undef v => exact .undef v
  | bool b => exact .bool b
  | int k n => exact .int k n
  | str s => exact .str s
  | nilp => exact .nilp
  | ptr b o L hL => exact .ptr b o L (hx.φ _ _ hL)
  | vp cs r o us hc hp hv ih => exact .vp cs r o us (fun j c hj => hx.cell _ _ _ (hp j c hj) (hc j c hj)) (fun j c hj => hx.prot _ _ (hp j c hj)) ih
  | nils => exact .nils
  | sl t s xs r o cap us hcap hs hc hp hv ht h0 ih =>
    refine .sl t s xs r o cap us hcap hs (fun i x j c hi hj => hx.cell _ _ _ (hp i x j c hi hj) (hc i x j c hi hj)) (fun i x j c hi hj => hx.prot _ _ (hp i x j c hi hj)) ih ?_ (fun e => hx.inert _ (h0 e))
    intro h0
    obtain ⟨n, s0, hn, hle, he⟩ := ht h0
    obtain ⟨n', hn', hle', he'⟩ := hx.cl t n s0 hn
    refine ⟨n', s0, hn', Nat.le_trans hle hle', fun e => ?_⟩
    have e1 : n' = n := by omega
    have e2 : xs.length = n := by omega
    rw [he' e1]
    exact he e2
  | sle s a => exact .sle s a
  | slr b o n s cap o' L hL hn ho => exact .slr b o n s cap o' L (hx.φ _ _ hL) hn ho
  | nilm => exact .nilm
  | map b L hL => exact .map b L (hx.φ _ _ hL)
  | nilf => exact .nilf
  | fn f first cap rf rc h1 h2 hf hc ih1 ih2 => exact .fn f first cap rf rc h1 h2 ih1 ih2
  | niliface => exact .niliface
  | iface t a v h ih => exact .iface t a v ih
  | agg cs vs h1 hv ih => exact .agg cs vs h1 ih
  | tup cs vs h1 hv ih => exact .tup cs vs h1 ih

/-- A value's cells: one by one. -/
theorem VR.cells {E : Env} {w : World} {a : AV} {v : Value} (h : VR E w a v) (hd : a ≠ .undef) :
    a.cells.length = v.cells.size ∧ ∀ (j : Nat) x u, a.cells[j]? = some x → v.cells[j]? = some u → VR E w x u := by
  have one : ∀ (b : AV) (u : Value), VR E w b u → ∀ (j : Nat) x y, [b][j]? = some x → (#[u] : Array Value)[j]? = some y → VR E w x y := by
    intro b u hb j x y hj hk
    cases j with
    | zero => simp at hj hk; subst hj; subst hk; exact hb
    | succ j => simp at hj
  cases h with
  | undef v => exact absurd rfl hd
  | agg cs vs h1 hv => exact ⟨h1, hv⟩
  | _ => refine ⟨rfl, one _ _ ?_⟩; constructor <;> assumption

inductive AObj where
  | dead
  | cells (c : List AV)
  | map (es : List (AV × AV × Nat)) (clk : Nat)
  | iter (s : List UInt8) (pos : Nat)
  deriving Inhabited

structure AH where
  obs : List AObj
  toks : List (Nat × Nat)
  deriving Inhabited

def AH.get (H : AH) (b : Nat) : AObj := (H.obs[b]?).getD .dead

def AObj.live : AObj → Bool
  | .dead => false
  | _ => true

/-- No cell below R is frozen. -/
def Unfz (fz : Nat × Nat) (R : Nat) : Prop := fz.1 = fz.2 ∨ R ≤ fz.1
theorem Unfz.no {fz : Nat × Nat} {R : Nat} (h : Unfz fz R) (i : Nat) (hi : i < R) : ¬ (fz.1 ≤ i ∧ i < fz.2) := by
  rcases h with h | h <;> omega

def ObjRel (E : Env) (w : World) (L : Ref) : AObj → Prop
  | .dead => True
  | .cells c => ∃ rc e fz, w.heap[L.r]? = some (.cells rc e fz) ∧ rc.size = L.R ∧ L.d + c.length ≤ L.R ∧
      (∀ (j : Nat) x, c[j]? = some x → ∃ u, rc[L.d + j]? = some u ∧ VR E w x u) ∧ Unfz fz L.R ∧ (∀ i, ¬ E.prot L.r i)
  | .map es clk => ∃ res, w.heap[L.r]? = some (.map res clk) ∧ res.size = es.length ∧ (∀ i, ¬ E.prot L.r i) ∧
      (∀ (j : Nat) x m, es[j]? = some x → res[j]? = some m → VR E w x.1 m.key ∧ VR E w x.2.1 m.val ∧ m.born = x.2.2)
  | .iter s pos => w.heap[L.r]? = some (.stringIter ⟨s.toArray⟩ pos) ∧ L.d = 0 ∧ (∀ i, ¬ E.prot L.r i)

def TokRel (E : Env) (w : World) (T : TokL) (n s : Nat) : Prop :=
  ∃ rc e fz, w.heap[T.r]? = some (.cells rc e fz) ∧ n ≤ T.cap ∧ T.o + T.cap * s ≤ rc.size ∧
    (∀ i, T.o + n * s ≤ i → i < rc.size → ¬ (fz.1 ≤ i ∧ i < fz.2)) ∧ (∀ i, T.o + n * s ≤ i → ¬ E.prot T.r i)

structure HRel (E : Env) (H : AH) (w : World) : Prop where
  lt : ∀ b L, E.φ b = some L → b < H.obs.length
  obj : ∀ b L, E.φ b = some L → ObjRel E w L (H.get b)
  inj : ∀ b b' L L', E.φ b = some L → E.φ b' = some L' → (H.get b).live = true → (H.get b').live = true → L.r = L'.r → b = b'
  tok : ∀ t n s, E.cl t = some (n, s) → t ≠ 0 ∧ H.toks[t]? = some (n, s) ∧ TokRel E w (E.tk t) n s
  tinj : ∀ t t' ns ns', E.cl t = some ns → E.cl t' = some ns' → (E.tk t).r = (E.tk t').r → t = t'
  apart : ∀ b L t ns, E.φ b = some L → (H.get b).live = true → E.cl t = some ns → L.r ≠ (E.tk t).r
  prot : ∀ r i, E.prot r i → ∃ v, w.cell? ⟨r, i, none⟩ = some v
  inert : ∀ r, E.inert r → r < w.heap.size ∧ (∀ b L, E.φ b = some L → (H.get b).live = true → L.r ≠ r) ∧ (∀ t ns, E.cl t = some ns → (E.tk t).r ≠ r)

def Own (E : Env) (H : AH) (r : Nat) : Prop :=
  (∃ b L, E.φ b = some L ∧ (H.get b).live = true ∧ L.r = r) ∨ (∃ t ns, E.cl t = some ns ∧ (E.tk t).r = r)

structure Step (E : Env) (H : AH) (w : World) (E' : Env) (H' : AH) (w' : World) : Prop where
  ext : Ext E w E' w'
  os : w'.os = w.os
  tape : w'.tape = w.tape
  output : w'.output = w.output
  size : w.heap.size ≤ w'.heap.size
  keep : ∀ r, r < w.heap.size → ¬ Own E H r → ¬ Own E' H' r ∧ w'.heap[r]? = w.heap[r]?
  toks : H.toks.length ≤ H'.toks.length
  obs : H.obs.length ≤ H'.obs.length
  old : ∀ b L, b < H.obs.length → E'.φ b = some L → E.φ b = some L

theorem Step.refl (E : Env) (H : AH) (w : World) : Step E H w E H w := ⟨.refl _ _, rfl, rfl, rfl, Nat.le_refl _, fun _ _ h => ⟨h, rfl⟩, Nat.le_refl _, Nat.le_refl _, fun _ _ _ h => h⟩

theorem Step.trans {E1 E2 E3 : Env} {H1 H2 H3 : AH} {w1 w2 w3 : World} (h : Step E1 H1 w1 E2 H2 w2) (k : Step E2 H2 w2 E3 H3 w3) : Step E1 H1 w1 E3 H3 w3 := by
  refine ⟨h.ext.trans k.ext, k.os.trans h.os, k.tape.trans h.tape, k.output.trans h.output, Nat.le_trans h.size k.size, fun r hr ho => ?_, Nat.le_trans h.toks k.toks, Nat.le_trans h.obs k.obs, fun b L hb hL => h.old b L hb (k.old b L (Nat.lt_of_lt_of_le hb h.obs) hL)⟩
  obtain ⟨h1, h2⟩ := h.keep r hr ho
  obtain ⟨k1, k2⟩ := k.keep r (Nat.lt_of_lt_of_le hr h.size) h1
  exact ⟨k1, k2.trans h2⟩

end Go.SV

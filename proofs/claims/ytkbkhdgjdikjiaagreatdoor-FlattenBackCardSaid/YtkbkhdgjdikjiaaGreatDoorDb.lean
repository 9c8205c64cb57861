/- Laws of this program, lifted from the abstract machine to the statements: the tables, the arguments, the wrap. Own text of the prover; nothing is assumed. -/
import Derived.Test.YtkbkhdgjdikjiaaGreatDoorDa
import Derived.Test.YtkbkhdgjdikjiaaGreatDoorCd
import Derived.Test.YtkbkhdgjdikjiaaGreatDoorRows
import Derived.ProofKit
import Derived.OpenShut
import Derived.LaidMore
import Derived.Lay
import Derived.HandedShaped
import Derived.Below
set_option maxRecDepth 100000
namespace Go.SV
open Go.Proofs Go.RowKit Go.ChangeShapes Go.WideShapes Go.ChangeAt

/-- The wrap of a law whose row lists tables, the world's shape kept. -/
theorem lift_laid {H : Type} {enc : TypeId × Value → H} {a : Assume} {C : Checked} {os : Os} {f : FuncId} {fn : Func} {s : ChangeSpec} {conds : List PathCond} {apart fresh handsOn again : Bool} {X : World → Array Value → Prop}
    (hX : ∀ (w w' : World) (args : Array Value), w.heap = w'.heap → X w args → X w' args)
    (own : ownKnob C.prog.godebug = none) (started : os.Started) (noInit : C.prog.inits.idxOf? f = none) (hfn : C.prog.funcs[f]? = some fn)
    (witness : ∃ (w : World) (tape : Tape) (i : Input), w.os = os ∧ (w.forCall tape i).Shaped C.prog ∧ i.vars = [] ∧ Input.okWide C.prog (w.forCall tape i) .any w.heap.size f i ∧
      ((s.pre enc C.prog fn conds apart (w.forCall tape i).memory i.args ∧ X (w.forCall tape i).memory i.args) ∧ sizedMet enc C.prog fn (OpenSpec.ofChange s) apart (w.forCall tape i).memory i.args) ∧ a.holds C.prog (lone (Frame.enter C.prog f i.args .normal) [] (w.forCall tape i)))
    (contract : ∀ (W : World) (base : Nat) (args : Array Value) (ds gs : List (DataW H)) (before : List MemPlace),
      (∀ (j : Nat) t v, fn.params[j]? = some t → args[j]? = some v → Value.okWide C.prog W .any base t v) →
      DataW.Whole enc C.prog fn.params.toList s.vars apart W args.toList ds gs before →
      X W args → (DataW.weightsEach C.prog (fn.params.toList ++ (OpenSpec.ofChange s).bare.plain.varTypes C.prog) (ds ++ gs)).all (· ≤ reachBytes) = true → W.ShapedOpen C.prog →
      Calls C.prog f args W fun e W' => ∃ v, e = .returned v ∧ s.post enc C.prog fn apart fresh handsOn again W args v W') :
    ReturnsInHanded a C os f .any (fun w args => (s.pre enc C.prog fn conds apart w args ∧ X w args) ∧ sizedMet enc C.prog fn (OpenSpec.ofChange s) apart w args) (s.post enc C.prog fn apart fresh handsOn again) := by
  refine returnsInHanded_of_calls own started noInit witness ?_
  intro w tape i _ hsh _ hok hpre hholds
  obtain ⟨_, _, _, fn', hfn', _, _, _, _, hval⟩ := hok
  have e : fn' = fn := Option.some.inj (hfn'.symm.trans hfn)
  subst e
  obtain ⟨⟨⟨ds, gs, before, hw, hc⟩, hx⟩, hz⟩ := hpre
  have hw' := DataW.Whole.of_heap (w' := w.forCall tape i) (by rfl) hw
  refine (contract (w.forCall tape i) w.heap.size i.args ds gs before hval hw' (hX _ _ _ (by rfl) hx) ((sizedMet.of_heap (w' := w.forCall tape i) (by rfl) hz).weights hw') hsh).mono fun e W' ⟨v, he, hp⟩ => ?_
  subst he
  exact ChangeSpec.post_blind hp

theorem ownK : ownKnob Tryz.prog.godebug = none := by kernel_rfl
theorem laidOut : laidOutB Tryz.prog = true := by kernel_rfl

abbrev laidL : List (String × DataW Unit) := [("math/bits.deBruijn32tab", YtkbkhdgjdikjiaaGreatDoor.Rows.laid_math_bits_deBruijn32tab), ("math/bits.deBruijn64tab", YtkbkhdgjdikjiaaGreatDoor.Rows.laid_math_bits_deBruijn64tab), ("internal/strconv.uint64pow10", YtkbkhdgjdikjiaaGreatDoor.Rows.laid_internal_strconv_uint64pow10), ("unicode/utf8.acceptRanges", YtkbkhdgjdikjiaaGreatDoor.Rows.laid_unicode_utf8_acceptRanges), ("unicode/utf8.first", YtkbkhdgjdikjiaaGreatDoor.Rows.laid_unicode_utf8_first)]

theorem laidMet_tail {P : Program} {x : String × DataW Unit} {l : List (String × DataW Unit)} {W : World} (h : laidMet P (x :: l) W) : laidMet P l W := by
  obtain ⟨ps, hv, hn, hc⟩ := h
  obtain ⟨g, t, cs, fuel, p, q, _, _, _, _, h5, rfl⟩ := hv
  exact ⟨q, h5, (List.nodup_append.1 hn).2.1, fun b off hb => hc b off (by simp [hb])⟩

theorem tabs_of {W : World} (h : laidMetH Tryz.prog laidL W) (hsh : W.ShapedOpen Tryz.prog) : Tabs W := by
  rw [MakeChecks.laidMetH_plain _ _ _ (by kernel_rfl)] at h
  refine ⟨?_, ?_, ?_⟩
  · refine utf8Tabs_of_readsT (U8Types.of196 Tryz.lays196) ⟨by kernel_rfl, by kernel_rfl, by kernel_rfl, by kernel_rfl, by kernel_rfl, by kernel_rfl, by kernel_rfl⟩ ?_ ?_
    · have := Lib.laidMet.reads h (n := "unicode/utf8.first") (d := YtkbkhdgjdikjiaaGreatDoor.Rows.laid_unicode_utf8_first) (by simp [laidL])
      have e : YtkbkhdgjdikjiaaGreatDoor.Rows.laid_unicode_utf8_first = Lib.firstData := by kernel_rfl
      rw [e] at this; exact this
    · have := Lib.laidMet.reads h (n := "unicode/utf8.acceptRanges") (d := YtkbkhdgjdikjiaaGreatDoor.Rows.laid_unicode_utf8_acceptRanges) (by simp [laidL])
      have e : (YtkbkhdgjdikjiaaGreatDoor.Rows.laid_unicode_utf8_acceptRanges : DataW Unit) = Lib.acceptData := by kernel_rfl
      rw [e] at this; exact this
  · have h3 := laidMet_tail (laidMet_tail h)
    have e : (YtkbkhdgjdikjiaaGreatDoor.Rows.laid_internal_strconv_uint64pow10 : DataW Unit) = Lib.tabData .u64 Lib.pow10Tab := by kernel_rfl
    rw [e] at h3
    exact Lib.tabIs_of_head (g := 5) (t := 193) (e := 164) (n := 20) (by kernel_rfl) (by kernel_rfl) Tryz.underlying193 Tryz.underlying164 (by kernel_rfl) (by kernel_rfl) h3
  · exact cell_of_shapedOpen_int (g := 4) hsh (of_decide_eq_true (by kernel_rfl)) (zero := #[.int .i64 0]) (t := 3) (by kernel_rfl) rfl (by kernel_rfl) (by kernel_rfl) Tryz.underlying3

/-! ### Arguments: nodes -/
abbrev NdD := Int × (List UInt8 × (List UInt8 × (Option (List Int) × Unit)))
def ndF (x : NdD) : List AV := [.int .i64 x.1] ++ ([.str x.2.1] ++ ([.str x.2.2.1] ++ ([rowF 1 (fun n : Int => [.int .i64 n]) x.2.2.2.1] ++ [])))
def ndOf (x : NdD) : Nd := ⟨x.1, x.2.1, x.2.2.1, x.2.2.2.1.getD []⟩

theorem mkInt (l : List Int) : (l.map fun n => mkElem [AV.int .i64 n]) = l.map (AV.int .i64) := by
  refine List.map_congr_left fun n _ => rfl
theorem ndF_is (x : NdD) : IsNd (.agg (ndF x)) (ndOf x) := by
  obtain ⟨k, t, s, o, _⟩ := x
  refine ⟨rowF 1 (fun n : Int => [.int .i64 n]) o, rfl, ?_⟩
  cases o with
  | none => exact .inl ⟨rfl, rfl⟩
  | some l =>
    refine .inr ⟨0, _, rfl, ?_⟩
    rw [mkInt]
    exact F2.map (AV.int .i64) (fun _ => rfl) l

theorem reads_nd : ∃ G : NdD → Prop, (∀ x, G x → (ndOf x).kids.length * 8 ≤ reachBytes) ∧ ReadsZ Tryz.prog 55 ndF G := by
  refine ⟨_, fun x h => ?_, readsZ_struct Tryz.underlying55 (by kernel_rfl) (readsF_cons (Reads.z (reads_int Tryz.underlying3)) (readsF_cons (Reads.z (reads_str Tryz.underlying9)) (readsF_cons (Reads.z (reads_str Tryz.underlying9))
    (readsF_cons (readsZ_slice Tryz.underlying53 (by kernel_rfl) (by decide) (Reads.z (reads_int Tryz.underlying3)) (fun _ => rfl)) readsF_nil))))⟩
  obtain ⟨k, t, s, o, _⟩ := x
  obtain ⟨_, _, _, h, _⟩ := h
  cases o with
  | none => simp [ndOf]
  | some l =>
    have hb : Tryz.prog.bytesOf 3 = 8 := by kernel_rfl
    have := (h l rfl).2.1
    rw [hb] at this
    exact this

def gsF (o : Option (List NdD)) : AV := rowF 4 ndF o
def gsOf (o : Option (List NdD)) : List Nd := (o.getD []).map ndOf
theorem mkNd (l : List NdD) : (l.map fun x => mkElem (ndF x)) = l.map fun x => .agg (ndF x) := List.map_congr_left fun _ _ => rfl
theorem gsF_is (o : Option (List NdD)) : IsG (gsF o) (gsOf o) := by
  cases o with
  | none => exact .inl ⟨rfl, rfl⟩
  | some l =>
    refine .inr ⟨0, _, rfl, ?_⟩
    rw [mkNd]
    refine ⟨by simp [gsOf], fun i x y hx hy => ?_⟩
    simp only [gsOf, Option.getD_some, List.getElem?_map, Option.map_eq_some_iff] at hx hy
    obtain ⟨a, ha, rfl⟩ := hx
    obtain ⟨b, hb, rfl⟩ := hy
    rw [ha] at hb
    cases hb
    exact ndF_is a

theorem reads_gs : ∃ G : Option (List NdD) → Prop, (∀ o, G o → MemG (gsOf o)) ∧ ReadsZ Tryz.prog 45 (fun o => [gsF o]) G := by
  obtain ⟨G, hk, hG⟩ := reads_nd
  refine ⟨_, fun o h => ?_, readsZ_slice Tryz.underlying45 (by kernel_rfl) (by decide) hG (fun _ => rfl)⟩
  cases o with
  | none => exact ⟨by simp [gsOf], by simp [gsOf]⟩
  | some l =>
    obtain ⟨_, h1, h2⟩ := h l rfl
    have hb : Tryz.prog.bytesOf 55 = 64 := by kernel_rfl
    rw [hb] at h1
    have hr : reachBytes < 2 ^ 47 := by decide
    refine ⟨by simp only [gsOf, Option.getD_some, List.length_map]; omega, fun n hn => ?_⟩
    simp only [gsOf, Option.getD_some, List.mem_map] at hn
    obtain ⟨x, hx, rfl⟩ := hn
    have := hk x (h2 x hx)
    omega

theorem of_arg {P : Program} {t : TypeId} {cs : List Value} {α : Type} {f : α → List AV} {G : α → Prop} {Hd : Type} {enc : TypeId × Value → Hd} {W : World} {d : DataW Hd} {p : List MemPlace} (hG : ReadsZ P t f G) (hz : Sized P t d) (h : ∃ fuel, DataW.trod enc P W 0 (fun _ => true) true fuel t cs = some (d, p)) : ∃ a, G a ∧ RowR W (f a) cs := by
  obtain ⟨fuel, hf⟩ := h
  exact hG enc W fuel _ _ hf hz

/-! ### Rows of graphs -/
def gssF (o : Option (List (Option (List NdD)))) : AV := rowF 1 (fun g => [gsF g]) o
def gssOf (o : Option (List (Option (List NdD)))) : List (List Nd) := (o.getD []).map gsOf
theorem gsF_cell (o : Option (List NdD)) : (gsF o).isCell = true := by cases o <;> rfl
theorem gssF_is (o : Option (List (Option (List NdD)))) : RowOf 1 IsG (gssF o) (gssOf o) := by
  cases o with
  | none => exact .inl ⟨rfl, rfl⟩
  | some l =>
    refine .inr ⟨0, _, rfl, ?_⟩
    have hm : (l.map fun g => mkElem [gsF g]) = l.map gsF := List.map_congr_left fun g _ => by rw [mkElem, if_pos (gsF_cell g)]
    rw [hm]
    refine ⟨by simp [gssOf], fun i x y hx hy => ?_⟩
    simp only [gssOf, Option.getD_some, List.getElem?_map, Option.map_eq_some_iff] at hx hy
    obtain ⟨a, ha, rfl⟩ := hx
    obtain ⟨b, hb, rfl⟩ := hy
    rw [ha] at hb
    cases hb
    exact gsF_is a

theorem memR_of {G : Option (List NdD) → Prop} (hk : ∀ o, G o → MemG (gsOf o)) {o : Option (List (Option (List NdD)))} (h : ∀ l, o = some l → l.length ≤ maxLen ∧ l.length * 24 ≤ reachBytes ∧ ∀ a ∈ l, G a) : MemR (gssOf o) := by
  cases o with
  | none => exact ⟨by simp [gssOf], by simp [gssOf]⟩
  | some l =>
    obtain ⟨_, h1, h2⟩ := h l rfl
    have hr : reachBytes < 2 ^ 47 := by decide
    refine ⟨by simp only [gssOf, Option.getD_some, List.length_map]; omega, fun g hg => ?_⟩
    simp only [gssOf, Option.getD_some, List.mem_map] at hg
    obtain ⟨x, hx, rfl⟩ := hg
    exact hk x (h2 x hx)

theorem ret_true {E : Env} {w : World} {v : Value} (h : VR E w (.bool true) v) : v = .bool true := by cases h; rfl

end Go.SV

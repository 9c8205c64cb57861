/- The arguments of the laws of limits. Own text of the prover; nothing is assumed. -/
import Derived.Test.YtkbkhdgjdikjiaaDoorDb
import Derived.Test.YtkbkhdgjdikjiaaDoorCs
set_option maxRecDepth 100000
namespace Go.SV
open Go.Proofs Go.RowKit Go.ChangeShapes Go.WideShapes Go.ChangeAt

abbrev LimD := Int × (Int × (Int × (Int × (Int × Unit))))
def limF (x : LimD) : List AV := [.int .i64 x.1] ++ ([.int .i64 x.2.1] ++ ([.int .i64 x.2.2.1] ++ ([.int .i64 x.2.2.2.1] ++ ([.int .i64 x.2.2.2.2.1] ++ []))))
def limOf (x : LimD) : Lim := ⟨x.1, x.2.1, x.2.2.1, x.2.2.2.1, x.2.2.2.2.1⟩
theorem limF_is (x : LimD) : AV.agg (limF x) = encL (limOf x) := rfl
theorem reads_lim : ∃ G : LimD → Prop, ReadsZ Tryd.prog 55 limF G := by
  have hi : ReadsZ Tryd.prog 3 (fun n : Int => [.int .i64 n]) _ := Reads.z (reads_int Tryd.underlying3)
  exact ⟨_, readsZ_struct Tryd.underlying55 (by kernel_rfl) (readsF_cons hi (readsF_cons hi (readsF_cons hi (readsF_cons hi (readsF_cons hi readsF_nil)))))⟩

theorem reads_gss : ∃ G : Option (List (Option (List NdD))) → Prop, (∀ o, G o → MemR (gssOf o)) ∧ ReadsZ Tryd.prog 68 (fun o => [gssF o]) G := by
  obtain ⟨G, hk, hG⟩ := reads_gs
  refine ⟨_, fun o h => memR_of hk ?_, readsZ_slice Tryd.underlying68 (by kernel_rfl) (by decide) hG (fun _ => rfl)⟩
  have hb : Tryd.prog.bytesOf 22 = 24 := by kernel_rfl
  intro l hl
  have := h l hl
  rw [hb] at this
  exact this

theorem reads_u16 : ReadsZ Tryd.prog 56 (fun n : Int => [.int .u16 n]) (fun n => 0 ≤ n ∧ n < 65536) := by
  have h : ReadsZ Tryd.prog 56 (fun n : Int => [.int .u16 n]) _ := Reads.z (reads_int Tryd.underlying56)
  intro Hd enc W fuel cs x hx hz
  obtain ⟨n, hn, hr⟩ := h enc W fuel cs x hx hz
  refine ⟨n, ?_, hr⟩
  simp only [Lit.wf, Bool.and_eq_true, decide_eq_true_eq] at hn
  have h1 : IntKind.u16.min = 0 := by decide
  have h2 : IntKind.u16.max = 65535 := by decide
  omega

abbrev TwoD := LimD × (LimD × (Option (List (Option (List NdD))) × (Int × Unit)))
def twoF (x : TwoD) : List AV := limF x.1 ++ (limF x.2.1 ++ ([gssF x.2.2.1] ++ ([.int .u16 x.2.2.2.1] ++ [])))
theorem twoF_is (x : TwoD) : AV.agg (twoF x) = .agg (twoC (limOf x.1) (limOf x.2.1) (gssF x.2.2.1) x.2.2.2.1) := rfl
theorem reads_two : ∃ G : TwoD → Prop, (∀ x, G x → MemR (gssOf x.2.2.1) ∧ 0 ≤ x.2.2.2.1 ∧ x.2.2.2.1 < 65536) ∧ ReadsZ Tryd.prog 70 twoF G := by
  obtain ⟨G1, h1⟩ := reads_lim
  obtain ⟨G2, k2, h2⟩ := reads_gss
  refine ⟨_, fun x h => ?_, readsZ_struct Tryd.underlying70 (by kernel_rfl) (readsF_cons h1 (readsF_cons h1 (readsF_cons h2 (readsF_cons reads_u16 readsF_nil))))⟩
  obtain ⟨_, _, h3, h4, _⟩ := h
  exact ⟨k2 _ h3, h4⟩

end Go.SV

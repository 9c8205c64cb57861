/- The laws on texts: tables, arguments. Own text of the prover; nothing is assumed. -/
import Derived.Test.YtaimiohndbajjaaDoorDk
import Derived.Test.YtaimiohndbajjaaDoorQu
import Derived.Stop.LaidErr
import Derived.LaidLaws
set_option maxRecDepth 100000
namespace Go.SV
open Go.Proofs Go.RowKit Go.ChangeShapes Go.WideShapes Go.ChangeAt

abbrev laidL : List (String × DataW Unit) := [("math/bits.deBruijn32tab", YtaimiohndbajjaaDoor.Rows.laid_math_bits_deBruijn32tab), ("math/bits.deBruijn64tab", YtaimiohndbajjaaDoor.Rows.laid_math_bits_deBruijn64tab), ("internal/strconv.uint64pow10", YtaimiohndbajjaaDoor.Rows.laid_internal_strconv_uint64pow10), ("unicode/utf8.acceptRanges", YtaimiohndbajjaaDoor.Rows.laid_unicode_utf8_acceptRanges), ("strconv.ErrRange", YtaimiohndbajjaaDoor.Rows.laid_strconv_ErrRange), ("strconv.ErrSyntax", YtaimiohndbajjaaDoor.Rows.laid_strconv_ErrSyntax), ("unicode/utf8.first", YtaimiohndbajjaaDoor.Rows.laid_unicode_utf8_first)]

theorem tabs_of {W : World} (h : laidMetH Tryd.prog laidL W) (hsh : W.ShapedOpen Tryd.prog) : Tabs W := by
  rw [MakeChecks.laidMetH_plain _ _ _ (by kernel_rfl)] at h
  refine ⟨?_, ?_, ?_⟩
  · refine utf8Tabs_of_readsT (U8Types.of196 Tryd.lays196) ⟨by kernel_rfl, by kernel_rfl, by kernel_rfl, by kernel_rfl, by kernel_rfl, by kernel_rfl, by kernel_rfl⟩ ?_ ?_
    · have := Lib.laidMet.reads h (n := "unicode/utf8.first") (d := YtaimiohndbajjaaDoor.Rows.laid_unicode_utf8_first) (by simp [laidL])
      have e : YtaimiohndbajjaaDoor.Rows.laid_unicode_utf8_first = Lib.firstData := by kernel_rfl
      rw [e] at this; exact this
    · have := Lib.laidMet.reads h (n := "unicode/utf8.acceptRanges") (d := YtaimiohndbajjaaDoor.Rows.laid_unicode_utf8_acceptRanges) (by simp [laidL])
      have e : (YtaimiohndbajjaaDoor.Rows.laid_unicode_utf8_acceptRanges : DataW Unit) = Lib.acceptData := by kernel_rfl
      rw [e] at this; exact this
  · have h3 := laidMet_tail (laidMet_tail h)
    have e : (YtaimiohndbajjaaDoor.Rows.laid_internal_strconv_uint64pow10 : DataW Unit) = Lib.tabData .u64 Lib.pow10Tab := by kernel_rfl
    rw [e] at h3
    exact Lib.tabIs_of_head (g := 5) (t := 119) (e := 84) (n := 20) (by kernel_rfl) (by kernel_rfl) Tryd.underlying119 Tryd.underlying84 (by kernel_rfl) (by kernel_rfl) h3
  · exact cell_of_shapedOpen_int (g := 2) hsh (of_decide_eq_true (by kernel_rfl)) (zero := #[.int .i64 0]) (t := 3) (by kernel_rfl) rfl (by kernel_rfl) (by kernel_rfl) Tryd.underlying3


theorem star_e : "*" ++ "errors.errorString" = "*errors.errorString" := by decide
theorem err_row (u : TypeId) (h : Tryd.prog.typeName? 3 u = some "*errors.errorString") : u = 109 :=
  typeName_ptr_named (nm := "errors.errorString") (by rw [star_e]; kernel_rfl) (by kernel_rfl) (by decide) u (by rw [star_e]; exact h)
theorem tabsE_of {W : World} (h : laidMetH Tryd.prog laidL W) (hsh : W.ShapedOpen Tryd.prog) : TabsE W := by
  refine ⟨tabs_of h hsh, ?_⟩
  rw [MakeChecks.laidMetH_plain _ _ _ (by kernel_rfl)] at h
  have h5 := laidMet_tail (laidMet_tail (laidMet_tail (laidMet_tail (laidMet_tail h))))
  obtain ⟨a, sa, hv, _⟩ := laid_sentinel h5 (g := 3) (by kernel_rfl) (by kernel_rfl) Tryd.underlying43 err_row Tryd.underlying109 Tryd.underlying111 rfl rfl Tryd.underlying9 (by kernel_rfl) (by kernel_rfl)
  exact ⟨_, _, by have := World.var?_cell (g := 3) (by kernel_rfl) hv 0; simpa using this⟩

theorem reads_s : ReadsZ Tryd.prog 9 (fun l : List UInt8 => [AV.str l]) (fun l => l.length ≤ maxLen) := Reads.z (reads_str Tryd.underlying9)

end Go.SV

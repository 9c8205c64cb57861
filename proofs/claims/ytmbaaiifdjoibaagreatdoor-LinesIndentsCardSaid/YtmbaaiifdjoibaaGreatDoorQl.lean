/- The laws on texts: tables, arguments. Own text of the prover; nothing is assumed. -/
import Derived.Test.YtmbaaiifdjoibaaGreatDoorDk
import Derived.Test.YtmbaaiifdjoibaaGreatDoorQu
import Derived.Stop.LaidErr
import Derived.LaidLaws
set_option maxRecDepth 100000
namespace Go.SV
open Go.Proofs Go.RowKit Go.ChangeShapes Go.WideShapes Go.ChangeAt

abbrev laidL : List (String × DataW Unit) := [("math/bits.deBruijn32tab", YtmbaaiifdjoibaaGreatDoor.Rows.laid_math_bits_deBruijn32tab), ("math/bits.deBruijn64tab", YtmbaaiifdjoibaaGreatDoor.Rows.laid_math_bits_deBruijn64tab), ("internal/strconv.uint64pow10", YtmbaaiifdjoibaaGreatDoor.Rows.laid_internal_strconv_uint64pow10), ("unicode/utf8.acceptRanges", YtmbaaiifdjoibaaGreatDoor.Rows.laid_unicode_utf8_acceptRanges), ("strconv.ErrRange", YtmbaaiifdjoibaaGreatDoor.Rows.laid_strconv_ErrRange), ("strconv.ErrSyntax", YtmbaaiifdjoibaaGreatDoor.Rows.laid_strconv_ErrSyntax), ("unicode/utf8.first", YtmbaaiifdjoibaaGreatDoor.Rows.laid_unicode_utf8_first)]

theorem tabs_of {W : World} (h : laidMetH Tryz.prog laidL W) (hsh : W.ShapedOpen Tryz.prog) : Tabs W := by
  rw [MakeChecks.laidMetH_plain _ _ _ (by kernel_rfl)] at h
  refine ⟨?_, ?_, ?_⟩
  · refine utf8Tabs_of_readsT (U8Types.of196 Tryz.lays196) ⟨by kernel_rfl, by kernel_rfl, by kernel_rfl, by kernel_rfl, by kernel_rfl, by kernel_rfl, by kernel_rfl⟩ ?_ ?_
    · have := Lib.laidMet.reads h (n := "unicode/utf8.first") (d := YtmbaaiifdjoibaaGreatDoor.Rows.laid_unicode_utf8_first) (by simp [laidL])
      have e : YtmbaaiifdjoibaaGreatDoor.Rows.laid_unicode_utf8_first = Lib.firstData := by kernel_rfl
      rw [e] at this; exact this
    · have := Lib.laidMet.reads h (n := "unicode/utf8.acceptRanges") (d := YtmbaaiifdjoibaaGreatDoor.Rows.laid_unicode_utf8_acceptRanges) (by simp [laidL])
      have e : (YtmbaaiifdjoibaaGreatDoor.Rows.laid_unicode_utf8_acceptRanges : DataW Unit) = Lib.acceptData := by kernel_rfl
      rw [e] at this; exact this
  · have h3 := laidMet_tail (laidMet_tail h)
    have e : (YtmbaaiifdjoibaaGreatDoor.Rows.laid_internal_strconv_uint64pow10 : DataW Unit) = Lib.tabData .u64 Lib.pow10Tab := by kernel_rfl
    rw [e] at h3
    exact Lib.tabIs_of_head (g := 5) (t := 147) (e := 65) (n := 20) (by kernel_rfl) (by kernel_rfl) Tryz.underlying147 Tryz.underlying65 (by kernel_rfl) (by kernel_rfl) h3
  · exact cell_of_shapedOpen_int (g := 0) hsh (of_decide_eq_true (by kernel_rfl)) (zero := #[.int .i64 0]) (t := 3) (by kernel_rfl) rfl (by kernel_rfl) (by kernel_rfl) Tryz.underlying3


theorem star_e : "*" ++ "errors.errorString" = "*errors.errorString" := by decide
theorem err_row (u : TypeId) (h : Tryz.prog.typeName? 3 u = some "*errors.errorString") : u = 137 :=
  typeName_ptr_named (nm := "errors.errorString") (by rw [star_e]; kernel_rfl) (by kernel_rfl) (by decide) u (by rw [star_e]; exact h)
theorem tabsE_of {W : World} (h : laidMetH Tryz.prog laidL W) (hsh : W.ShapedOpen Tryz.prog) : TabsE W := by
  refine ⟨tabs_of h hsh, ?_⟩
  rw [MakeChecks.laidMetH_plain _ _ _ (by kernel_rfl)] at h
  have h5 := laidMet_tail (laidMet_tail (laidMet_tail (laidMet_tail (laidMet_tail h))))
  obtain ⟨a, sa, hv, _⟩ := laid_sentinel h5 (g := 3) (by kernel_rfl) (by kernel_rfl) Tryz.underlying44 err_row Tryz.underlying137 Tryz.underlying139 rfl rfl Tryz.underlying9 (by kernel_rfl) (by kernel_rfl)
  exact ⟨_, _, by have := World.var?_cell (g := 3) (by kernel_rfl) hv 0; simpa using this⟩

theorem reads_s : ReadsZ Tryz.prog 9 (fun l : List UInt8 => [AV.str l]) (fun l => l.length ≤ maxLen) := Reads.z (reads_str Tryz.underlying9)

end Go.SV

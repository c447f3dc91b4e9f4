/- What the rows' lists of variables give. -/
import Derived.Test.YtdpclcogfkjbcaaDoorPar1
import Derived.LaidMore
import Derived.Stop.LaidErr
import Derived.Shelf.Vars
import Derived.Lib.LaidTab
import Derived.Stop.Joined
namespace Go.Proofs.YtdpclcogfkjbcaaDoor
open Go.RowKit Go.ChangeShapes
set_option maxHeartbeats 4000000

theorem gEs : Tryd.prog.globalNamed "strconv.ErrSyntax" = some 1 := by kernel_rfl
theorem gEr : Tryd.prog.globalNamed "strconv.ErrRange" = some 2 := by kernel_rfl
theorem gPow : Tryd.prog.globalNamed "internal/strconv.uint64pow10" = some 3 := by kernel_rfl
theorem gEsT : (Tryd.prog.globals[1]?).map (·.type) = some 54 := by kernel_rfl
theorem gErT : (Tryd.prog.globals[2]?).map (·.type) = some 54 := by kernel_rfl
theorem gPowT : (Tryd.prog.globals[3]?).map (·.type) = some 100 := by kernel_rfl
theorem cells_pow : Tryd.prog.cellsOf 100 = 20 := by kernel_rfl
theorem cells_u64 : Tryd.prog.cellsOf 85 = 1 := by kernel_rfl
theorem cells_es : Tryd.prog.cellsOf 113 = 1 := by kernel_rfl
theorem cells_str : Tryd.prog.cellsOf 9 = 1 := by kernel_rfl
theorem star_es : "*" ++ "errors.errorString" = "*errors.errorString" := by decide
theorem row_es (u : TypeId) (h : Tryd.prog.typeName? 3 u = some "*errors.errorString") : u = 111 :=
  typeName_ptr_named (nm := "errors.errorString") (by rw [star_es]; kernel_rfl) (by kernel_rfl) (by decide) u (by rw [star_es]; exact h)
theorem pow_data : (Rows.laid_internal_strconv_uint64pow10 : DataW Unit) = Lib.tabData .u64 Lib.pow10Tab := by kernel_rfl
theorem vf_of {W : World} (h : laidMetH Tryd.prog Rows.fnExactSetParseRow.laid W) (hS : W.ShapedOpen Tryd.prog) : VF W := by
  rw [MakeChecks.laidMetH_plain _ _ _ (by kernel_rfl)] at h
  have h2 := h.tail.tail
  have h4 := h2.tail.tail
  have h5 := h4.tail
  refine ⟨Go.Proofs.cell_of_shapedOpen_int (zero := #[.int .i64 0]) (t := 3) hS (of_decide_eq_true (by kernel_rfl)) (by kernel_rfl) rfl (by kernel_rfl) (by kernel_rfl) Tryd.underlying3, ?_, ?_, ?_⟩
  · obtain ⟨a, s, hv, _⟩ := laid_sentinel h5 gEs gEsT Tryd.underlying54 row_es Tryd.underlying111 Tryd.underlying113 rfl rfl Tryd.underlying9 cells_es cells_str
    exact ⟨_, _, by simpa using World.var?_cell gEs hv 0⟩
  · obtain ⟨a, s, hv, _⟩ := laid_sentinel h4 gEr gErT Tryd.underlying54 row_es Tryd.underlying111 Tryd.underlying113 rfl rfl Tryd.underlying9 cells_es cells_str
    exact ⟨_, _, by simpa using World.var?_cell gEr hv 0⟩
  · rw [pow_data] at h2
    exact Lib.tabIs_of_head gPow gPowT Tryd.underlying100 Tryd.underlying85 cells_u64 cells_pow h2
end Go.Proofs.YtdpclcogfkjbcaaDoor

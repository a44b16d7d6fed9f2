/- The premises of the rows, as the walks want them. -/
import Derived.Test.YtaaaifeommdblaaDoorArgs
import Derived.Test.YtaaaifeommdblaaDoorCards
import Derived.Test.YtaaaifeommdblaaDoorTie
import Derived.Lib.LaidU8
import Derived.PinnedBridge
import Derived.Lay
import Derived.LaidOnce
import Derived.SevenTiedAt
import Derived.Deep.DeepHandedRow
import Derived.ChangeMaps5
import Derived.ProofKit
namespace Go.Proofs.YtaaaifeommdblaaDoor
open Go.ChangeShapes Go.WideShapes Go.ChangeAt Go.RowKit Go.Lib

theorem own : ownKnob Tryd.prog.godebug = none := by kernel_rfl
theorem u8x : U8Extra Tryd.prog Tryd.lays260_ren := ⟨by kernel_rfl, by kernel_rfl, by kernel_rfl, by kernel_rfl, by kernel_rfl, by kernel_rfl, by kernel_rfl⟩
theorem accept_eq : Rows.laid_unicode_utf8_acceptRanges = acceptData := by kernel_rfl

theorem glob_of {W : World} (hL : laidMetH Tryd.prog [("unicode/utf8.acceptRanges", Rows.laid_unicode_utf8_acceptRanges), ("unicode/utf8.first", Rows.laid_unicode_utf8_first)] W) (hS : W.ShapedOpen Tryd.prog) : Glob W := by
  rw [MakeChecks.laidMetH_plain _ _ _ (by kernel_rfl)] at hL
  exact ⟨utf8Tabs_of_reads Tryd.lays260 u8x (Pinned.utf8First_eq ▸ Lib.laidMet.reads hL (.tail _ (.head _))) (accept_eq ▸ Lib.laidMet.reads hL (.head _)), Tryd.laysM219.s1_3 W hS⟩

theorem laidOut : laidOutB Tryd.prog = true := by kernel_rfl
theorem plain_of (_f : FuncId) (fn : Func) (hlook : false = Tryd.prog.looks []) (hall : (fn.params.toList.all fun u => !Tryd.prog.wantsStandIn u) = true) :
    false = Tryd.prog.looks [] ∧ ∀ (j : Nat) t, fn.params[j]? = some t → Tryd.prog.wantsStandIn t = false := by
  refine ⟨hlook, fun j t ht => ?_⟩
  have hm : t ∈ fn.params.toList := by
    rw [← Array.getElem?_toList] at ht
    exact List.mem_of_getElem? ht
  simpa using List.all_eq_true.1 hall t hm

end Go.Proofs.YtaaaifeommdblaaDoor

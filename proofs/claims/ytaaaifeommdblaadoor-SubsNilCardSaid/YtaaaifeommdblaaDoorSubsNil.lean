/- basculelaw13.SubsNil: the walk. -/
import Derived.Test.YtaaaifeommdblaaDoorSubsAwake
namespace Go.Proofs.YtaaaifeommdblaaDoor
open Go.RowKit Go.Sort

set_option maxHeartbeats 2000000 in
set_option maxRecDepth 100000 in
theorem subsNil_walk (c t : ByteArray) (q : Int) (w : World) (hG : Glob w) : Calls Tryd.prog 7 #[.string c, .string t, .int .i64 q] w fun e w' => e = .returned (.bool true) ∧ Below w.heap.size w w' := by
  have H1 := Lib.hid (add_nil c t q)
  have H2 := Lib.hid (drop_nil c t)
  have H3 := Lib.hid (gone_nil c)
  have H4 := Lib.hid (find_nil t)
  have H5 := Lib.hid (of_nil c)
  have H6 := Lib.hid (fun W (h : Glob W) => awake13 W h)
  go_enter Tryd.func7, Tryd.ntmps7
  go_wp2_with (first
    | (go_at_call 23; refine (H1.out _).mono ?_; rintro e w1 ⟨rfl, hb1⟩; clear H1)
    | (go_at_call 25; refine (H2.out _).mono ?_; rintro e w2 ⟨rfl, hb2'⟩; have hb2 := hb1.trans (hb2'.mono hb1.size); clear H2)
    | (go_at_call 31; refine (H3.out _).mono ?_; rintro e w3 ⟨rfl, hb3'⟩; have hb3 := hb2.trans (hb3'.mono hb2.size); clear H3)
    | (go_at_call 29; refine (H4.out _).mono ?_; rintro e w4 ⟨rfl, hb4'⟩; have hb4 := hb3.trans (hb4'.mono hb3.size); clear H4)
    | (go_at_call 24; refine (H5.out _).mono ?_; rintro e w5 ⟨rfl, hb5'⟩; have hb5 := hb4.trans (hb5'.mono hb4.size); clear H5)
    | (go_at_call 26; refine (H6.out _ (hG.below' hb5)).mono ?_; rintro e w6 ⟨rfl, hb6'⟩; have hb6 := hb5.trans (hb6'.mono hb5.size); clear H6))
  go_ret
  exact ⟨rfl, hb6⟩

end Go.Proofs.YtaaaifeommdblaaDoor

/- It is proved that basculelaw14.RetainKeeps returns true, without a panic, for every list of messages and every filter; and the arguments read as before. Conditions: those of the row: the two tables of unicode/utf8 that the row lists read as the program's own text lays them (the card ties them to it). -/
import Derived.Test.YtaaaifeommdblaaDoorKeeps
import Derived.Test.YtaaaifeommdblaaDoorArgsM
import Derived.Test.YtaaaifeommdblaaDoorCard
namespace Go.Proofs.YtaaaifeommdblaaDoor
open Go.ChangeShapes Go.WideShapes Go.ChangeAt Go.RowKit Go.Lib

set_option maxRecDepth 100000 in
theorem retainKeeps_lifted (os : Os) (started : os.Started) (H : Type) (enc : TypeId × Value → H) :
    ReturnsInHanded {} Tryd.checked os 3 .any ((OpenSpec.ofChange Rows.retainKeepsSpec).preRow enc Tryd.prog Tryd.f3 Rows.retainKeepsRow.domain false Rows.retainKeepsRow.laid)
      (Rows.retainKeepsSpec.post enc Tryd.prog Tryd.f3 false true false false) := by
  refine returnsInHanded_of_row (C := Tryd.checked) (s := OpenSpec.ofChange Rows.retainKeepsSpec) (F := fun _ _ _ => 0) own started (by kernel_rfl) Tryd.func3
    (ChangeSpec.witness_shaped (enc := enc) (C := Tryd.checked) (os := os) (X := fun w _ => laidMetH Tryd.prog Rows.retainKeepsRow.laid w) false (World.laidAll Tryd.prog os Rows.retainKeepsRow.laid) #[.slice none 0 0, .string ⟨#[]⟩] 8 (World.laidAll_os _ _ _)
      (World.shaped_of_ZipB (by kernel_rfl) (by kernel_rfl)) (by kernel_rfl) (by kernel_rfl) (by kernel_rfl)
      (by rw [MakeChecks.laidMetH_plain _ _ _ (by kernel_rfl)]; exact laidMet_laidAll _ (by kernel_rfl) (by kernel_rfl))) ?_
  intro W base args ds gs before hval0 hW _ _ _ hL hS _
  have hval : ∀ (j : Nat) t v, Tryd.f3.params[j]? = some t → args[j]? = some v → Value.okWide Tryd.prog W .any base t v := hval0
  have hW' := hW
  obtain ⟨p, q, hA0, hV, rfl, _, _⟩ := hW
  have hA : DataW.TrodAll enc Tryd.prog W 0 (fun _ => true) true Tryd.f3.params.toList args.toList ds p := hA0
  have hB := fun W' hb => trodAll_below (W' := W') laidOut hb (by kernel_rfl) hA
  rw [Tryd.params3] at hA hval
  obtain ⟨v0, vs0, d0, ds0, p0, q0, hargs, rfl, rfl, h0, r0⟩ := trodAll_cons hA
  obtain ⟨v1, vs1, d1, ds1, p1, q1, rfl, rfl, rfl, h1, r1⟩ := trodAll_cons r0
  obtain ⟨rfl, rfl, rfl⟩ := trodAll_nil r1
  obtain rfl : args = #[v0, v1] := by cases args; simp_all
  obtain ⟨rfl, rfl⟩ := trodVars_none hV
  obtain ⟨msgs, hmsgs⟩ := open_msgs (hval 0 22 v0 rfl rfl) h0
  obtain ⟨x1, rfl, _, _, _⟩ := Go.ChangeMaps.open_string Tryd.underlying9 (hval 1 9 v1 rfl rfl) h1
  refine (keeps_walk _ msgs x1 W (glob_of hL hS) hmsgs).mono fun e W' ⟨he, hb⟩ => ?_
  subst he
  have hB' := hB W' hb
  clear hA0 hB
  exact ⟨_, rfl, _, _, _, [], _, [], hW', trodAll_mk1 (shut_bool Tryd.underlying4 _), hB', rfl, hb.frame _, fun h => by cases h⟩

theorem retainKeeps_said : Rows.RetainKeepsSaid :=
  OpenClaim.holds_of_cond 3 Tryd.f3 rfl rfl rfl rfl rfl rfl rfl ⟨rfl, rfl, rfl, rfl, rfl⟩ rfl rfl rfl rfl rfl (by kernel_rfl) Tryd.func3 (by kernel_rfl)
    (of_decide_eq_true (by kernel_rfl)) (by unfold Func.isWrapper; first | (rw [if_pos (by decide +kernel)]; kernel_rfl) | (rw [if_neg (by decide +kernel)]; exact ⟨rfl, rfl⟩))
    (fun os started H enc _ F => by rw [OpenClaim.pre_eq_preRow]; exact retainKeeps_lifted os started H enc)

theorem retainKeeps_plain (f : FuncId) (fn : Func) (hf : Tryd.pinned.checked.prog.funcNamed "bascule/basculelaw14.RetainKeeps" = some f) (hfn : Tryd.pinned.checked.prog.funcs[f]? = some fn) :
    false = Tryd.pinned.checked.prog.looks [] ∧ ∀ (j : Nat) t, fn.params[j]? = some t → Tryd.pinned.checked.prog.wantsStandIn t = false := by
  obtain rfl : f = 3 := Option.some.inj ((show Tryd.prog.funcNamed "bascule/basculelaw14.RetainKeeps" = some 3 by kernel_rfl).symm.trans hf) |>.symm
  obtain rfl : fn = Tryd.f3 := (Option.some.inj (Tryd.func3.symm.trans hfn)).symm
  exact plain_of 3 Tryd.f3 (by kernel_rfl) (by kernel_rfl)

theorem retainKeeps_card : Rows.RetainKeepsCardSaid :=
  Claim7.holds_tied_plain_at .later [] _ _ _ _ retainKeeps_said (fun _ h => by cases h) (by kernel_rfl) (fun _ h => by cases h) retainKeeps_row_tie rfl ⟨rfl, rfl⟩ (by kernel_rfl) rfl retainKeeps_plain (by kernel_rfl)
#print axioms retainKeeps_card

end Go.Proofs.YtaaaifeommdblaaDoor

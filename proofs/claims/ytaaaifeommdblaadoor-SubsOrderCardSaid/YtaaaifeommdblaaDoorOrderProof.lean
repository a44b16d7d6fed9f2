/- It is proved that basculelaw13.SubsOrder returns true, without a panic, for every list of calls, every turn and every name; and the arguments read as before. Conditions: those of the row: the two tables of unicode/utf8 that the row lists read as the program's own text lays them (the card ties them to it). -/
import Derived.Test.YtaaaifeommdblaaDoorOrder
import Derived.Test.YtaaaifeommdblaaDoorCard
namespace Go.Proofs.YtaaaifeommdblaaDoor
open Go.ChangeShapes Go.WideShapes Go.ChangeAt Go.RowKit Go.Lib

set_option maxRecDepth 100000 in
theorem subsOrder_lifted (os : Os) (started : os.Started) (H : Type) (enc : TypeId × Value → H) :
    ReturnsInHanded {} Tryd.checked os 5 .any ((OpenSpec.ofChange Rows.subsOrderSpec).preRow enc Tryd.prog Tryd.f5 Rows.subsOrderRow.domain false Rows.subsOrderRow.laid)
      (Rows.subsOrderSpec.post enc Tryd.prog Tryd.f5 false true false false) := by
  refine returnsInHanded_of_row (C := Tryd.checked) (s := OpenSpec.ofChange Rows.subsOrderSpec) (F := fun _ _ _ => 0) own started (by kernel_rfl) Tryd.func5
    (ChangeSpec.witness_shaped (enc := enc) (C := Tryd.checked) (os := os) (X := fun w _ => laidMetH Tryd.prog Rows.subsOrderRow.laid w) false (World.laidAll Tryd.prog os Rows.subsOrderRow.laid) #[.slice none 0 0, .int .i64 0, .string ⟨#[]⟩] 8 (World.laidAll_os _ _ _)
      (World.shaped_of_ZipB (by kernel_rfl) (by kernel_rfl)) (by kernel_rfl) (by kernel_rfl) (by kernel_rfl)
      (by rw [MakeChecks.laidMetH_plain _ _ _ (by kernel_rfl)]; exact laidMet_laidAll _ (by kernel_rfl) (by kernel_rfl))) ?_
  intro W base args ds gs before hval0 hW _ _ _ hL hS _
  have hval : ∀ (j : Nat) t v, Tryd.f5.params[j]? = some t → args[j]? = some v → Value.okWide Tryd.prog W .any base t v := hval0
  have hW' := hW
  obtain ⟨p, q, hA0, hV, rfl, _, _⟩ := hW
  have hA : DataW.TrodAll enc Tryd.prog W 0 (fun _ => true) true Tryd.f5.params.toList args.toList ds p := hA0
  have hB := fun W' hb => trodAll_below (W' := W') laidOut hb (by kernel_rfl) hA
  rw [Tryd.params5] at hA hval
  obtain ⟨v0, vs0, d0, ds0, p0, q0, hargs, rfl, rfl, h0, r0⟩ := trodAll_cons hA
  obtain ⟨v1, vs1, d1, ds1, p1, q1, rfl, rfl, rfl, h1, r1⟩ := trodAll_cons r0
  obtain ⟨v2, vs2, d2, ds2, p2, q2, rfl, rfl, rfl, h2, r2⟩ := trodAll_cons r1
  obtain ⟨rfl, rfl, rfl⟩ := trodAll_nil r2
  obtain rfl : args = #[v0, v1, v2] := by cases args; simp_all
  obtain ⟨rfl, rfl⟩ := trodVars_none hV
  obtain ⟨ops, hops⟩ := open_ops (hval 0 45 v0 rfl rfl) h0
  obtain ⟨x1, rfl, _, _, _⟩ := open_int Tryd.underlying3 (hval 1 3 v1 rfl rfl) h1
  obtain ⟨x2, rfl, _, _, _⟩ := Go.ChangeMaps.open_string Tryd.underlying9 (hval 2 9 v2 rfl rfl) h2
  refine (order_walk _ ops x1 x2 W (glob_of hL hS) hops).mono fun e W' ⟨he, hb⟩ => ?_
  subst he
  have hB' := hB W' hb
  clear hA0 hB
  exact ⟨_, rfl, _, _, _, [], _, [], hW', trodAll_mk1 (shut_bool Tryd.underlying4 _), hB', rfl, hb.frame _, fun h => by cases h⟩

theorem subsOrder_said : Rows.SubsOrderSaid :=
  OpenClaim.holds_of_cond 5 Tryd.f5 rfl rfl rfl rfl rfl rfl rfl ⟨rfl, rfl, rfl, rfl, rfl⟩ rfl rfl rfl rfl rfl (by kernel_rfl) Tryd.func5 (by kernel_rfl)
    (of_decide_eq_true (by kernel_rfl)) (by unfold Func.isWrapper; first | (rw [if_pos (by decide +kernel)]; kernel_rfl) | (rw [if_neg (by decide +kernel)]; exact ⟨rfl, rfl⟩))
    (fun os started H enc _ F => by rw [OpenClaim.pre_eq_preRow]; exact subsOrder_lifted os started H enc)

theorem subsOrder_plain (f : FuncId) (fn : Func) (hf : Tryd.pinned.checked.prog.funcNamed "bascule/basculelaw13.SubsOrder" = some f) (hfn : Tryd.pinned.checked.prog.funcs[f]? = some fn) :
    false = Tryd.pinned.checked.prog.looks [] ∧ ∀ (j : Nat) t, fn.params[j]? = some t → Tryd.pinned.checked.prog.wantsStandIn t = false := by
  obtain rfl : f = 5 := Option.some.inj ((show Tryd.prog.funcNamed "bascule/basculelaw13.SubsOrder" = some 5 by kernel_rfl).symm.trans hf) |>.symm
  obtain rfl : fn = Tryd.f5 := (Option.some.inj (Tryd.func5.symm.trans hfn)).symm
  exact plain_of 5 Tryd.f5 (by kernel_rfl) (by kernel_rfl)

theorem subsOrder_card : Rows.SubsOrderCardSaid :=
  Claim7.holds_tied_plain_at .later [] _ _ _ _ subsOrder_said (fun _ h => by cases h) (by kernel_rfl) (fun _ h => by cases h) subsOrder_row_tie rfl ⟨rfl, rfl⟩ (by kernel_rfl) rfl subsOrder_plain (by kernel_rfl)
#print axioms subsOrder_card

end Go.Proofs.YtaaaifeommdblaaDoor

/- basculelaw13.awake: the walk. -/
import Derived.Test.YtaaaifeommdblaaDoorRowRd
namespace Go.Proofs.YtaaaifeommdblaaDoor
open Go.RowKit Go.Sort

theorem isFind_unique {l : SubL} {name : ByteArray} {ws ws' : List (ByteArray × Int)} (h : IsFind l name ws) (h' : IsFind l name ws') : ws = ws' := by
  have nd : ∀ {x : List (ByteArray × Int)}, x.Pairwise (fun a b => blt a.1 b.1 = true) → x.Nodup := fun hx => hx.imp (fun {a b} hab e => by rw [e, blt_irrefl] at hab; cases hab)
  have hp : ws.Perm ws' := (List.perm_ext_iff_of_nodup (nd h.1) (nd h'.1)).2 (fun ⟨c, q⟩ => (h.2 c q).trans (h'.2 c q).symm)
  refine List.Perm.eq_of_pairwise (le := fun a b => blt a.1 b.1 = true) ?_ h.1 h'.1 hp
  intro a b _ _ h1 h2
  have := blt_trans h1 h2
  rw [blt_irrefl] at this
  cases this

/-- The index of the document's example. -/
def exL : SubL := [((⟨#[98]⟩, ⟨#[97, 47, 35]⟩), (1, 1)), ((⟨#[98]⟩, ⟨#[97, 47, 43]⟩), (2, 2)), ((⟨#[97]⟩, ⟨#[35]⟩), (0, 3))]
def exW : List (ByteArray × Int) := [(⟨#[97]⟩, 0), (⟨#[98]⟩, 2)]

theorem ex1 : filterF ⟨#[97, 47, 35]⟩ = true := by kernel_rfl
theorem ex2 : filterF ⟨#[97, 47, 43]⟩ = true := by kernel_rfl
theorem ex3 : filterF ⟨#[35]⟩ = true := by kernel_rfl
theorem ex4 : nameF ⟨#[97, 47, 120]⟩ = true := by kernel_rfl
theorem ex5 : matchF ⟨#[97, 47, 35]⟩ ⟨#[97, 47, 120]⟩ = (true, 0) := by kernel_rfl
theorem ex6 : matchF ⟨#[97, 47, 43]⟩ ⟨#[97, 47, 120]⟩ = (true, 0) := by kernel_rfl
theorem ex7 : matchF ⟨#[35]⟩ ⟨#[97, 47, 120]⟩ = (true, 0) := by kernel_rfl
theorem exA1 : addF [] 0 ⟨#[98]⟩ ⟨#[97, 47, 35]⟩ 1 = ((false, 0), (exL.take 1, 1)) := by kernel_rfl
theorem exA2 : addF (exL.take 1) 1 ⟨#[98]⟩ ⟨#[97, 47, 43]⟩ 2 = ((false, 0), (exL.take 2, 2)) := by kernel_rfl
theorem exA3 : addF (exL.take 2) 2 ⟨#[97]⟩ ⟨#[35]⟩ 0 = ((false, 0), (exL, 3)) := by kernel_rfl
theorem exD : (dropF exL 3 ⟨#[98]⟩ ⟨#[97, 47, 43]⟩).1 = (true, 0) := by kernel_rfl
theorem exF : IsFind exL ⟨#[97, 47, 120]⟩ exW := by
  refine ⟨by decide +kernel, fun c q => ?_⟩
  unfold wantOf exL exW
  simp only [List.foldl_cons, List.foldl_nil, ex5, ex6, ex7, and_true, List.mem_cons, Prod.mk.injEq, List.not_mem_nil, or_false]
  by_cases ha : c = ⟨#[97]⟩
  · subst ha
    simp
    exact ⟨fun h => h.symm, fun h => h.symm⟩
  · by_cases hb : c = ⟨#[98]⟩
    · subst hb
      simp
      exact ⟨fun h => h.symm, fun h => h.symm⟩
    · simp [ha, hb, Ne.symm ha, Ne.symm hb]

set_option maxHeartbeats 2000000 in
set_option maxRecDepth 100000 in
theorem awake13 (w : World) (hG : Glob w) : Calls Tryd.prog 26 #[] w fun e w' => e = .returned (.bool true) ∧ Below w.heap.size w w' := by
  have HNEW := Lib.hid (new_walk w)
  have HU := Lib.hid (fun ws (h' : IsFind exL ⟨#[97, 47, 120]⟩ ws) => isFind_unique exF h')
  have eA1 := exA1; have eA2 := exA2; have eA3 := exA3; have eD := exD
  obtain ⟨l1, hl1⟩ : ∃ x, x = exL.take 1 := ⟨_, rfl⟩
  obtain ⟨l2, hl2⟩ : ∃ x, x = exL.take 2 := ⟨_, rfl⟩
  obtain ⟨l3, hl3⟩ : ∃ x, x = exL := ⟨_, rfl⟩
  have hlen : l3.length ≤ 65536 := by rw [hl3]; decide
  rw [← hl1] at eA1 eA2
  rw [← hl2] at eA2 eA3
  rw [← hl3] at eA3 eD HU
  clear hl1 hl2 hl3
  have HA1 := Lib.hid eA1; have HA2 := Lib.hid eA2; have HA3 := Lib.hid eA3; have HD := Lib.hid eD
  clear eA1 eA2 eA3 eD
  go_enter Tryd.func26, Tryd.ntmps26
  go_wp2_with (go_at_call 22; refine HNEW.out.mono ?_; rintro e w1 ⟨rfl, hx1, hb1⟩; have hG1 := hG.below' hb1; have HC1 := Lib.hid (add_walk _ _ _ _ ⟨#[98]⟩ ⟨#[97, 47, 35]⟩ 1 w1 hG1 hx1 (by decide)); rw [HA1.out] at HC1; clear HNEW)
  go_wp2_with (go_at_call 23; refine HC1.out.mono ?_; rintro e w2 ⟨he, hx2, ht2⟩; simp only at he hx2; subst he; have hb2 := Turn.base hb1 ht2 (by omega) (by omega) hb1.size; have hG2 := hG.below' hb2; have HC2 := Lib.hid (add_walk _ _ _ _ ⟨#[98]⟩ ⟨#[97, 47, 43]⟩ 2 w2 hG2 hx2 (by decide)); rw [HA2.out] at HC2; clear HC1)
  go_wp2_with (go_at_call 23; refine HC2.out.mono ?_; rintro e w3 ⟨he, hx3, ht3⟩; simp only at he hx3; subst he; have hb3 := Turn.base hb2 ht3 (by omega) (by omega) hb2.size; have hG3 := hG.below' hb3; have HC3 := Lib.hid (add_walk _ _ _ _ ⟨#[97]⟩ ⟨#[35]⟩ 0 w3 hG3 hx3 (by decide)); rw [HA3.out] at HC3; clear HC2)
  go_wp2_with (go_at_call 23; refine HC3.out.mono ?_; rintro e w4 ⟨he, hx4, ht4⟩; simp only at he hx4; subst he; have hb4 := Turn.base hb3 ht4 (by omega) (by omega) hb3.size; have hG4 := hG.below' hb4; have HC4 := Lib.hid (find_walk _ _ _ _ _ w4 hG4 hx4 ex4 hlen); clear HC3)
  go_wp2_with (go_at_call 29; refine HC4.out.mono ?_; rintro e w5 ⟨⟨v, ws, rfl, hF, hown⟩, hb5⟩; obtain rfl := HU.out _ hF; have hB5 := hb4.trans (hb5.mono hb4.size); have hG5 := hG.below' hB5; have HC5 := Lib.hid (drop_walk _ _ l3 3 ⟨#[98]⟩ ⟨#[97, 47, 43]⟩ w5 hG5 (hx4.below hb5)); clear HC4)
  go_wp2_with (go_at_call 25; refine HC5.out.mono ?_; rintro e w6 ⟨he, _, ht6⟩; rw [HD.out] at he; subst he; have hB6 := Turn.base hB5 ht6 (by omega) (by omega) hB5.size; clear HC5)
  have hr5 := RowRd.of_own hown (by decide) (by decide)
  have hlt4 := hx4.lt
  have hge5 := hown.lt
  have hr6 := hr5.turn ht6 (fun ad n' cap hv => by have := hge5 ad.block (by rw [hv]; rfl); omega)
  have hb7 : Below w6.heap.size w6 (w6.alloc (.cells #[.string ⟨#[97]⟩, .int .i64 0, .string ⟨#[98]⟩, .int .i64 2] 67)) := (Below.refl _ _).alloc (Nat.le_refl _) _
  have hlit : RowRd (w6.alloc (.cells #[.string ⟨#[97]⟩, .int .i64 0, .string ⟨#[98]⟩, .int .i64 2] 67)) (.slice (some ⟨w6.heap.size, 0, none⟩) 2 2) exW.length (exW.flatMap wantE) :=
    ⟨_, _, rfl, fun _ => ⟨_, _, rfl, by simp, fun j u hj => by
      have := cells_new w6 [.string ⟨#[97]⟩, .int .i64 0, .string ⟨#[98]⟩, .int .i64 2] 67 j u hj
      have e : (⟨w6.heap.size, 0, none⟩ : Addr).add j = ⟨w6.heap.size, 0 + j, none⟩ := by unfold Addr.add; split <;> simp_all
      rw [← e]
      exact this⟩⟩
  have HC7 := Lib.hid (wants_walk _ _ exW exW _ (hr6.below hb7) hlit (by decide))
  rw [decide_eq_true rfl] at HC7
  go_wp2_with (go_at_call 30; refine HC7.out.mono ?_; rintro e w7 ⟨rfl, hb8⟩; clear HC7)
  go_ret
  exact ⟨rfl, (hB6.trans (hb7.mono hB6.size)).trans (hb8.mono (by have := hB6.size; simp; omega))⟩

end Go.Proofs.YtaaaifeommdblaaDoor

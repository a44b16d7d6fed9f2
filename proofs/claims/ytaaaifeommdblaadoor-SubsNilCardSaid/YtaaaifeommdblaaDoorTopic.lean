/- topic.Name, topic.Filter: the walks. -/
import Derived.Test.YtaaaifeommdblaaDoorTopicF
namespace Go.Proofs.YtaaaifeommdblaaDoor
open Go.RowKit Go.Shelf
attribute [local go_sem] Oper.semAt_some

theorem toList_nil {s : ByteArray} : s.toList = [] ↔ s.size = 0 := by
  rw [Lib.toList_data, Lib.size_eq]
  cases s.data.toList <;> simp

/-- **topic.Name.** -/
theorem name_walk (s : ByteArray) (w : World) (hG : Glob w) :
    Calls Tryd.prog 33 #[.string s] w (Gives (.int .i64 (if nameF s then 0 else 120)) w) := by
  obtain ⟨r, hr⟩ : ∃ r : Int, r = (if nameF s then 0 else 120) := ⟨_, rfl⟩
  rw [← hr]
  unfold nameF at hr
  by_cases h0 : s.size = 0
  · have h1 : s.toList = [] := toList_nil.2 h0
    have HR : Hid (r = 120) := Lib.hid (by rw [hr]; simp [h0])
    clear hr h0
    go_enter Tryd.func33, Tryd.ntmps33
    go_wp2
    go_ret
    exact ⟨by rw [HR.out]; rfl, Below.refl _ _⟩
  · have h1 : ¬ s.toList = [] := fun h => h0 (toList_nil.1 h)
    have h2 : s.toList.isEmpty = false := by simpa using h1
    have HI := Lib.hid (is_walk s w hG)
    cases hU : utfIs s
    · have HR : Hid (r = 120) := Lib.hid (by rw [hr]; simp [hU])
      clear hr h0
      rw [hU] at HI
      go_enter Tryd.func33, Tryd.ntmps33
      go_wp2_with (go_at_call 48; refine HI.out.mono ?_; rintro e w1 ⟨rfl, hb1⟩)
      go_ret
      exact ⟨by rw [HR.out]; rfl, hb1⟩
    · have hs := utfIs_size hU
      rw [hU] at HI
      have hW := fun W => wild_walk s W (by omega)
      cases hw : isWild s.data.toList
      · have HR : Hid (r = 0) := Lib.hid (by rw [hr]; simp [hU, hw, h0])
        rw [hw] at hW
        have HW := Lib.hid hW
        clear hr h0 hW hw hU
        go_enter Tryd.func33, Tryd.ntmps33
        go_wp2_with (first | (go_at_call 48; refine HI.out.mono ?_; rintro e w1 ⟨rfl, hb1⟩) | (go_at_call 49; refine (HW.out _).mono ?_; rintro e w2 ⟨rfl, hb2⟩))
        go_ret
        exact ⟨by rw [HR.out]; rfl, hb1.trans (hb2.mono hb1.size)⟩
      · have HR : Hid (r = 120) := Lib.hid (by rw [hr]; simp [hU, hw])
        rw [hw] at hW
        have HW := Lib.hid hW
        clear hr h0 hW hw hU
        go_enter Tryd.func33, Tryd.ntmps33
        go_wp2_with (first | (go_at_call 48; refine HI.out.mono ?_; rintro e w1 ⟨rfl, hb1⟩) | (go_at_call 49; refine (HW.out _).mono ?_; rintro e w2 ⟨rfl, hb2⟩))
        go_ret
        exact ⟨by rw [HR.out]; rfl, hb1.trans (hb2.mono hb1.size)⟩

/-- A cell of the call's own, the library's tables, and what lay below. -/
structure At (w : World) (c : Nat) (v : Value) (W : World) : Prop where
  cell : W.cell? ⟨c, 0, none⟩ = some v
  froz : W.frozen? ⟨c, 0, none⟩ = false
  glob : Glob W
  bel : Below w.heap.size w W

theorem At.heap {w W W' : World} {c : Nat} {v : Value} (h : At w c v W) (hc : W'.heap[c]? = W.heap[c]?) (hb : Below w.heap.size w W') (hG : Glob w) : At w c v W' :=
  ⟨(cell_congr (a := ⟨c, 0, none⟩) hc).trans h.cell, (frozen_congr (a := ⟨c, 0, none⟩) hc).trans h.froz, hG.below' hb, hb⟩
theorem At.lt {w W : World} {c : Nat} {v : Value} (h : At w c v W) : c < W.heap.size := lt_of_cell h.cell
theorem At.drewN {w W : World} {c : Nat} {v : Value} (h : At w c v W) (n : Nat) (hG : Glob w) : At w c v (W.drewN n) := h.heap rfl (h.bel.trans ((below_drewN W n).mono h.bel.size)) hG
theorem At.below {w W W' : World} {c : Nat} {v : Value} (h : At w c v W) (hb : Below W.heap.size W W') (hG : Glob w) : At w c v W' := h.heap (hb.block _ h.lt) (h.bel.trans (hb.mono h.bel.size)) hG
theorem At.alloc {w W : World} {c : Nat} {v : Value} (h : At w c v W) (o : Obj) (hG : Glob w) : At w c v (W.alloc o) := h.below ((Below.refl _ _).alloc (Nat.le_refl _) o) hG
theorem At.setOther {w W : World} {c : Nat} {v : Value} (h : At w c v W) {p : Addr} (hp : p.block ≠ c) (hw : w.heap.size ≤ p.block) (u : Value) (hG : Glob w) : At w c v (W.setCell p u) :=
  h.heap (Below.heap_setCell _ _ _ _ (Ne.symm hp)) (h.bel.setCell hw u) hG
theorem At.put {w W : World} {c : Nat} {v : Value} (h : At w c v W) {k : Nat} {o : Obj} (hk : W.heap[k]? = some o) (ho : o.isCells = false) (hw : w.heap.size ≤ k) (o' : Obj) (hG : Glob w) : At w c v (W.putObj k o') := by
  have hne : c ≠ k := by
    rintro rfl
    have := h.cell
    unfold World.cell? at this
    rw [hk] at this
    cases o <;> simp_all [Obj.isCells]
  exact h.heap (World.putObj_heap_other hne) ((h.bel).grown (grownBy_putObj' W k o') h.bel.size (fun j e => by cases e; exact hw)) hG
theorem At.set {w W : World} {c : Nat} {v : Value} (h : At w c v W) (hw : w.heap.size ≤ c) (u : Value) (hG : Glob w) : At w c u (W.setCell ⟨c, 0, none⟩ u) :=
  ⟨World.cell?_setCell_same' _ _ _ (by rw [h.cell]; rfl), by rw [World.frozen?_setCell]; exact h.froz, hG.below' (h.bel.setCell hw u), h.bel.setCell hw u⟩

set_option maxHeartbeats 1000000 in
set_option maxRecDepth 100000 in
/-- topic.Filter where the text is one: the levels one by one. -/
theorem filter_levels (s : ByteArray) (w : World) (hG : Glob w) (h0 : ¬ s.size = 0) (hU : utfIs s = true) :
    Calls Tryd.prog 37 #[.string s] w (Gives (.int .i64 (if (levs s.data.toList).all levOk then 0 else 121)) w) := by
  have h1 : ¬ s.toList = [] := fun h => h0 (toList_nil.1 h)
  have h2 : s.toList.isEmpty = false := by simpa using h1
  have hs := utfIs_size hU
  have HI : Hid (∀ W, Glob W → Calls Tryd.prog 48 #[.string s] W (Gives (.bool true) W)) := fun W hW => by have := is_walk s W hW; rwa [hU] at this
  clear h0 hU
  obtain ⟨r, hr⟩ : ∃ r : Int, r = (if (levs s.data.toList).all levOk then 0 else 121) := ⟨_, rfl⟩
  rw [← hr]
  have HR := Lib.hid hr; clear hr
  refine (callsIn_wide (n := 3)).1 ?_
  refine callsIn_of_wp_marks Tryd.func37 rfl trivial ?_ rfl
  simp only [Tryd.ntmps37, List.size_toArray, List.length_cons, List.length_nil, Nat.reduceAdd, Nat.reduceSub, Array.replicate_succ, Array.replicate_zero, List.push_toArray, List.append_toArray, List.nil_append, List.cons_append]
  gi_wp2_with (first
    | (refine ⟨trivial, ?_⟩; gi_at_call 48; refine (callsIn_wide.2 (HI.out _ (hG.alloc _))).mono ?_; rintro e w1 ⟨rfl, hb1⟩)
    | (refine ⟨trivial, ?_⟩; gi_at_call 53; refine (callsIn_wide.2 (levels_walk _ _)).mono ?_; rintro e w2 ⟨rfl, rfl⟩))
  have hA : At w w.heap.size (.int .i64 0) w1 := (show At w w.heap.size (.int .i64 0) (w.alloc (.cells #[.int .i64 0] 29)) from
    ⟨by rw [World.cell?_alloc_at _ _ _ _ rfl]; rfl, World.frozen?_alloc_at _ _ _ _ rfl, hG.alloc _, (Below.refl _ _).alloc (Nat.le_refl _) _⟩).below hb1 hG
  have hlt := hA.lt
  have hseq : LevSeq 72 w1.heap.size s.data.toList (w1.alloc (.cells #[.string s] 9)) :=
    levels_seq w1.heap.size s.data.toList _ (by rw [← Lib.size_eq]; omega) (by simp) (by rw [World.cell?_alloc_at _ _ _ _ rfl]; rfl) (World.frozen?_alloc_at _ _ _ _ rfl)
  refine range_levels (gf := 72) (b := w1.heap.size) (ls := s.data.toList) rfl (enters_of Tryd.func72 (by kernel_rfl) rfl) hseq (by simp) rfl
    (fun pre W => pre.all levOk = true ∧ At w w.heap.size (.int .i64 0) W)
    (fun c pre W => c = .ret ∧ pre.all levOk = false ∧ At w w.heap.size (.int .i64 121) W)
    (fun _ _ h => h.2.glob) (fun _ _ n h => ⟨h.1, h.2.drewN n hG⟩) (fun _ _ v h => ⟨h.1, h.2.setOther (by show w1.heap.size ≠ _; omega) (by show _ ≤ w1.heap.size; omega) v hG⟩)
    (fun _ _ k o o' h hk ho hc => ⟨h.1, h.2.put ho hc (by simp at hk; omega) o' hG⟩)
    (fun _ _ _ k o o' h hk ho hc => ⟨h.1, h.2.1, h.2.2.put ho hc (by simp at hk; omega) o' hG⟩)
    (fun _ o h => ⟨h.1, h.2.alloc o hG⟩) ⟨rfl, hA.alloc _ hG⟩
    (fun x => { tmps := #[Value.string s, undef, Value.pointer (some { block := w.heap.size, off := 0 }), .string x.1, .bool x.2, Value.string s,
          Value.bool false, Value.bool false, Value.string s, Value.bool true, Value.bool false, Value.bool false,
          Value.string s, Value.func (Fn.func 72) #[] #[Value.pointer (some { block := w1.heap.size, off := 0 })],
          .string x.1, .bool x.2, undef, undef, undef, undef, undef, undef, undef, undef, undef, undef, undef, undef, undef,
          undef], defers := [] }) ?assign ?body ?done ?stop
  case assign =>
    intro l x W K hK
    gi_wp2
    exact hK
  case body =>
    rintro l pre x W hpx ⟨hp, hAt⟩ hbW
    have hxs := prefix_size hpx
    rw [← Lib.size_eq] at hxs
    have hW := fun W => wild_walk x.1 W (by omega)
    have all_snoc : (pre ++ [x]).all levOk = levOk x := by rw [List.all_append, hp]; simp
    have hc := hAt.cell
    have hf := hAt.froz
    rw [← Lib.toList_data] at hW
    have HS := Lib.hid all_snoc; clear all_snoc hp hpx
    have good : ∀ W', Below W.heap.size W W' → (pre ++ [x]).all levOk = true → KeepsRest W W' ∧ W'.heap[w1.heap.size]? = W.heap[w1.heap.size]? ∧ (pre ++ [x]).all levOk = true ∧ At w w.heap.size (.int .i64 0) W' :=
      fun W' hb ha => ⟨KeepsRest.below hb, hb.block _ hbW, ha, hAt.below hb hG⟩
    have bad : ∀ W', Below W.heap.size W W' → (pre ++ [x]).all levOk = false → KeepsRest W (W'.setCell ⟨w.heap.size, 0, none⟩ (.int .i64 121)) ∧ (Code.ret = Code.ret ∧ (pre ++ [x]).all levOk = false ∧ At w w.heap.size (.int .i64 121) (W'.setCell ⟨w.heap.size, 0, none⟩ (.int .i64 121))) :=
      fun W' hb ha => ⟨(KeepsRest.below hb).trans (KeepsRest.setCell _ _ _), rfl, ha, (hAt.below hb hG).set (Nat.le_refl _) _ hG⟩
    have oldc : ∀ W', Below W.heap.size W W' → W'.cell? ⟨w.heap.size, 0, none⟩ = some (.int .i64 0) ∧ W'.frozen? ⟨w.heap.size, 0, none⟩ = false :=
      fun W' hb => ⟨(hAt.below hb hG).cell, (hAt.below hb hG).froz⟩
    have OLD := Lib.hid oldc; clear oldc
    have GOOD := Lib.hid good; have BAD := Lib.hid bad; clear good bad
    by_cases h43 : x.1.toList = [43]
    · have HT : Hid ((pre ++ [x]).all levOk = true) := Lib.hid (by rw [HS.out]; unfold levOk; rw [← Lib.toList_data, h43]; rfl)
      clear hW
      gi_wp2
      refine ⟨trivial, ?_⟩
      gi_wp2
      exact GOOD.out _ (Below.refl _ _) HT.out
    · by_cases h35 : x.1.toList = [35] ∧ x.2 = true
      · obtain ⟨h35, hx2⟩ := h35
        have HT : Hid ((pre ++ [x]).all levOk = true) := Lib.hid (by rw [HS.out]; unfold levOk; rw [← Lib.toList_data, h35, hx2]; rfl)
        clear hW
        gi_wp2
        refine ⟨trivial, ?_⟩
        gi_wp2
        exact GOOD.out _ (Below.refl _ _) HT.out
      · have hval : levOk x = !isWild x.1.toList := by
          unfold levOk
          rw [← Lib.toList_data]
          by_cases h : x.1.toList = [35]
          · have : x.2 = false := by cases h' : x.2 <;> simp_all
            simp [h, this]
          · simp [h43, h]
        generalize isWild x.1.toList = b at *
        have HW := Lib.hid hW; clear hW
        have HS' : Hid ((pre ++ [x]).all levOk = !b) := Lib.hid (by rw [HS.out, hval])
        clear hval
        have hx3 : ¬ x.1.toList = [35] ∨ (x.1.toList = [35] ∧ x.2 = false) := by
          by_cases h : x.1.toList = [35]
          · exact Or.inr ⟨h, by cases h' : x.2 <;> simp_all⟩
          · exact Or.inl h
        clear h35
        have n43 : (!(x.1.toList == [43])) = true := by simp [h43]
        rcases hx3 with h35 | ⟨h35, hx2⟩
        all_goals
          cases b
          · have HT : Hid ((pre ++ [x]).all levOk = true) := Lib.hid (by rw [HS'.out]; rfl)
            gi_wp2_with (refine ⟨trivial, ?_⟩; gi_at_call 49; refine (CallsIn.inRound l (callsIn_wide.2 (HW.out _))).mono ?_; rintro e w2 ⟨rfl, hb2⟩)
            exact GOOD.out _ hb2 HT.out
          · have HT : Hid ((pre ++ [x]).all levOk = false) := Lib.hid (by rw [HS'.out]; rfl)
            gi_wp2_with (refine ⟨trivial, ?_⟩; gi_at_call 49; refine (CallsIn.inRound l (callsIn_wide.2 (HW.out _))).mono ?_; rintro e w2 ⟨rfl, hb2⟩; obtain ⟨hc2, hf2⟩ := OLD.out _ hb2)
            obtain ⟨q1, _, q2, q3⟩ := BAD.out _ hb2 HT.out
            exact ⟨q1, rfl, q2, q3⟩
  case done =>
    rintro D W ⟨hp, hAt⟩ hD hK
    have hc := hAt.cell
    have hf := hAt.froz
    have hK' := (KeepsRest.setCell W ⟨w.heap.size, 0, none⟩ (.int .i64 0)).2 D _ hK rfl
    have hA2 := (hAt.set (Nat.le_refl _) (.int .i64 0) hG).put hK' rfl (by simp at hD; omega) (.deferred none) hG
    have HF : Hid (r = 0) := Lib.hid (by rw [HR.out, hp]; rfl)
    clear hp hAt
    gi_wp2
    refine ⟨by simp, .inl ⟨_, _, rfl, run_takeDeferred hK', ?_⟩⟩
    have hc3 := hA2.cell
    exact ⟨.int .i64 0, by simp [results, Tryd.results37, go_sem, hc3], by rw [HF.out]; exact ⟨rfl, hA2.bel⟩⟩
  case stop =>
    rintro D c pre W hpre ⟨rfl, hp, hAt⟩ hD hK
    have hc := hAt.cell
    have hA2 := hAt.put hK rfl (by simp at hD; omega) (.deferred none) hG
    have HF : Hid (r = 121) := Lib.hid (by
      have : (levs s.data.toList).all levOk = false := by
        obtain ⟨q, hq⟩ := hpre
        rw [← hq, List.all_append, hp]; rfl
      rw [HR.out, this]; rfl)
    gi_wp2
    refine ⟨by simp, .inl ⟨_, _, rfl, run_takeDeferred hK, ?_⟩⟩
    have hc3 := hA2.cell
    exact ⟨.int .i64 121, by simp [results, Tryd.results37, go_sem, hc3], by rw [HF.out]; exact ⟨rfl, hA2.bel⟩⟩

/-- **topic.Filter.** -/
theorem filter_walk (s : ByteArray) (w : World) (hG : Glob w) :
    Calls Tryd.prog 37 #[.string s] w (Gives (.int .i64 (if filterF s then 0 else 121)) w) := by
  by_cases h0 : s.size = 0
  · have h1 : s.toList = [] := toList_nil.2 h0
    have hf : filterF s = false := by simp [filterF, h0]
    rw [hf]
    clear hf h0
    go_enter Tryd.func37, Tryd.ntmps37
    go_wp2
    exact bodyPost_ret (v := .int .i64 121) (by simp [results, Tryd.results37, go_sem]) rfl ⟨rfl, (Below.refl _ _).alloc (Nat.le_refl _) _⟩
  · cases hU : utfIs s
    · have hf : filterF s = false := by simp [filterF, hU]
      rw [hf]
      have h1 : ¬ s.toList = [] := fun h => h0 (toList_nil.1 h)
      have h2 : s.toList.isEmpty = false := by simpa using h1
      have HI := Lib.hid (is_walk s (w.alloc (.cells #[.int .i64 0] 29)) (hG.alloc _))
      rw [hU] at HI
      clear hf h0 hU
      go_enter Tryd.func37, Tryd.ntmps37
      go_wp2_with (go_at_call 48; refine HI.out.mono ?_; rintro e w1 ⟨rfl, hb1⟩; have hA : At w w.heap.size (.int .i64 0) w1 := (show At w w.heap.size (.int .i64 0) (w.alloc (.cells #[.int .i64 0] 29)) from ⟨by rw [World.cell?_alloc_at _ _ _ _ rfl]; rfl, World.frozen?_alloc_at _ _ _ _ rfl, hG.alloc _, (Below.refl _ _).alloc (Nat.le_refl _) _⟩).below hb1 hG; have hc := hA.cell; have hf := hA.froz)
      have hA2 := hA.set (Nat.le_refl _) (.int .i64 121) hG
      have hc3 := hA2.cell
      exact bodyPost_ret (v := .int .i64 121) (by simp [results, Tryd.results37, go_sem, hc3]) rfl ⟨rfl, hA2.bel⟩
    · have hf : filterF s = (levs s.data.toList).all levOk := by simp [filterF, h0, hU]
      rw [hf]
      exact filter_levels s w hG h0 hU

end Go.Proofs.YtaaaifeommdblaaDoor

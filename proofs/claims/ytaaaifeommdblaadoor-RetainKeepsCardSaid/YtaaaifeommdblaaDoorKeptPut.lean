/- basculeref14: Put, Rows; basculelaw14.few: the walks. -/
import Derived.Test.YtaaaifeommdblaaDoorKeptRef
namespace Go.Proofs.YtaaaifeommdblaaDoor
open Go.RowKit Go.Sort Go.Proofs.YtaaaifeommdblaaDoorW.PrintWords

theorem grown_set (w : World) (c : Nat) (v : Value) : w.grownBy (w.setCell ⟨c, 0, none⟩ v) (some c) where
  os := rfl
  tape := rfl
  output := rfl
  size := by simp [World.setCell]
  block k hk hne := Below.heap_setCell _ _ _ _ (by simpa using hne)

/-- One more thing is appended to a row of the call's own. -/
theorem own_drewN {w : World} {base : Nat} {e : TypeId} {size : Nat} {v : Value} {n : Nat} {xs : List Value} (h : w.ownsRow base e size v n xs) (k : Nat) : (w.drewN k).ownsRow base e size v n xs := owns_below h (below_drewN _ _)

set_option maxHeartbeats 4000000 in
set_option maxRecDepth 100000 in
theorem ref_put (c base : Nat) (L : List MsgR) (x : MsgR) (w : World) (hr : RefAt w c base L) (hcb : c < base) (hbw : base ≤ w.heap.size) (hl : L.length ≤ 65536) :
    Calls Tryd.prog 11 #[.pointer (some ⟨c, 0, none⟩), msgV x] w fun e w' => e = .returned (.tuple #[.bool (putR L x).1.1, .int .i64 (putR L x).1.2]) ∧ RefAt w' c base (putR L x).2 ∧ Turn c c w w' := by
  have hI : (Tryd.prog.info? 33).map (fun i => (i.zero, i.size, i.bytes)) = some (some (.agg #[.string ⟨#[]⟩, .string ⟨#[]⟩, .int .i64 0, .bool false]), 4, 48) := by kernel_rfl
  obtain ⟨i0, hi, hz0, hz1, hz2⟩ := info_parts hI
  clear hI
  obtain ⟨r, hrr⟩ : ∃ r, r = putR L x := ⟨_, rfl⟩
  rw [← hrr]
  unfold putR at hrr
  obtain ⟨t, p, q, kp⟩ := x
  simp only at hrr
  unfold msgV
  simp only
  have hw1 : Below w.heap.size w (w.alloc (.cells #[.string t, .string p, .int .i64 q, .bool kp] 33)) := (Below.refl _ _).alloc (Nat.le_refl _) _
  have HN := Lib.hid (name_ref t)
  have hx1 := hr.below hw1
  have cf : ∀ w2, Below (w.alloc (.cells #[.string t, .string p, .int .i64 q, .bool kp] 33)).heap.size (w.alloc (.cells #[.string t, .string p, .int .i64 q, .bool kp] 33)) w2 →
      w2.cell? ⟨w.heap.size, 0, none⟩ = some (.string t) ∧ w2.cell? ⟨w.heap.size, 1, none⟩ = some (.string p) ∧ w2.cell? ⟨w.heap.size, 2, none⟩ = some (.int .i64 q) ∧ w2.cell? ⟨w.heap.size, 3, none⟩ = some (.bool kp) := fun w2 hb => by
    refine ⟨?_, ?_, ?_, ?_⟩ <;> (rw [(bcell hb).1 _ _ (by simp), World.cell?_alloc_at _ _ _ _ rfl]; rfl)
  have CF := Lib.hid cf; clear cf
  cases hn : nameF t
  · rw [if_pos hn] at hrr
    rw [hn] at HN
    subst hrr
    clear hn
    go_enter Tryd.func11, Tryd.ntmps11
    go_wp2_with (go_at_call 28; refine (HN.out _).mono ?_; rintro e w2 ⟨rfl, hb2⟩)
    go_ret2
    exact ⟨rfl, hx1.below hb2, Turn.below (hw1.trans (hb2.mono hw1.size))⟩
  rw [if_neg (by simp [hn])] at hrr
  rw [hn] at HN
  clear hn
  by_cases hq : q < 0 ∨ 2 < q
  · rw [if_pos hq] at hrr
    subst hrr
    by_cases h0 : q < 0
    · have b0 : decide (q < 0) = true := decide_eq_true h0
      go_enter Tryd.func11, Tryd.ntmps11
      go_wp2_with (go_at_call 28; refine (HN.out _).mono ?_; rintro e w2 ⟨rfl, hb2⟩; obtain ⟨d0, d1, d2, d3⟩ := CF.out _ hb2)
      go_ret2
      exact ⟨rfl, hx1.below hb2, Turn.below (hw1.trans (hb2.mono hw1.size))⟩
    · have b0 : decide (q < 0) = false := decide_eq_false h0
      have b2 : decide (2 < q) = true := decide_eq_true (by omega)
      go_enter Tryd.func11, Tryd.ntmps11
      go_wp2_with (go_at_call 28; refine (HN.out _).mono ?_; rintro e w2 ⟨rfl, hb2⟩; obtain ⟨d0, d1, d2, d3⟩ := CF.out _ hb2)
      go_ret2
      exact ⟨rfl, hx1.below hb2, Turn.below (hw1.trans (hb2.mono hw1.size))⟩
  rw [if_neg hq] at hrr
  have b0 : decide (q < 0) = false := decide_eq_false (by omega)
  have b2 : decide (2 < q) = false := decide_eq_false (by omega)
  clear hq
  cases kp
  · rw [if_pos rfl] at hrr
    subst hrr
    go_enter Tryd.func11, Tryd.ntmps11
    go_wp2_with (go_at_call 28; refine (HN.out _).mono ?_; rintro e w2 ⟨rfl, hb2⟩; obtain ⟨d0, d1, d2, d3⟩ := CF.out _ hb2)
    go_ret2
    exact ⟨rfl, hx1.below hb2, Turn.below (hw1.trans (hb2.mono hw1.size))⟩
  rw [if_neg (by decide)] at hrr
  obtain ⟨dn, hdn⟩ : ∃ dn, dn = decide (p.size = 0) := ⟨_, rfl⟩
  have P3 : (p.toList == []) = dn := by
    rw [hdn, Bool.eq_iff_iff, beq_iff_eq, decide_eq_true_eq]; exact toList_nil_iff
  have P2 : p.toList.isEmpty = dn := by rw [← P3]; cases p.toList <;> rfl
  have P1 : decide (p.toList = []) = dn := by rw [← P3]; cases p.toList <;> rfl
  obtain ⟨x, hx⟩ : ∃ x : MsgR, x = ⟨t, p, q, true⟩ := ⟨_, rfl⟩
  have hins : r = ((true, 0), if (L.foldl (insStep x) ([], dn)).2 = true then (L.foldl (insStep x) ([], dn)).1 else (L.foldl (insStep x) ([], dn)).1 ++ [x]) := by
    rw [hrr]; unfold insR; rw [← hx]
    have : dn = decide (x.load.size = 0) := by rw [hx]; exact hdn
    rw [this]
  have HR := Lib.hid hins
  have HX := Lib.hid hx
  clear hrr hins hx hdn
  go_enter Tryd.func11, Tryd.ntmps11
  go_wp2_with (go_at_call 28; refine (HN.out _).mono ?_; rintro e w2 ⟨rfl, hb2⟩; obtain ⟨d0, d1, d2, d3⟩ := CF.out _ hb2)
  have hx2 := hx1.below hb2
  have hsb := lt_of_cell d0
  have hbw2 : w.heap.size < w2.heap.size := hsb
  have hcl := hx2.lt
  have HX2 := Lib.hid hx2
  obtain ⟨v, c0, fz, hown⟩ := hx2
  obtain ⟨ad, cap, rfl, had⟩ := RowRd.of_own hown (by rw [flat_len (enc := msgE) (k := 4) (fun _ => rfl)]) (by decide)
  have HAD := Lib.hid had; clear had hown
  have hfac : ∀ wx, Below w2.heap.size w2 wx → ∀ n, (wx.drewN n).cell? ⟨c, 0, none⟩ = some (.slice ad L.length cap) ∧ (wx.drewN n).cell? ⟨w.heap.size, 0, none⟩ = some (.string t) ∧ (wx.drewN n).cell? ⟨w.heap.size, 1, none⟩ = some (.string p) ∧ (wx.drewN n).cell? ⟨w.heap.size, 2, none⟩ = some (.int .i64 q) ∧ (wx.drewN n).cell? ⟨w.heap.size, 3, none⟩ = some (.bool true) ∧ (wx.drewN n).frozen? ⟨c, 0, none⟩ = false := fun wx hb n =>
    ⟨((bcell hb).1 c 0 hcl).trans c0, ((bcell hb).1 _ 0 hbw2).trans d0, ((bcell hb).1 _ 1 hbw2).trans d1, ((bcell hb).1 _ 2 hbw2).trans d2, ((bcell hb).1 _ 3 hbw2).trans d3, ((bcell hb).2 c 0 hcl).trans fz⟩
  have FAC := Lib.hid hfac; clear hfac fz
  go_loopg [6, 7, 8] L.length (fun gk out dv i wx => ∃ (k : Nat) (s : List MsgR × Bool), k + gk = L.length ∧ i = .int .i64 k ∧ s = (L.take k).foldl (insStep x) ([], dn) ∧ dv = .bool s.2 ∧ wx.ownsRow w2.heap.size 33 4 out s.1.length (s.1.flatMap msgE) ∧ s.1.length ≤ 2 * k ∧ Below w2.heap.size w2 wx)
  case atStart => exact ⟨0, ([], dn), by omega, rfl, rfl, rfl, World.ownsRow_nil _ _ _ _, by simp, Below.refl _ _⟩
  case round =>
    obtain ⟨k, ⟨l, sd⟩, hkg, rfl, hs, rfl, hown, hsl, hnx⟩ := hrel
    simp only at hown hsl
    have HS := Lib.hid hs; clear hs c0 d0 d1 d2 d3
    have hbs := hnx.size
    by_cases hk : k < L.length
    · have hk' : decide (k < L.length) = true := decide_eq_true hk
      obtain ⟨g1, o1, rfl, hg1, hc1⟩ := HAD.out (by omega)
      obtain ⟨y, hy⟩ : ∃ y, L[k] = y := ⟨_, rfl⟩
      have hrow : ∀ wx, Below w2.heap.size w2 wx → ∀ n, (wx.drewN n).cell? ⟨g1, o1 + k * 4, none⟩ = some (.string y.topic) ∧ (wx.drewN n).cell? ⟨g1, o1 + k * 4 + 1, none⟩ = some (.string y.load) ∧ (wx.drewN n).cell? ⟨g1, o1 + k * 4 + 2, none⟩ = some (.int .i64 y.qos) ∧ (wx.drewN n).cell? ⟨g1, o1 + k * 4 + 3, none⟩ = some (.bool y.keep) := fun wx hb n =>
        rowM L (wx.drewN n) (fun j u hj => ((bcell hb).1 g1 _ hg1).trans (hc1 j u hj)) k hk hy
      have hstep : (L.take (k + 1)).foldl (insStep x) ([], dn) = insStep x (l, sd) y := by
        rw [List.take_succ_eq_append_getElem hk, List.foldl_append, ← HS.out, hy]; rfl
      have ROW := Lib.hid hrow; clear hrow hc1 hy
      obtain ⟨nx, hnxt⟩ : ∃ nx, nx = insStep x (l, sd) y := ⟨_, rfl⟩
      rw [← hnxt] at hstep
      have HST := Lib.hid hstep; clear hstep
      obtain ⟨y0, y1, y2, y3⟩ := y
      simp only at ROW
      unfold insStep at hnxt
      rw [show x.topic = t by rw [HX.out]] at hnxt
      simp only at hnxt
      obtain ⟨lt, T1⟩ : ∃ lt, Op.bytesLess t.toList y0.toList = lt := ⟨_, rfl⟩
      rw [show blt t y0 = lt from T1] at hnxt
      obtain ⟨eq, T2⟩ : ∃ eq, (y0.toList == t.toList) = eq := ⟨_, rfl⟩
      have hq : (y0 = t) ↔ eq = true := by rw [← T2, str_eq_iff]; simp
      have T3 : (y0.toList != t.toList) = !eq := by unfold bne; rw [T2]
      simp only [hq] at hnxt
      have T4 : Op.bytesLess y0.toList t.toList = (!lt && !eq) := by
        show blt y0 t = _
        have h1 : blt t y0 = lt := T1
        cases hl : lt
        · cases he : eq
          · rw [hl] at h1
            cases h3 : blt y0 t
            · have := blt_total h3 h1
              rw [this, str_eq_iff, decide_eq_true rfl, he] at T2
              cases T2
            · rfl
          · have := hq.2 he
            rw [this]; exact blt_irrefl t
        · rw [hl] at h1
          exact blt_asymm h1
      have hlteq : lt = true → eq = true → False := fun h1 h2 => by
        have : y0 = t := hq.2 h2
        subst this
        rw [← T1] at h1
        have := blt_irrefl y0
        unfold blt at this
        rw [h1] at this; cases this
      clear hq
      have fc := fun n => (FAC.out wr hnx n).1
      have f0 := fun n => (FAC.out wr hnx n).2.1
      have f1 := fun n => (FAC.out wr hnx n).2.2.1
      have f2 := fun n => (FAC.out wr hnx n).2.2.2.1
      have f3 := fun n => (FAC.out wr hnx n).2.2.2.2.1
      have r0 := fun n => (ROW.out wr hnx n).1
      have r1 := fun n => (ROW.out wr hnx n).2.1
      have r2 := fun n => (ROW.out wr hnx n).2.2.1
      have r3 := fun n => (ROW.out wr hnx n).2.2.2
      have hkI : (k : Int) < (L.length : Int) := by omega
      have fcp : wr.cell? ⟨c, 0, none⟩ = some (.slice (some ⟨g1, o1, none⟩) L.length cap) := fc 0
      cases sd
      · cases lt
        · cases eq
          · simp at hnxt; subst hnxt
            clear hlteq
            go_wp2
            go_quiet (fail)
            go_wp2
            go_quiet (fail)
            go_wp2_with (at_builtin; refine wpList_append_own _ rfl _ _ 22 rfl w2.heap.size 33 i0 (.agg #[.string ⟨#[]⟩, .string ⟨#[]⟩, .int .i64 0, .bool false]) 4 48 Tryd.underlying22 hi hz0 hz1 hz2 rfl (by decide) _ _ _ rfl ((own_drewN hown _).alloc _) ⟨wr.heap.size, 0, none⟩ 1 1 [.string y0, .string y1, .int .i64 y2, .bool y3] rfl rfl (cells_new _ _ _) ?c2 ?c3 ?c4 ?c5 ?_)
            case c2 => first | exact ⟨rfl, rfl, rfl, rfl⟩ | (intro u hu; simp at hu; rcases hu with rfl | rfl | rfl | rfl <;> rfl)
            case c3 => unfold maxLen; omega
            case c4 => omega
            case c5 => first | omega | (simp; omega)
            intro v' w8 hown8 hgrow8 _
            have hB8 := below_own ((Go.below_drewN hnx _).alloc (by simp; omega) (.cells #[.string y0, .string y1, .int .i64 y2, .bool y3] 33)) (by simp; omega) ((own_drewN hown _).alloc _) hgrow8 (Nat.le_refl _)
            go_wp2
            go_roundg (gk - 1)
            case measure => omega
            case rel => exact ⟨k + 1, (l ++ [⟨y0, y1, y2, y3⟩], false), by omega, by simp, by rw [HST.out], rfl, by simp only [List.length_append, List.flatMap_append]; exact hown8, by simp; omega, hB8⟩
          · simp at hnxt; subst hnxt
            clear hlteq
            go_wp2
            go_quiet (fail)
            go_wp2
            go_quiet (fail)
            go_wp2
            go_roundg (gk - 1)
            case measure => omega
            case rel => exact ⟨k + 1, (l, false), by omega, by simp, by rw [HST.out], rfl, own_drewN hown _, by simp; omega, Go.below_drewN hnx _⟩
        · cases eq
          · simp at hnxt; subst hnxt
            clear hlteq
            go_wp2
            go_quiet (fail)
            go_wp2_with (at_builtin; refine wpList_append_own _ rfl _ _ 22 rfl w2.heap.size 33 i0 (.agg #[.string ⟨#[]⟩, .string ⟨#[]⟩, .int .i64 0, .bool false]) 4 48 Tryd.underlying22 hi hz0 hz1 hz2 rfl (by decide) _ _ _ rfl ((own_drewN hown _).alloc _) ⟨wr.heap.size, 0, none⟩ 1 1 [.string t, .string p, .int .i64 q, .bool true] rfl rfl (cells_new _ _ _) ?c2 ?c3 ?c4 ?c5 ?_)
            case c2 => first | exact ⟨rfl, rfl, rfl, rfl⟩ | (intro u hu; simp at hu; rcases hu with rfl | rfl | rfl | rfl <;> rfl)
            case c3 => unfold maxLen; omega
            case c4 => omega
            case c5 => first | omega | (simp; omega)
            intro v' w5 hown5 hgrow5 _
            have hB5 := below_own ((Go.below_drewN hnx _).alloc (by simp; omega) (.cells #[.string t, .string p, .int .i64 q, .bool true] 33)) (by simp; omega) ((own_drewN hown _).alloc _) hgrow5 (Nat.le_refl _)
            have hxe : [x].flatMap msgE = [.string t, .string p, .int .i64 q, .bool true] := by rw [HX.out]; rfl
            obtain ⟨l5, hl5⟩ : ∃ l5, l5 = l ++ [x] := ⟨_, rfl⟩
            have ho5 : w5.ownsRow w2.heap.size 33 4 v' l5.length (l5.flatMap msgE) := by
              rw [hl5, List.length_append, List.flatMap_append, hxe]; exact hown5
            have hl5n : l5.length ≤ 2 * k + 1 := by rw [hl5]; simp; omega
            have HL5 := Lib.hid hl5
            have hs5 := hB5.size
            clear hown5 hgrow5 hxe hl5 fc f0 f1 f2 f3 r0 r1 r2 r3 fcp
            have fc := fun n => (FAC.out w5 hB5 n).1
            have f0 := fun n => (FAC.out w5 hB5 n).2.1
            have r0 := fun n => (ROW.out w5 hB5 n).1
            have r1 := fun n => (ROW.out w5 hB5 n).2.1
            have r2 := fun n => (ROW.out w5 hB5 n).2.2.1
            have r3 := fun n => (ROW.out w5 hB5 n).2.2.2
            go_wp2
            go_quiet (fail)
            go_wp2_with (at_builtin; refine wpList_append_own _ rfl _ _ 22 rfl w2.heap.size 33 i0 (.agg #[.string ⟨#[]⟩, .string ⟨#[]⟩, .int .i64 0, .bool false]) 4 48 Tryd.underlying22 hi hz0 hz1 hz2 rfl (by decide) _ _ _ rfl ((own_drewN ho5 _).alloc _) ⟨w5.heap.size, 0, none⟩ 1 1 [.string y0, .string y1, .int .i64 y2, .bool y3] rfl rfl (cells_new _ _ _) ?c2 ?c3 ?c4 ?c5 ?_)
            case c2 => first | exact ⟨rfl, rfl, rfl, rfl⟩ | (intro u hu; simp at hu; rcases hu with rfl | rfl | rfl | rfl <;> rfl)
            case c3 => unfold maxLen; omega
            case c4 => omega
            case c5 => first | omega | (simp; omega)
            intro v' w8 hown8 hgrow8 _
            have hB8 := below_own ((Go.below_drewN hB5 _).alloc (by simp; omega) (.cells #[.string y0, .string y1, .int .i64 y2, .bool y3] 33)) (by simp; omega) ((own_drewN ho5 _).alloc _) hgrow8 (Nat.le_refl _)
            go_wp2
            go_roundg (gk - 1)
            case measure => omega
            case rel => exact ⟨k + 1, (l5 ++ [⟨y0, y1, y2, y3⟩], true), by omega, by simp, by rw [HST.out, HL5.out]; simp, rfl, by simp only [List.length_append, List.flatMap_append]; exact hown8, by simp; omega, hB8⟩
          · exact (hlteq rfl rfl).elim
      · cases eq
        · simp at hnxt; subst hnxt
          clear hlteq
          go_wp2
          go_quiet (fail)
          go_wp2
          go_quiet (fail)
          go_wp2_with (at_builtin; refine wpList_append_own _ rfl _ _ 22 rfl w2.heap.size 33 i0 (.agg #[.string ⟨#[]⟩, .string ⟨#[]⟩, .int .i64 0, .bool false]) 4 48 Tryd.underlying22 hi hz0 hz1 hz2 rfl (by decide) _ _ _ rfl ((own_drewN hown _).alloc _) ⟨wr.heap.size, 0, none⟩ 1 1 [.string y0, .string y1, .int .i64 y2, .bool y3] rfl rfl (cells_new _ _ _) ?c2 ?c3 ?c4 ?c5 ?_)
          case c2 => first | exact ⟨rfl, rfl, rfl, rfl⟩ | (intro u hu; simp at hu; rcases hu with rfl | rfl | rfl | rfl <;> rfl)
          case c3 => unfold maxLen; omega
          case c4 => omega
          case c5 => first | omega | (simp; omega)
          intro v' w8 hown8 hgrow8 _
          have hB8 := below_own ((Go.below_drewN hnx _).alloc (by simp; omega) (.cells #[.string y0, .string y1, .int .i64 y2, .bool y3] 33)) (by simp; omega) ((own_drewN hown _).alloc _) hgrow8 (Nat.le_refl _)
          go_wp2
          go_roundg (gk - 1)
          case measure => omega
          case rel => exact ⟨k + 1, (l ++ [⟨y0, y1, y2, y3⟩], true), by omega, by simp, by rw [HST.out], rfl, by simp only [List.length_append, List.flatMap_append]; exact hown8, by simp; omega, hB8⟩
        · simp at hnxt; subst hnxt
          clear hlteq
          go_wp2
          go_quiet (fail)
          go_wp2
          go_quiet (fail)
          go_wp2
          go_roundg (gk - 1)
          case measure => omega
          case rel => exact ⟨k + 1, (l, true), by omega, by simp, by rw [HST.out], rfl, own_drewN hown _, by simp; omega, Go.below_drewN hnx _⟩
    · have hk' : decide (k < L.length) = false := decide_eq_false hk
      have htl : L.take k = L := List.take_of_length_le (by omega)
      have hs := HS.out
      rw [htl] at hs
      have hrv := HR.out
      rw [← hs] at hrv
      simp only at hrv
      clear hs htl hk HS
      obtain ⟨fc, f0, f1, f2, f3, fz⟩ := FAC.out wr hnx 0
      have fc' : wr.cell? ⟨c, 0, none⟩ = some (.slice ad L.length cap) := fc
      have fz' : wr.frozen? ⟨c, 0, none⟩ = false := fz
      have f0' : wr.cell? ⟨w.heap.size, 0, none⟩ = some (.string t) := f0
      have f1' : wr.cell? ⟨w.heap.size, 1, none⟩ = some (.string p) := f1
      have f2' : wr.cell? ⟨w.heap.size, 2, none⟩ = some (.int .i64 q) := f2
      have f3' : wr.cell? ⟨w.heap.size, 3, none⟩ = some (.bool true) := f3
      clear fc f0 f1 f2 f3 fz
      have hTw : Below w.heap.size w w2 := hw1.trans (hb2.mono hw1.size)
      cases sd
      · simp at hrv
        obtain ⟨l5, hl5⟩ : ∃ l5, l5 = l ++ [x] := ⟨_, rfl⟩
        rw [← hl5] at hrv
        have HL5 := Lib.hid hl5
        subst hrv
        clear hl5
        go_wp2_with (at_builtin; refine wpList_append_own _ rfl _ _ 22 rfl w2.heap.size 33 i0 (.agg #[.string ⟨#[]⟩, .string ⟨#[]⟩, .int .i64 0, .bool false]) 4 48 Tryd.underlying22 hi hz0 hz1 hz2 rfl (by decide) _ _ _ rfl (hown.alloc _) ⟨wr.heap.size, 0, none⟩ 1 1 [.string t, .string p, .int .i64 q, .bool true] rfl rfl (cells_new _ _ _) ?c2 ?c3 ?c4 ?c5 ?_)
        case c2 => first | exact ⟨rfl, rfl, rfl, rfl⟩ | (intro u hu; simp at hu; rcases hu with rfl | rfl | rfl | rfl <;> rfl)
        case c3 => unfold maxLen; omega
        case c4 => omega
        case c5 => first | omega | (simp; omega)
        intro v' w5 hown5 hgrow5 _
        have hB5 := below_own (hnx.alloc hnx.size (.cells #[.string t, .string p, .int .i64 q, .bool true] 33)) (by simp; omega) (hown.alloc _) hgrow5 (Nat.le_refl _)
        have hxe : [x].flatMap msgE = [.string t, .string p, .int .i64 q, .bool true] := by rw [HX.out]; rfl
        have ho5 : w5.ownsRow w2.heap.size 33 4 v' l5.length (l5.flatMap msgE) := by
          rw [HL5.out, List.length_append, List.flatMap_append, hxe]; exact hown5
        obtain ⟨fc, _, _, _, _, fz⟩ := FAC.out w5 hB5 0
        have fc5 : w5.cell? ⟨c, 0, none⟩ = some (.slice ad L.length cap) := fc
        have fz5 : w5.frozen? ⟨c, 0, none⟩ = false := fz
        have hge := ho5.lt
        clear fc fz hown5 hgrow5
        obtain ⟨ad5, cap5, rfl, _⟩ := owns_form ho5
        go_wp2
        go_ret2
        refine ⟨rfl, ⟨_, World.cell?_setCell_same' _ _ _ (by rw [fc5]; rfl), by rw [World.frozen?_setCell]; exact fz5, (ho5.kept (grown_set _ c _) (.inr (fun e => by have := hge _ e; omega))).mono (Nat.le_trans hbw hTw.size)⟩, (Turn.below (hTw.trans (hB5.mono hTw.size))).trans (Turn.set _ _ _ (.inl rfl))⟩
      · simp at hrv
        subst hrv
        have hge := hown.lt
        obtain ⟨ad5, cap5, rfl, _⟩ := owns_form hown
        go_wp2
        go_ret2
        refine ⟨rfl, ⟨_, World.cell?_setCell_same' _ _ _ (by rw [fc']; rfl), by rw [World.frozen?_setCell]; exact fz', (hown.kept (grown_set _ c _) (.inr (fun e => by have := hge _ e; omega))).mono (Nat.le_trans hbw hTw.size)⟩, (Turn.below (hTw.trans (hnx.mono hTw.size))).trans (Turn.set _ _ _ (.inl rfl))⟩

end Go.Proofs.YtaaaifeommdblaaDoor

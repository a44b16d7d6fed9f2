/- utf.point, utf.Points, utf.Is: what they compute, and the walks. -/
import Derived.Test.YtaaaifeommdblaaDoorGlob
import Derived.Deep.LoopGhost
import Derived.OwnWalk
import Derived.Laws.OwnMore
namespace Go.Proofs.YtaaaifeommdblaaDoor
open Go.RowKit

/-- The first point of a text and its width; 0: there is none. -/
def pointF (s : ByteArray) : Nat × Nat :=
  if (Lib.decodeGo s).1 = 0 ∨ ((Lib.decodeGo s).1 = 65533 ∧ (Lib.decodeGo s).2 < 2) then (0, 0) else Lib.decodeGo s

theorem decode_width (s : ByteArray) : 1 ≤ (Utf8.decode s 0).2 ∧ (Utf8.decode s 0).2 ≤ 4 := by
  unfold Utf8.decode
  simp only
  repeat' split
  all_goals simp

theorem decodeGo_le (s : ByteArray) : (Lib.decodeGo s).2 ≤ 4 := by
  unfold Lib.decodeGo; split
  · simp
  · exact (decode_width s).2

theorem decodeGo_rune (s : ByteArray) : (Lib.decodeGo s).1 ≤ 1114111 := by
  unfold Lib.decodeGo
  split
  · simp
  · unfold Utf8.decode
    simp only
    have h := (s.get! 0).toNat_lt
    repeat' split
    all_goals first | (simp [Utf8.runeError]; done) | skip
    · simp; omega
    · rename_i h1 _ h2; simp at h2 ⊢; omega
    · rename_i h1 _ h2; simp [Utf8.valid] at h2 ⊢; omega
    · rename_i h1 _ h2; simp [Utf8.valid] at h2 ⊢; omega

set_option maxHeartbeats 400000 in
theorem point_walk (s : ByteArray) (w : World) (hG : Glob w) :
    Calls Tryd.prog 93 #[.string s] w (Gives (.tuple #[.int .i64 (pointF s).1, .int .i64 (pointF s).2]) w) := by
  have hc := Tryd.utf8_DecodeRuneInString s w hG.tabs
  have h1 := decodeGo_rune s
  have h2 := decodeGo_le s
  obtain ⟨v, hv⟩ : ∃ v, v = pointF s := ⟨_, rfl⟩
  rw [← hv]
  unfold pointF at hv
  generalize Lib.decodeGo s = d at *
  obtain ⟨c, z⟩ := d
  simp only at *
  have HC := Lib.hid hc; clear hc
  have HV := Lib.hid hv; clear hv
  by_cases h0 : c = 0
  · subst h0
    go_enter Tryd.func93, Tryd.ntmps93
    go_wp2_with (go_at_call 111; refine HC.out.mono ?_; rintro e w1 ⟨rfl, hb1⟩)
    go_ret2
    exact ⟨by rw [HV.out]; simp, hb1⟩
  · have b0 : ((c : Int) == 0) = false := beq_eq_false_iff_ne.2 (by omega)
    by_cases hf : c = 65533
    · subst hf
      by_cases hz : z < 2
      · have bz : decide ((z : Int) < 2) = true := decide_eq_true (by omega)
        go_enter Tryd.func93, Tryd.ntmps93
        go_wp2_with (go_at_call 111; refine HC.out.mono ?_; rintro e w1 ⟨rfl, hb1⟩)
        go_ret2
        exact ⟨by rw [HV.out]; simp [hz], hb1⟩
      · have bz : decide ((z : Int) < 2) = false := decide_eq_false (by omega)
        go_enter Tryd.func93, Tryd.ntmps93
        go_wp2_with (go_at_call 111; refine HC.out.mono ?_; rintro e w1 ⟨rfl, hb1⟩)
        go_ret2
        exact ⟨by rw [HV.out]; simp [hz], hb1⟩
    · have bf : ((c : Int) == 65533) = false := beq_eq_false_iff_ne.2 (by omega)
      go_enter Tryd.func93, Tryd.ntmps93
      go_wp2_with (go_at_call 111; refine HC.out.mono ?_; rintro e w1 ⟨rfl, hb1⟩)
      go_ret2
      exact ⟨by rw [HV.out]; simp [h0, hf], hb1⟩

/-- Do points follow one another to the end? -/
def isU : Nat → ByteArray → Bool
  | 0, s => decide (s.size = 0)
  | k + 1, s => if s.size = 0 then true else if (pointF s).2 > 0 then isU k (s.extract (pointF s).2 s.size) else false

/-- utf.Is. -/
def utfIs (s : ByteArray) : Bool := decide (s.size ≤ 65535) && isU s.size s

theorem pointF_le (s : ByteArray) : (pointF s).2 ≤ s.size ∧ (pointF s).2 ≤ 4 ∧ (pointF s).1 ≤ 1114111 := by
  have h1 := decodeGo_le s
  have h2 := decodeGo_rune s
  unfold pointF
  split
  · simp
  · refine ⟨?_, h1, h2⟩
    unfold Lib.decodeGo
    by_cases h0 : s.size = 0
    · rw [if_pos h0]; simp
    · rw [if_neg h0]
      have hp : 1 ≤ s.size := by omega
      clear h0
      unfold Utf8.decode
      simp only
      repeat' split
      all_goals first | exact hp | (simp at *; omega)

theorem isU_zero {g : Nat} {s : ByteArray} (h : s.size = 0) : isU g s = true := by
  cases g <;> simp [isU, h]

set_option maxHeartbeats 1000000 in
set_option maxRecDepth 100000 in
theorem points_loop (s : ByteArray) (w : World) (hG : Glob w) (hs : s.size ≤ 65535) :
    Calls Tryd.prog 60 #[.string s] w fun e w' => (∃ v, e = .returned (.tuple #[v, .int .i64 (if isU s.size s then 0 else 90)])) ∧ Below w.heap.size w w' := by
  have hI : (Tryd.prog.info? 3).map (fun i => (i.zero, i.size, i.bytes)) = some (some (.int .i64 0), 1, 8) := by kernel_rfl
  obtain ⟨i0, hi, hz0, hz1, hz2⟩ := info_parts hI
  clear hI
  obtain ⟨r, hr⟩ : ∃ r, r = isU s.size s := ⟨_, rfl⟩
  rw [← hr]
  obtain ⟨R, hR⟩ : ∃ R : Ending → Prop, R = fun e => (∃ v, e = .returned (.tuple #[v, .int .i64 (if r then 0 else 90)])) := ⟨_, rfl⟩
  have RT : r = true → ∀ v, R (.returned (.tuple #[v, .int .i64 0])) := fun h v => by rw [hR]; exact ⟨v, by rw [h]; rfl⟩
  have RF : r = false → ∀ v, R (.returned (.tuple #[v, .int .i64 90])) := fun h v => by rw [hR]; exact ⟨v, by rw [h]; rfl⟩
  suffices h : Calls Tryd.prog 60 #[.string s] w fun e w' => R e ∧ Below w.heap.size w w' from h.mono fun e w' ⟨h1, h2⟩ => ⟨by rw [hR] at h1; exact h1, h2⟩
  clear hR
  have RT := Lib.hid RT; have RF := Lib.hid RF; have HR := Lib.hid hr; clear hr
  have b0 : decide ((65535 : Int) < (s.size : Int)) = false := decide_eq_false (by omega)
  go_enter Tryd.func60, Tryd.ntmps60
  go_wp2
  go_step3
  go_wp2
  go_step3
  go_wp2
  go_loopg [0, 4] s.size (fun g x v wx => ∃ (t : ByteArray) (n : Nat) (xs : List Value), x = .string t ∧ t.size ≤ g ∧ n + g = s.size ∧ isU g t = r ∧ wx.ownsRow w.heap.size 3 1 v n xs ∧ Below w.heap.size w wx)
  case atStart => exact ⟨s, 0, [], rfl, Nat.le_refl _, by omega, HR.out.symm, World.ownsRow_nil _ _ _ _, Below.refl _ _⟩
  case round =>
    obtain ⟨t, n, xs, rfl, htg, hng, hit, hown, hnx⟩ := hrel
    by_cases hz : t.size = 0
    · have hrt : r = true := by rw [← hit]; exact isU_zero hz
      have fin := RT.out hrt
      have FIN := Lib.hid fin; clear fin
      have bz : decide (0 < t.size) = false := decide_eq_false (by omega)
      clear hit hrt hz hng htg
      go_wp2
      rw [Exit.noGoto_ret]
      go_ret2
      exact ⟨FIN.out _, hnx⟩
    · have bz : decide (0 < t.size) = true := decide_eq_true (by omega)
      obtain ⟨g, rfl⟩ : ∃ g, gk = g + 1 := ⟨gk - 1, by omega⟩
      have hp := point_walk t wr (hG.below hnx (Nat.le_refl _))
      have hpl := pointF_le t
      have hext : (t.extract (pointF t).2 t.size).size = t.size - (pointF t).2 := by simp
      simp only [isU, if_neg hz] at hit
      generalize pointF t = d at *
      obtain ⟨c, z⟩ := d
      simp only at *
      have HP := Lib.hid hp; clear hp
      obtain ⟨x, hx⟩ : ∃ x, x = t.extract z t.size := ⟨_, rfl⟩
      rw [← hx] at hit hext
      have HI := Lib.hid hit; have HX := Lib.hid hx; have HE := Lib.hid hext; clear hit hx hext
      by_cases hpos : 0 < z
      · have bp : decide (0 < z) = true := decide_eq_true hpos
        have hzt : decide ((z : Int) ≤ (t.size : Int)) = true := decide_eq_true (by omega)
        clear hz
        go_wp2_with (first
          | (go_at_call 93; refine HP.out.mono ?_; rintro e w1 ⟨rfl, hb1⟩; have hown1 := owns_below hown hb1)
          | (at_builtin; refine wpList_append_own _ rfl _ _ 104 rfl w.heap.size 3 i0 (.int .i64 0) 1 8 Tryd.underlying104 hi hz0 hz1 hz2 rfl (by decide) _ _ _ rfl (hown1.alloc _) ⟨w1.heap.size, 0, none⟩ 1 1 [.int .i64 c] rfl rfl (cell_one _ _ _) (one_cell rfl) ?c3 ?c4 ?c5 ?_))
        case c3 => unfold maxLen; omega
        case c4 => omega
        case c5 => have := hnx.size; have := hb1.size; simp; omega
        intro v' w2 hown2 hgrow2 _
        have hB1 : Below w.heap.size w w1 := hnx.trans (hb1.mono hnx.size)
        have hB2 : Below w.heap.size w w2 := below_own (hB1.alloc hB1.size _) (by have := hB1.size; simp; omega) (hown1.alloc _) hgrow2 (Nat.le_refl _)
        clear hgrow2 hown1 hown
        go_wp2
        go_roundg g
        case measure => omega
        case rel => exact ⟨x, n + 1, _, by rw [HX.out], by have := HE.out; omega, by omega, by have := HI.out; rwa [if_pos hpos] at this, hown2, hB2⟩
      · have bp : decide (0 < z) = false := decide_eq_false hpos
        have hrt : r = false := by have := HI.out; rw [if_neg hpos] at this; exact this.symm
        have FIN := Lib.hid (RF.out hrt); clear hrt
        go_wp2_with (go_at_call 93; refine HP.out.mono ?_; rintro e w1 ⟨rfl, hb1⟩)
        rw [Exit.noGoto_ret]
        go_ret2
        exact ⟨FIN.out _, hnx.trans (hb1.mono hnx.size)⟩

theorem points_long (s : ByteArray) (w : World) (hs : 65535 < s.size) :
    Calls Tryd.prog 60 #[.string s] w fun e w' => e = .returned (.tuple #[.slice none 0 0, .int .i64 90]) ∧ Below w.heap.size w w' := by
  have b0 : decide ((65535 : Int) < (s.size : Int)) = true := decide_eq_true (by omega)
  go_enter Tryd.func60, Tryd.ntmps60
  go_wp2
  go_step3
  go_wp2
  rw [Exit.noGoto_ret]
  go_ret2
  exact ⟨rfl, Below.refl _ _⟩

theorem points_any (s : ByteArray) (w : World) (hG : Glob w) :
    Calls Tryd.prog 60 #[.string s] w fun e w' => (∃ v, e = .returned (.tuple #[v, .int .i64 (if utfIs s then 0 else 90)])) ∧ Below w.heap.size w w' := by
  by_cases hs : s.size ≤ 65535
  · have h : utfIs s = isU s.size s := by simp [utfIs, hs]
    rw [h]; exact points_loop s w hG hs
  · have h : utfIs s = false := by simp [utfIs, hs]
    rw [h]
    exact (points_long s w (by omega)).mono fun e w' ⟨h1, h2⟩ => ⟨⟨_, h1⟩, h2⟩

/-- **utf.Is.** -/
theorem is_walk (s : ByteArray) (w : World) (hG : Glob w) : Calls Tryd.prog 48 #[.string s] w (Gives (.bool (utfIs s)) w) := by
  have hp := points_any s w hG
  generalize utfIs s = r at *
  have HP := Lib.hid hp; clear hp
  cases r
  all_goals
    go_enter Tryd.func48, Tryd.ntmps48
    go_wp2_with (go_at_call 60; refine HP.out.mono ?_; rintro e w1 ⟨⟨v, rfl⟩, hb1⟩)
    go_ret
    exact ⟨rfl, hb1⟩
end Go.Proofs.YtaaaifeommdblaaDoor

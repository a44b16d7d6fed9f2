/- subs.Index.Drop: the walk. subs.Index.Gone: the walk. -/
import Derived.Test.YtaaaifeommdblaaDoorSubsAdd
import Derived.Test.YtaaaifeommdblaaDoorSubsOf
import Derived.StillTailTactics
namespace Go.Proofs.YtaaaifeommdblaaDoor
open Go.RowKit

def dropL (l : SubL) (c f : ByteArray) : SubL := l.filter (fun p => decide (p.1 ≠ (c, f)))
/-- What Drop answers, and the index behind it. -/
def dropF (l : SubL) (n : Int) (c f : ByteArray) : (Bool × Int) × (SubL × Int) :=
  if filterF f = false then ((false, 121), (l, n)) else (((at_ l (c, f)).isSome, 0), (dropL l c f, n))

theorem drop_nil (c f : ByteArray) (w : World) :
    Calls Tryd.prog 25 #[.pointer none, .string c, .string f] w fun e w' => e = .returned (.tuple #[.bool false, .int .i64 3]) ∧ Below w.heap.size w w' := by
  go_enter Tryd.func25, Tryd.ntmps25
  go_wp2
  go_ret2
  exact ⟨rfl, Below.refl _ _⟩

set_option maxHeartbeats 1000000 in
set_option maxRecDepth 100000 in
theorem drop_walk (g m : Nat) (l : SubL) (n : Int) (c f : ByteArray) (w : World) (hG : Glob w) (hx : IdxAt w g m l n) :
    Calls Tryd.prog 25 #[.pointer (some ⟨g, 0, none⟩), .string c, .string f] w (AddPost g m (dropF l n c f) w) := by
  obtain ⟨r, hr⟩ : ∃ r, r = dropF l n c f := ⟨_, rfl⟩
  rw [← hr]
  unfold dropF at hr
  have HF := Lib.hid (filter_walk f _ hG)
  cases hf : filterF f
  · rw [if_pos hf] at hr
    rw [hf] at HF
    subst hr
    clear hf
    go_enter Tryd.func25, Tryd.ntmps25
    go_wp2_with (go_at_call 37; refine HF.out.mono ?_; rintro e w2 ⟨rfl, hb2⟩)
    go_ret2
    exact ⟨rfl, hx.below hb2, Turn.below hb2⟩
  · rw [if_neg (by simp [hf])] at hr
    rw [hf] at HF
    clear hf
    have look := fun W' (h : MapIs keyV entV W' m l) => h.look subKeys Tryd.underlying82 (entV (0, 0)) zeroEnt (c, f) true
    simp only [if_true] at look
    have del := fun W' (h : MapIs keyV entV W' m l) => h.del subKeys Tryd.underlying82 (c, f) 86
    obtain ⟨had, hhad⟩ : ∃ had, had = (at_ l (c, f)).isSome := ⟨_, rfl⟩
    rw [← hhad] at hr
    obtain ⟨e0, e1, hv⟩ : ∃ e0 e1, (Option.map entV (at_ l (c, f))).getD (entV (0, 0)) = .agg #[.int .i64 e0, .int .i64 e1] := by
      cases at_ l (c, f) with
      | none => exact ⟨0, 0, rfl⟩
      | some e => exact ⟨e.1, e.2, rfl⟩
    simp only [hv, ← hhad] at look
    have LOOK := Lib.hid look; have DEL := Lib.hid del; have HR := Lib.hid hr
    clear look del hr hv hhad
    go_enter Tryd.func25, Tryd.ntmps25
    go_wp2_with (go_at_call 37; refine HF.out.mono ?_; rintro e w2 ⟨rfl, hb2⟩; have hx2 := hx.below hb2; have c0 := hx2.c0; have L1 := LOOK.out _ hx2.map; simp only [keyV] at L1; have hb3 : Below w2.heap.size w2 (w2.alloc (.cells #[.int .i64 e0, .int .i64 e1] 88)) := (Below.refl _ _).alloc (Nat.le_refl _) _; have hx3 := hx2.below hb3; have c0' := hx3.c0; have D1 := fun ty => DEL.out _ hx3.map ty; simp only [keyV] at D1; obtain ⟨o, D2, hmap⟩ := D1 0)
    go_ret2
    have hT : Turn g m w _ := Turn.below (hb2.trans (hb3.mono hb2.size))
    exact ⟨by rw [HR.out]; rfl, by rw [HR.out]; exact hx3.putMap hmap, hT.trans (Turn.put _ _)⟩

end Go.Proofs.YtaaaifeommdblaaDoor

namespace Go.Proofs.YtaaaifeommdblaaDoor
open Go.RowKit Go.Sort

theorem grown_put (w : World) (m : Nat) (o : Obj) : w.grownBy (w.putObj m o) (some m) where
  os := rfl
  tape := rfl
  output := rfl
  size := by simp [World.putObj]
  block k hk hne := World.putObj_heap_other (by simpa using hne)

/-- All filters of a row are dropped. -/
def dropAll (l : SubL) (c : ByteArray) (fs : List (ByteArray × Int)) : SubL := fs.foldl (fun l f => dropL l c f.1) l
theorem dropAll_snoc (l : SubL) (c : ByteArray) (fs : List (ByteArray × Int)) (f : ByteArray × Int) : dropAll l c (fs ++ [f]) = dropL (dropAll l c fs) c f.1 := by
  unfold dropAll; rw [List.foldl_append]; rfl
theorem dropAll_filter (c : ByteArray) (fs : List (ByteArray × Int)) : ∀ l : SubL, dropAll l c fs = l.filter (fun p => !(decide (p.1.1 = c) && fs.any (fun f => decide (p.1.2 = f.1)))) := by
  induction fs with
  | nil =>
    intro l
    rw [List.filter_eq_self.2 (by intro p _; simp)]
    rfl
  | cons f fs ih =>
    intro l
    have : dropAll l c (f :: fs) = dropAll (dropL l c f.1) c fs := rfl
    rw [this, ih, dropL, List.filter_filter]
    congr 1
    funext p
    obtain ⟨⟨a, b⟩, e⟩ := p
    by_cases h1 : a = c <;> by_cases h2 : b = f.1 <;> simp [h1, h2]

def goneL (l : SubL) (c : ByteArray) : SubL := l.filter (fun p => decide (p.1.1 ≠ c))
theorem dropAll_of (l : SubL) (c : ByteArray) : dropAll l c (ofL l c) = goneL l c := by
  rw [dropAll_filter]
  unfold goneL
  apply List.filter_congr
  intro p hp
  by_cases h : p.1.1 = c
  · have : (ofL l c).any (fun f => decide (p.1.2 = f.1)) = true := by
      unfold ofL
      simp only [List.any_map, List.any_eq_true, List.mem_filter, Function.comp]
      exact ⟨p, ⟨hp, by simp [h]⟩, by simp⟩
    simp [h, this]
  · simp [h]

theorem gone_nil (c : ByteArray) (w : World) :
    Calls Tryd.prog 31 #[.pointer none, .string c] w fun e w' => e = .returned (.tuple #[.int .i64 0, .int .i64 3]) ∧ Below w.heap.size w w' := by
  have HN := Lib.hid (of_nil c w)
  go_enter Tryd.func31, Tryd.ntmps31
  go_wp2_with (go_at_call 24; refine HN.out.mono ?_; rintro e w2 ⟨rfl, hb2⟩)
  go_loopg [18] 0 (fun gk i wx => i = .int .i64 0 ∧ gk = 0 ∧ Below w.heap.size w wx)
  case atStart => exact ⟨rfl, rfl, hb2⟩
  case round =>
    obtain ⟨rfl, rfl, hnx⟩ := hrel
    go_wp2
    go_ret2
    exact ⟨rfl, hnx⟩

set_option maxHeartbeats 2000000 in
set_option maxRecDepth 100000 in
theorem gone_walk (g m : Nat) (l : SubL) (n : Int) (c : ByteArray) (w : World) (hx : IdxAt w g m l n) (hl : l.length ≤ 65536) (hs : l.Pairwise (fun a b => a.2.2 < b.2.2)) :
    Calls Tryd.prog 31 #[.pointer (some ⟨g, 0, none⟩), .string c] w fun e w' => e = .returned (.tuple #[.int .i64 (ofL l c).length, .int .i64 0]) ∧ IdxAt w' g m (goneL l c) n ∧ Turn g m w w' := by
  have HN := Lib.hid (of_walk g m l n c w hx hl hs)
  have hlt := hx.lt
  obtain ⟨r, hr⟩ : ∃ r, r = ofL l c := ⟨_, rfl⟩
  have hrl : r.length ≤ l.length := by rw [hr]; unfold ofL; rw [List.length_map]; exact List.length_filter_le _ _
  have hgn := dropAll_of l c
  rw [← hr] at HN hgn ⊢
  have HG := Lib.hid hgn
  clear hr hgn
  go_enter Tryd.func31, Tryd.ntmps31
  go_wp2_with (go_at_call 24; refine HN.out.mono ?_; rintro e w2 ⟨⟨v, rfl, hown⟩, hb2⟩; have hx2 := hx.below hb2; obtain ⟨ad, cap, hv, had⟩ := owns_form hown; subst hv)
  go_loopg [18] r.length (fun gk i wx => ∃ k : Nat, k + gk = r.length ∧ i = .int .i64 k ∧ IdxAt wx g m (dropAll l c (r.take k)) n ∧ wx.ownsRow w.heap.size 53 2 (.slice ad r.length cap) r.length (r.flatMap subE) ∧ Turn g m w wx)
  case atStart => exact ⟨0, by omega, rfl, hx2, hown, Turn.below hb2⟩
  case round =>
    obtain ⟨k, hkg, rfl, hxk, hrow, hT⟩ := hrel
    by_cases hk : k < r.length
    · obtain ⟨g', rfl⟩ := had (by omega)
      have hk' : decide (k < r.length) = true := decide_eq_true hk
      obtain ⟨⟨k1, k2⟩, hkk⟩ : ∃ x, r[k]! = x := ⟨_, rfl⟩
      have hget : r[k]'hk = (k1, k2) := by rw [← hkk, getElem!_pos r k hk]
      have e0 := hrow.cellAt (k * 2) (by omega)
      have e1 := hrow.cellAt (k * 2 + 1) (by omega)
      rw [flat_get (enc := subE) (k := 2) (fun _ => rfl) (by decide) r _ (by omega), show (k * 2) / 2 = k by omega, show (k * 2) % 2 = 0 by omega, hkk] at e0
      rw [flat_get (enc := subE) (k := 2) (fun _ => rfl) (by decide) r _ (by omega), show (k * 2 + 1) / 2 = k by omega, show (k * 2 + 1) % 2 = 1 by omega, hkk] at e1
      simp [subE] at e0 e1
      have hss := hrow.lt g' rfl
      have hb7 : Below wr.heap.size wr (wr.alloc (.cells #[.string k1, .int .i64 k2] 53)) := (Below.refl _ _).alloc (Nat.le_refl _) _
      have hx7 := hxk.below hb7
      have hT7 := hT.trans (Turn.below hb7)
      have hrow7 := owns_below hrow hb7
      have c07 := hx7.c0
      have d0 := cells_new wr [.string k1, .int .i64 k2] 53 0 _ rfl
      have d1 := cells_new wr [.string k1, .int .i64 k2] 53 1 _ rfl
      have hte : dropAll l c (r.take (k + 1)) = dropL (dropAll l c (r.take k)) c k1 := by
        rw [List.take_succ_eq_append_getElem hk, hget, dropAll_snoc]
      have HT := Lib.hid hte
      have DEL := Lib.hid (fun W (h : MapIs keyV entV W m (dropAll l c (r.take k))) => h.del subKeys Tryd.underlying82 (c, k1) 86)
      clear hte hkk hget
      generalize hW7 : wr.alloc (.cells #[.string k1, .int .i64 k2] 53) = W7 at *
      have hx8 := hx7.same (w' := W7.drew) rfl rfl
      have c08 := hx8.c0
      have d08 : W7.drew.cell? ⟨wr.heap.size, 0, none⟩ = some (.string k1) := d0
      have D1 := DEL.out _ hx8.map
      simp only [keyV] at D1
      obtain ⟨o, D2, hmap⟩ := D1 0
      go_wp2
      refine wp_region_still_tail 8 (by kernel_rfl) (by kernel_rfl) ?_
      simp only [List.take_succ_cons, List.take_zero, List.drop_succ_cons, List.drop_zero]
      show wpStill _ _ W7.drew (fun a => wpList _ _ _ _ a W7.drew) _ _
      repeat still_step
      try refine wpStill_nil ?_
      have hx9 := hx8.putMap hmap
      have hrow9 := (hrow7.drew).kept (grown_put W7.drew m o) (.inr (by simp [Value.ownBlock]; omega))
      have hT9 : Turn g m w (W7.drew.putObj m o) := (hT7.trans (Turn.below (Below.refl _ _).drew)).trans (Turn.put _ _)
      go_wp2
      go_roundg (gk - 1)
      case measure => omega
      case rel => exact ⟨k + 1, by omega, by simp, by rw [HT.out]; exact hx9, hrow9, hT9⟩
    · have hk' : decide (k < r.length) = false := decide_eq_false hk
      obtain rfl : k = r.length := by omega
      rw [List.take_length, HG.out] at hxk
      go_wp2
      go_ret2
      exact ⟨rfl, hxk, hT⟩

end Go.Proofs.YtaaaifeommdblaaDoor

/- subs.Index.Drop: the walk. -/
import Derived.Test.YtaaaifeommdblaaDoorSubsAdd
namespace Go.Proofs.YtaaaifeommdblaaDoor
open Go.RowKit

def dropL (l : SubL) (c f : ByteArray) : SubL := l.filter (fun p => decide (p.1 ≠ (c, f)))
/-- What Drop answers, and the index behind it. -/
def dropF (l : SubL) (n : Int) (c f : ByteArray) : (Bool × Int) × (SubL × Int) :=
  if filterF f = false then ((false, 121), (l, n)) else (((at_ l (c, f)).isSome, 0), (dropL l c f, n))

theorem drop_nil (c f : ByteArray) (w : World) :
    Calls Tryd.prog 25 #[.pointer none, .string c, .string f] w fun e w' => e = .returned (.tuple #[.bool false, .int .i64 3]) ∧ Below w.heap.size w w' := by
  go_enter Tryd.func25, Tryd.ntmps25
  go_wp2
  go_ret2
  exact ⟨rfl, Below.refl _ _⟩

set_option maxHeartbeats 1000000 in
set_option maxRecDepth 100000 in
theorem drop_walk (g m : Nat) (l : SubL) (n : Int) (c f : ByteArray) (w : World) (hG : Glob w) (hx : IdxAt w g m l n) :
    Calls Tryd.prog 25 #[.pointer (some ⟨g, 0, none⟩), .string c, .string f] w (AddPost g m (dropF l n c f) w) := by
  obtain ⟨r, hr⟩ : ∃ r, r = dropF l n c f := ⟨_, rfl⟩
  rw [← hr]
  unfold dropF at hr
  have HF := Lib.hid (filter_walk f _ hG)
  cases hf : filterF f
  · rw [if_pos hf] at hr
    rw [hf] at HF
    subst hr
    clear hf
    go_enter Tryd.func25, Tryd.ntmps25
    go_wp2_with (go_at_call 37; refine HF.out.mono ?_; rintro e w2 ⟨rfl, hb2⟩)
    go_ret2
    exact ⟨rfl, hx.below hb2, Turn.below hb2⟩
  · rw [if_neg (by simp [hf])] at hr
    rw [hf] at HF
    clear hf
    have look := fun W' (h : MapIs keyV entV W' m l) => h.look subKeys Tryd.underlying82 (entV (0, 0)) zeroEnt (c, f) true
    simp only [if_true] at look
    have del := fun W' (h : MapIs keyV entV W' m l) => h.del subKeys Tryd.underlying82 (c, f) 86
    obtain ⟨had, hhad⟩ : ∃ had, had = (at_ l (c, f)).isSome := ⟨_, rfl⟩
    rw [← hhad] at hr
    obtain ⟨e0, e1, hv⟩ : ∃ e0 e1, (Option.map entV (at_ l (c, f))).getD (entV (0, 0)) = .agg #[.int .i64 e0, .int .i64 e1] := by
      cases at_ l (c, f) with
      | none => exact ⟨0, 0, rfl⟩
      | some e => exact ⟨e.1, e.2, rfl⟩
    simp only [hv, ← hhad] at look
    have LOOK := Lib.hid look; have DEL := Lib.hid del; have HR := Lib.hid hr
    clear look del hr hv hhad
    go_enter Tryd.func25, Tryd.ntmps25
    go_wp2_with (go_at_call 37; refine HF.out.mono ?_; rintro e w2 ⟨rfl, hb2⟩; have hx2 := hx.below hb2; have c0 := hx2.c0; have L1 := LOOK.out _ hx2.map; simp only [keyV] at L1; have hb3 : Below w2.heap.size w2 (w2.alloc (.cells #[.int .i64 e0, .int .i64 e1] 88)) := (Below.refl _ _).alloc (Nat.le_refl _) _; have hx3 := hx2.below hb3; have c0' := hx3.c0; have D1 := fun ty => DEL.out _ hx3.map ty; simp only [keyV] at D1; obtain ⟨o, D2, hmap⟩ := D1 0)
    go_ret2
    have hT : Turn g m w _ := Turn.below (hb2.trans (hb3.mono hb2.size))
    exact ⟨by rw [HR.out]; rfl, by rw [HR.out]; exact hx3.putMap hmap, hT.trans (Turn.put _ _)⟩

end Go.Proofs.YtaaaifeommdblaaDoor

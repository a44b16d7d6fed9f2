/- Arguments that are opened: a row of messages. -/
import Derived.Test.YtaaaifeommdblaaDoorArgs
import Derived.Test.YtaaaifeommdblaaDoorKeptLaw
namespace Go.Proofs.YtaaaifeommdblaaDoor
open Go.ChangeShapes Go.WideShapes Go.Deep Go.RowKit

set_option maxRecDepth 100000 in
theorem open_msgs {H : Type} {enc : TypeId × Value → H} {W : World} {v : Value} {d : DataW H} {p : List MemPlace} {r : Reach} {b0 : Nat} (hv : Value.okWide Tryd.prog W r b0 22 v)
    (h : DataW.Trod enc Tryd.prog W 0 (fun _ => true) true 22 v d p) : ∃ msgs : List MsgR, RowRd W v msgs.length (msgs.flatMap msgE) := by
  obtain ⟨fuel, hf⟩ := h
  obtain ⟨a0, len0, cap0, rfl⟩ := okWide_slice Tryd.underlying22 hv
  rcases open_slice_fields Tryd.underlying22 Tryd.underlying33 (by kernel_rfl) (by kernel_rfl) hf with ⟨h0, _⟩ | ⟨a, len, cap, m, D, Pl, hcs, _, hlc, hcm, hm, _, hi⟩
  · simp [Value.cells] at h0
    obtain ⟨rfl, rfl, rfl⟩ := h0
    exact ⟨[], none, 0, rfl, fun h => absurd h (by simp)⟩
  · simp [Value.cells] at hcs
    obtain ⟨rfl, rfl, rfl⟩ := hcs
    rw [if_pos rfl] at hm
    refine rowRd_of W msgE 4 _ _ a (fun _ => rfl) (by decide) (fun i hil => ?_)
    obtain ⟨ys, n, _, _, _, hf⟩ := hi i (by omega)
    obtain ⟨v0, y0, c0, _, t0⟩ := hf 0 _ rfl
    obtain ⟨v1, y1, c1, _, t1⟩ := hf 1 _ rfl
    obtain ⟨v2, y2, c2, _, t2⟩ := hf 2 _ rfl
    obtain ⟨v3, y3, c3, _, t3⟩ := hf 3 _ rfl
    obtain ⟨x0, e0, _⟩ := DataW.trod_string Tryd.underlying9 t0
    obtain ⟨x1, e1, _⟩ := DataW.trod_string Tryd.underlying9 t1
    obtain ⟨x2, e2, _⟩ := DataW.trod_int Tryd.underlying3 t2
    obtain ⟨x3, e3, _⟩ := DataW.trod_bool Tryd.underlying4 t3
    obtain rfl := (List.cons.inj e0).1
    obtain rfl := (List.cons.inj e1).1
    obtain rfl := (List.cons.inj e2).1
    obtain rfl := (List.cons.inj e3).1
    refine ⟨⟨x0, x1, x2, x3⟩, fun j u hj => ?_⟩
    match j, hj with
    | 0, hj => obtain rfl := Option.some.inj hj; exact c0
    | 1, hj => obtain rfl := Option.some.inj hj; exact c1
    | 2, hj => obtain rfl := Option.some.inj hj; exact c2
    | 3, hj => obtain rfl := Option.some.inj hj; exact c3


end Go.Proofs.YtaaaifeommdblaaDoor

/- Arguments that are opened: a row of calls (Op); and what is read behind a call that turned nothing. -/
import Derived.Test.YtaaaifeommdblaaDoorFew
import Derived.Deep.Slices
import Derived.Deep.Fields
import Derived.ChangeSame
import Derived.Carry
namespace Go.Proofs.YtaaaifeommdblaaDoor
open Go.ChangeShapes Go.WideShapes Go.Deep Go.RowKit

theorem trodAll_below {H : Type} {enc : TypeId × Value → H} {P : Program} (hl : laidOutB P = true) {W W' : World} (hb : Below W.heap.size W W') :
    ∀ {ts : List TypeId} {vs : List Value} {ds : List (DataW H)} {ps : List MemPlace}, (ts.all fun t => P.readableRec t && decide (t < P.types.size)) = true → DataW.TrodAll enc P W 0 (fun _ => true) true ts vs ds ps → DataW.TrodAll enc P W' 0 (fun b => decide (b < W.heap.size)) true ts vs ds ps
  | [], vs, ds, ps, _, h => by
    obtain ⟨rfl, rfl, rfl⟩ := trodAll_nil h
    rfl
  | t :: ts, vs, ds, ps, hr, h => by
    have hlt := h.lt
    obtain ⟨v, vs', d, ds', p, q, rfl, rfl, rfl, h0, h1⟩ := trodAll_cons h
    simp only [List.all_cons, Bool.and_eq_true, decide_eq_true_eq] at hr
    exact ⟨p, q, hb.trod hl hr.1.1 hr.1.2 h0 (fun x hx => hlt x (List.mem_append_left _ hx)), trodAll_below hl hb (by simpa using hr.2) h1, rfl⟩

section
variable {H : Type} {enc : TypeId × Value → H} {P : Program} {w : World} {base : Nat} {spare : Nat → Bool} {held : Bool}
/-- A slice of structs of one-cell fields: each field's cell, and its reading. -/
theorem open_slice_fields {t e : TypeId} {fs : Array Field} {fuel : Nat} {cs : List Value} {x : DataW H × List MemPlace} (ht : P.underlying t = some (.slice e)) (he : P.underlying e = some (.struct fs))
    (hone : oneCellFields P fs = true) (hC : P.cellsOf e = fs.size) (h : DataW.trod enc P w base spare held fuel t cs = some x) :
    (cs = [.slice none 0 0] ∧ x = (.nil, [])) ∨
    ∃ (a : Addr) (len cap m : Nat) (D : Nat → DataW H) (Pl : Nat → List MemPlace), cs = [.slice (some a) len cap] ∧ base ≤ a.block ∧ len ≤ cap ∧ cap ≤ maxLen ∧ m = (if spare a.block then cap else len) ∧
      x = (.slice ((List.range len).map D) ((List.range (m - len)).map fun j => D (len + j)), MemPlace.row a (m * fs.size) ++ (List.range m).flatMap Pl) ∧
      ∀ i, i < m → ∃ (ys : List (DataW H × List MemPlace)) (n : Nat), D i = .agg (ys.map (·.1)) ∧ Pl i = ys.flatMap (·.2) ∧ ys.length = fs.size ∧
        ∀ (j : Nat) (f : Field), fs[j]? = some f → ∃ (v : Value) (y : DataW H × List MemPlace), w.cell? (a.add (i * fs.size + j)) = some v ∧ ys[j]? = some y ∧ DataW.trod enc P w base spare held n f.type [v] = some y := by
  rcases open_slice ht h with h0 | ⟨a, len, cap, m, n, D, Pl, hcs, hb, hl, hm, hmm, hx, hi⟩
  · exact .inl h0
  · refine .inr ⟨a, len, cap, m, D, Pl, hcs, hb, hl, hm, hmm, by rw [hC] at hx; exact hx, fun i him => ?_⟩
    obtain ⟨cs', hc, ht'⟩ := hi i him
    rw [hC] at hc
    obtain ⟨ys, n', hn', hy, hlen, hyl, hf⟩ := DataW.trod_struct he ht'
    obtain ⟨_, hcl, hat⟩ := World.cells?_some hc
    simp only [Prod.mk.injEq] at hy
    refine ⟨ys, n', hy.1, hy.2, hyl, fun j f hj => ?_⟩
    obtain ⟨ho, hk⟩ := hone_of hone j f hj
    have hjl : j < fs.size := (Array.getElem?_eq_some_iff.1 hj).1
    have hcell := hat j hjl
    have hv : cs'[j]? = some (cs'[j]'(by omega)) := List.getElem?_eq_getElem (by omega)
    have h1 := hf j f hj
    rw [ho, hk] at h1
    have hone' : (cs'.drop j).take 1 = [cs'[j]'(by omega)] := by
      rw [List.drop_eq_getElem_cons (by omega)]
      rfl
    rw [hone'] at h1
    have hys : ys[j]? = some (ys[j]'(by omega)) := List.getElem?_eq_getElem (by omega)
    refine ⟨_, _, ?_, hys, h1.trans hys⟩
    rw [← Go.Deep.add_add, hcell, hv]
end

theorem addr_add (g o j : Nat) : (⟨g, o, none⟩ : Addr).add j = ⟨g, o + j, none⟩ := by
  unfold Addr.add; split
  · rename_i h; subst h; rfl
  · rfl

/-- Rows of what is read by its fields, as a list of things. -/
theorem rows_of {α : Type} [Inhabited α] (w : World) (enc : α → List Value) (k len : Nat) (a : Addr) (hk : ∀ x, (enc x).length = k) (hk0 : 0 < k) (h : ∀ i, i < len → ∃ x : α, ∀ j u, (enc x)[j]? = some u → w.cell? (a.add (i * k + j)) = some u) :
    ∃ xs : List α, xs.length = len ∧ ∀ j u, (xs.flatMap enc)[j]? = some u → w.cell? (a.add j) = some u := by
  obtain ⟨f, hf⟩ := choose_lt h
  refine ⟨(List.range len).map f, by simp, fun j u hj => ?_⟩
  have hjl : j < ((List.range len).map f).length * k := by
    have := (List.getElem?_eq_some_iff.1 hj).1
    rwa [flat_len hk] at this
  have hi : j / k < len := by
    rw [Nat.div_lt_iff_lt_mul hk0]; simpa using hjl
  have hg : ((List.range len).map f)[j / k]! = f (j / k) := by rw [getElem!_pos _ _ (by simpa using hi)]; simp
  have hm : j % k < (enc (f (j / k))).length := by rw [hk]; exact Nat.mod_lt _ hk0
  rw [flat_get hk hk0 _ _ hjl, hg, getElem!_pos (enc (f (j / k))) (j % k) hm, ← List.getElem?_eq_getElem hm] at hj
  have := hf (j / k) hi (j % k) u hj
  rwa [Nat.mul_comm, Nat.div_add_mod] at this

theorem cell_spot {w : World} {a : Addr} {v : Value} (h : w.cell? a = some v) : a = ⟨a.block, a.off, none⟩ ∧ a.block < w.heap.size := by
  obtain ⟨b, o, s⟩ := a
  refine ⟨?_, lt_of_cell h⟩
  unfold World.cell? at h
  split at h
  · cases s with
    | none => rfl
    | some x => simp at h
  · cases h

/-- A slice's row can be read. -/
theorem rowRd_of {α : Type} [Inhabited α] (w : World) (enc : α → List Value) (k len cap : Nat) (a : Addr) (hk : ∀ x, (enc x).length = k) (hk0 : 0 < k) (h : ∀ i, i < len → ∃ x : α, ∀ j u, (enc x)[j]? = some u → w.cell? (a.add (i * k + j)) = some u) :
    ∃ xs : List α, RowRd w (.slice (some a) len cap) xs.length (xs.flatMap enc) := by
  obtain ⟨xs, hl, hc⟩ := rows_of w enc k len a hk hk0 h
  refine ⟨xs, some a, cap, by rw [hl], fun hpos => ?_⟩
  have h0 : (xs.flatMap enc)[0]? = some ((xs.flatMap enc)[0]'(by rw [flat_len hk]; exact Nat.mul_pos hpos hk0)) := List.getElem?_eq_getElem _
  have hc0 := hc 0 _ h0
  have ha0 : a.add 0 = a := rfl
  rw [ha0] at hc0
  obtain ⟨e, hlt⟩ := cell_spot hc0
  refine ⟨a.block, a.off, by rw [← e], hlt, fun j u hj => ?_⟩
  have := hc j u hj
  rw [e, addr_add] at this
  exact this

set_option maxRecDepth 100000 in
theorem open_ops {H : Type} {enc : TypeId × Value → H} {W : World} {v : Value} {d : DataW H} {p : List MemPlace} {r : Reach} {b0 : Nat} (hv : Value.okWide Tryd.prog W r b0 45 v)
    (h : DataW.Trod enc Tryd.prog W 0 (fun _ => true) true 45 v d p) : ∃ ops : List OpR, RowRd W v ops.length (ops.flatMap opE) := by
  obtain ⟨fuel, hf⟩ := h
  obtain ⟨a0, len0, cap0, rfl⟩ := okWide_slice Tryd.underlying45 hv
  rcases open_slice_fields Tryd.underlying45 Tryd.underlying50 (by kernel_rfl) (by kernel_rfl) hf with ⟨h0, _⟩ | ⟨a, len, cap, m, D, Pl, hcs, _, hlc, hcm, hm, _, hi⟩
  · simp [Value.cells] at h0
    obtain ⟨rfl, rfl, rfl⟩ := h0
    exact ⟨[], none, 0, rfl, fun h => absurd h (by simp)⟩
  · simp [Value.cells] at hcs
    obtain ⟨rfl, rfl, rfl⟩ := hcs
    rw [if_pos rfl] at hm
    refine rowRd_of W opE 4 _ _ a (fun _ => rfl) (by decide) (fun i hil => ?_)
    obtain ⟨ys, n, _, _, _, hf⟩ := hi i (by omega)
    obtain ⟨v0, y0, c0, _, t0⟩ := hf 0 _ rfl
    obtain ⟨v1, y1, c1, _, t1⟩ := hf 1 _ rfl
    obtain ⟨v2, y2, c2, _, t2⟩ := hf 2 _ rfl
    obtain ⟨v3, y3, c3, _, t3⟩ := hf 3 _ rfl
    obtain ⟨x0, e0, _⟩ := DataW.trod_int Tryd.underlying3 t0
    obtain ⟨x1, e1, _⟩ := DataW.trod_string Tryd.underlying9 t1
    obtain ⟨x2, e2, _⟩ := DataW.trod_string Tryd.underlying9 t2
    obtain ⟨x3, e3, _⟩ := DataW.trod_int Tryd.underlying3 t3
    obtain rfl := (List.cons.inj e0).1
    obtain rfl := (List.cons.inj e1).1
    obtain rfl := (List.cons.inj e2).1
    obtain rfl := (List.cons.inj e3).1
    refine ⟨⟨x0, x1, x2, x3⟩, fun j u hj => ?_⟩
    match j, hj with
    | 0, hj => obtain rfl := Option.some.inj hj; exact c0
    | 1, hj => obtain rfl := Option.some.inj hj; exact c1
    | 2, hj => obtain rfl := Option.some.inj hj; exact c2
    | 3, hj => obtain rfl := Option.some.inj hj; exact c3

end Go.Proofs.YtaaaifeommdblaaDoor

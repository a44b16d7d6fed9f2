/- A range over a map, its order whatever the tape says. -/
import Derived.Test.YtaaaifeommdblaaDoorMap
import Derived.Maps.RangeRun
namespace Go.Proofs.YtaaaifeommdblaaDoor
open Go.RowKit

section
variable {P : Program} {κ ν : Type} {ek : κ → Value} {ev : ν → Value} {w : World} {r m : Nat} {l left : List (κ × ν)}

/-- Which pairs are still to come. -/
def toCome (es : List MapEntry) (seen : Array Nat) (l : List (κ × ν)) : List (κ × ν) := ((es.zip l).filter (fun x => !seen.contains x.1.born)).map (·.2)

/-- Block r is an iterator over the map in block m, which holds l; left is still to come. -/
def Ranges (ek : κ → Value) (ev : ν → Value) (w : World) (r m : Nat) (l left : List (κ × ν)) : Prop :=
  ∃ es clock since seen c0, w.heap[m]? = some (.map es clock) ∧ w.heap[r]? = some (.mapIter (some m) since seen c0) ∧ (∀ x ∈ es.toList, x.born < since) ∧ since ≤ c0 ∧ since ≤ clock ∧
    es.toList.map (·.key) = l.map (fun p => ek p.1) ∧ es.toList.map (·.val) = l.map (fun p => ev p.2) ∧ (es.toList.map (·.born)).Nodup ∧ toCome es.toList seen l = left

theorem Ranges.same {w' : World} (h : Ranges ek ev w r m l left) (h1 : w'.heap[m]? = w.heap[m]?) (h2 : w'.heap[r]? = w.heap[r]?) : Ranges ek ev w' r m l left := by
  obtain ⟨es, c, s, n, c0, a, b, rest⟩ := h
  exact ⟨es, c, s, n, c0, h1.trans a, h2.trans b, rest⟩
theorem Ranges.lt (h : Ranges ek ev w r m l left) : r < w.heap.size ∧ m < w.heap.size := by
  obtain ⟨es, c, s, n, c0, a, b, _⟩ := h
  exact ⟨(Array.getElem?_eq_some_iff.1 b).1, (Array.getElem?_eq_some_iff.1 a).1⟩
theorem Ranges.ne_own (h : Ranges ek ev w r m l left) {base : Nat} {e : TypeId} {size : Nat} {v : Value} {n : Nat} {xs : List Value} (ho : w.ownsRow base e size v n xs) : v.ownBlock ≠ some r ∧ v.ownBlock ≠ some m := by
  obtain ⟨es, c, s, n, c0, a, b, _⟩ := h
  refine ⟨fun hv => ?_, fun hv => ?_⟩
  · obtain ⟨cs, t, f, hb⟩ := owns_block ho _ hv
    rw [b] at hb; cases hb
  · obtain ⟨cs, t, f, hb⟩ := owns_block ho _ hv
    rw [a] at hb; cases hb
theorem Ranges.grown {w' : World} {row : Option Nat} (h : Ranges ek ev w r m l left) (hg : w.grownBy w' row) (h1 : row ≠ some r) (h2 : row ≠ some m) : Ranges ek ev w' r m l left :=
  h.same (hg.block _ h.lt.2 (Ne.symm h2)) (hg.block _ h.lt.1 (Ne.symm h1))
theorem Ranges.below {w' : World} (h : Ranges ek ev w r m l left) (hb : Below w.heap.size w w') : Ranges ek ev w' r m l left := h.same (hb.block _ h.lt.2) (hb.block _ h.lt.1)

theorem MapIs.range {kt t et : TypeId} (ht : P.underlying t = some (.map kt et)) (h : MapIs ek ev w m l) :
    ∃ o, (Instr.range t (.map (some m))).run P w = .ok (.pointer (some ⟨w.heap.size, 0, none⟩)) (w.alloc o) ∧ Ranges ek ev (w.alloc o) w.heap.size m l l := by
  have hlt := h.lt
  obtain ⟨es, c, hm, hk, hv, hn, hb, hc⟩ := h
  refine ⟨.mapIter (some m) c #[] c, ?_, es, c, c, #[], c, (Below.heap_alloc _ _ _ hlt).trans hm, heap_new _ _, hc, Nat.le_refl _, Nat.le_refl _, hk, hv, hb, ?_⟩
  · simp [Instr.range, Sem.run_bind, run_underlying ht, Result.andThen, run_getObj_map hm, newObj, Sem.run, World.alloc_eq]
  · have hlen : es.toList.length = l.length := by
      have := congrArg List.length hk
      simpa using this
    unfold toCome
    rw [List.filter_eq_self.2 (by simp)]
    rw [List.map_snd_zip]
    omega

theorem zip_mem {es : List MapEntry} {e : MapEntry} {i : Nat} (hk : es.map (·.key) = l.map (fun p => ek p.1)) (hv : es.map (·.val) = l.map (fun p => ev p.2)) (hi : es[i]? = some e) :
    ∃ p, l[i]? = some p ∧ e.key = ek p.1 ∧ e.val = ev p.2 := by
  have h1 := congrArg (fun z => z[i]?) hk
  have h2 := congrArg (fun z => z[i]?) hv
  simp only [List.getElem?_map, hi, Option.map_some] at h1 h2
  cases hl : l[i]? with
  | none => rw [hl] at h1; simp at h1
  | some p =>
    rw [hl] at h1 h2
    simp at h1 h2
    exact ⟨p, rfl, h1, h2⟩

theorem come_split {seen : Array Nat} {e : MapEntry} : ∀ {es : List MapEntry} {l : List (κ × ν)} {i : Nat} {p : κ × ν}, (es.map (·.born)).Nodup → es[i]? = some e → l[i]? = some p → seen.contains e.born = false →
    ∃ a b, toCome es seen l = a ++ p :: b ∧ toCome es (seen.push e.born) l = a ++ b
  | [], l, i, p, _, he, _, _ => by simp at he
  | e0 :: es, [], i, p, _, _, hl, _ => by simp at hl
  | e0 :: es, p0 :: l, 0, p, hn, he, hl, hs => by
    simp only [List.getElem?_cons_zero, Option.some.injEq] at he hl
    subst he hl
    simp only [List.map_cons, List.nodup_cons] at hn
    refine ⟨[], toCome es seen l, ?_, ?_⟩
    · unfold toCome
      rw [List.zip_cons_cons, List.filter_cons_of_pos (by simpa using hs)]
      rfl
    · unfold toCome
      rw [List.zip_cons_cons, List.filter_cons_of_neg (by simp)]
      simp only [List.nil_append]
      congr 1
      apply List.filter_congr
      intro x hx
      have hxm : x.1 ∈ es := (List.of_mem_zip hx).1
      have hne : x.1.born ≠ e0.born := fun h => hn.1 (List.mem_map.2 ⟨x.1, hxm, h⟩)
      congr 1
      rw [Bool.eq_iff_iff]
      simp [hne]
  | e0 :: es, p0 :: l, i + 1, p, hn, he, hl, hs => by
    simp only [List.getElem?_cons_succ] at he hl
    simp only [List.map_cons, List.nodup_cons] at hn
    obtain ⟨a, b, h1, h2⟩ := come_split (es := es) (l := l) hn.2 he hl hs
    have hne : e0.born ≠ e.born := fun h => hn.1 (List.mem_map.2 ⟨e, List.mem_of_getElem? he, h.symm⟩)
    unfold toCome at *
    rw [List.zip_cons_cons, List.filter_cons, List.filter_cons]
    have hc : (seen.push e.born).contains e0.born = seen.contains e0.born := by
      rw [Bool.eq_iff_iff]; simp [hne]
    simp only [hc]
    cases seen.contains e0.born
    · refine ⟨p0 :: a, b, ?_, ?_⟩
      · show p0 :: List.map _ _ = _
        rw [h1]; rfl
      · show p0 :: List.map _ _ = _
        rw [h2]; rfl
    · exact ⟨a, b, h1, h2⟩

theorem come_none {seen : Array Nat} : ∀ {es : List MapEntry} {l : List (κ × ν)}, (∀ e ∈ es, seen.contains e.born = true) → toCome es seen l = []
  | [], l, _ => by simp [toCome]
  | e :: es, [], _ => by simp [toCome]
  | e :: es, p :: l, h => by
    unfold toCome
    rw [List.zip_cons_cons, List.filter_cons_of_neg (by have := h e (by simp); simpa using this)]
    exact come_none (fun x hx => h x (by simp [hx]))

/-- A step of a range. -/
theorem Ranges.next (h : Ranges ek ev w r m l left) (ty : TypeId) :
    (left = [] ∧ (Instr.next (.pointer (some ⟨r, 0, none⟩)) false ty).run P w = .ok (.tuple #[.bool false]) w) ∨
    ∃ a p b w', left = a ++ p :: b ∧ (Instr.next (.pointer (some ⟨r, 0, none⟩)) false ty).run P w = .ok (.tuple #[.bool true, ek p.1, ev p.2]) w' ∧ (Instr.entry (.pointer (some ⟨r, 0, none⟩))).run P w' = .ok (.tuple #[ek p.1, ev p.2]) w' ∧
      Ranges ek ev w' r m l (a ++ b) ∧ w.grownBy w' (some r) := by
  obtain ⟨es, c, s, seen, c0, hm, hr, hold, hsc, hsk, hk, hv, hn, hl⟩ := h
  have hrlt : r < w.heap.size := (Array.getElem?_eq_some_iff.1 hr).1
  have hrm : m ≠ r := by rintro rfl; rw [hm] at hr; cases hr
  rcases run_next_at (P := P) w ty r m s c0 seen es c hr hm hold hsc with ⟨h0, hrun⟩ | ⟨e, he, w1, hw1, hrun⟩
  · left
    refine ⟨?_, hrun⟩
    rw [← hl]
    apply come_none
    intro e he
    cases hs : seen.contains e.born
    · exfalso
      have : e ∈ (leftOf es seen) := by
        unfold leftOf
        rw [Array.mem_filter]
        exact ⟨by simpa using he, by rw [hs]; rfl⟩
      rw [Array.eq_empty_of_size_eq_zero h0] at this
      simp at this
    · rfl
  · right
    have he2 : e ∈ es.toList ∧ seen.contains e.born = false := by
      unfold leftOf at he
      simp at he
      refine ⟨by simpa using he.1, ?_⟩
      have := he.2
      simpa using this
    obtain ⟨i, hi⟩ := List.getElem?_of_mem he2.1
    obtain ⟨p, hp, hpk, hpv⟩ := zip_mem hk hv hi
    obtain ⟨a, b, h1, h2⟩ := come_split (seen := seen) (e := e) (es := es.toList) (l := l) hn hi hp he2.2
    rw [hpk, hpv] at hrun
    have hw1h : w1.heap = w.heap := by rcases hw1 with rfl | rfl <;> rfl
    have hr' : (ChangeMaps.setBlock w1 r (.mapIter (some m) s (seen.push e.born) c)).heap[r]? = some (.mapIter (some m) s (seen.push e.born) c) := by
      simp [ChangeMaps.setBlock, hw1h, hrlt]
    have hm' : (ChangeMaps.setBlock w1 r (.mapIter (some m) s (seen.push e.born) c)).heap[m]? = some (.map es c) := by
      simp only [ChangeMaps.setBlock, hw1h]
      rw [Array.getElem?_setIfInBounds_ne (Ne.symm hrm)]
      exact hm
    refine ⟨a, p, b, _, by rw [← hl]; exact h1, hrun, ?_, ⟨es, c, s, _, c, hm', hr', hold, hsk, hsk, hk, hv, hn, h2⟩, ?_⟩
    · have := run_entry_at (P := P) _ r m s seen es c e hr' hm' he2.1 hn
      rw [hpk, hpv] at this
      exact this
    · have hg : w.grownBy w1 (some r) := by
        rcases hw1 with rfl | rfl
        · exact ⟨rfl, rfl, rfl, Nat.le_refl _, fun _ _ _ => rfl⟩
        · exact ⟨rfl, rfl, rfl, Nat.le_refl _, fun _ _ _ => rfl⟩
      refine ⟨hg.os, hg.tape, hg.output, ?_, fun k hk hne => ?_⟩
      · simp [ChangeMaps.setBlock, hw1h]
      · simp only [ChangeMaps.setBlock, hw1h]
        rw [Array.getElem?_setIfInBounds_ne (fun e => hne (by rw [e]))]

end
end Go.Proofs.YtaaaifeommdblaaDoor

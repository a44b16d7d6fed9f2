/- Maps as lists of keys and values: what a look-up, a store, a delete, a length come to. A range over a map, its order whatever the tape says. Keys of maps: strings; pairs of strings. The maps of subs: their keys, their values. -/
import Derived.Test.YtaaaifeommdblaaDoorGlob
import Derived.RangeFuncOwn
import Derived.Maps.RangeRun
import Derived.Test.YtaaaifeommdblaaDoorWEqStruct
namespace Go.Proofs.YtaaaifeommdblaaDoor
open Go.RowKit

section
variable {P : Program} {κ ν : Type}

/-- What the laws lean on of a key's type. -/
structure KeyOps (P : Program) (kt : TypeId) (ek : κ → Value) : Prop where
  inj : ∀ a b, ek a = ek b → a = b
  check : ∀ w em k, (Instr.checkKey em 10000 kt (ek k)).run P w = .ok () w
  none : ∀ w k (es : List MapEntry) (ks : List κ), es.map (·.key) = ks.map ek → k ∉ ks → (Instr.findKey kt (ek k) es).run P w = .ok none w
  some : ∀ w k (es : List MapEntry) (ks : List κ), es.map (·.key) = ks.map ek → k ∈ ks → ∃ i e, (Instr.findKey kt (ek k) es).run P w = .ok (some (i, e.val)) w ∧ es[i]? = some e ∧ ks[i]? = some k
  stays : ∀ w k, (Instr.keyThatStays (ek k) (ek k)).run P w = .ok (ek k) w

/-- Block m is a map that holds the pairs of l. -/
def MapIs (ek : κ → Value) (ev : ν → Value) (w : World) (m : Nat) (l : List (κ × ν)) : Prop :=
  ∃ es clock, w.heap[m]? = some (.map es clock) ∧ es.toList.map (·.key) = l.map (fun p => ek p.1) ∧ es.toList.map (·.val) = l.map (fun p => ev p.2) ∧
    (l.map (·.1)).Nodup ∧ (es.toList.map (·.born)).Nodup ∧ ∀ e ∈ es.toList, e.born < clock

variable {ek : κ → Value} {ev : ν → Value} {w : World} {m : Nat} {l : List (κ × ν)}

theorem MapIs.lt (h : MapIs ek ev w m l) : m < w.heap.size := by
  obtain ⟨es, c, h, _⟩ := h
  exact (Array.getElem?_eq_some_iff.1 h).1
theorem MapIs.same {w' : World} (h : MapIs ek ev w m l) (he : w'.heap[m]? = w.heap[m]?) : MapIs ek ev w' m l := by
  obtain ⟨es, c, h, r⟩ := h
  exact ⟨es, c, he.trans h, r⟩
theorem MapIs.below {w' : World} (h : MapIs ek ev w m l) (hb : Below w.heap.size w w') : MapIs ek ev w' m l := h.same (hb.block _ h.lt)
theorem MapIs.nodup (h : MapIs ek ev w m l) : (l.map (·.1)).Nodup := by
  obtain ⟨_, _, _, _, _, h, _⟩ := h; exact h
theorem MapIs.setCell (h : MapIs ek ev w m l) (p : Addr) (v : Value) : MapIs ek ev (w.setCell p v) m l := by
  obtain ⟨es, c, h, r⟩ := h
  refine ⟨es, c, ?_, r⟩
  by_cases e : m = p.block
  · subst e; simp [World.setCell, Array.getElem?_modify, h]
  · exact (Below.heap_setCell w p v m e).trans h

theorem MapIs.made (ek : κ → Value) (ev : ν → Value) (w : World) : MapIs ek ev (w.alloc (.map #[] 0)) w.heap.size [] :=
  ⟨#[], 0, heap_new w _, rfl, rfl, by simp, by simp, by simp⟩

theorem run_getObj_map {es : Array MapEntry} {c : Nat} (h : w.heap[m]? = some (.map es c)) : (getObj m).run P w = .ok (.map es c) w := by
  simp [getObj, Sem.run, h]

/-- What is found at a key. -/
theorem MapIs.find [DecidableEq κ] {kt : TypeId} (K : KeyOps P kt ek) (h : MapIs ek ev w m l) (k : κ) :
    ∃ es c, w.heap[m]? = some (.map es c) ∧ ((l.find? (fun p => p.1 = k) = none ∧ ∀ w', (Instr.findKey kt (ek k) es.toList).run P w' = .ok none w') ∨
      ∃ v i e, l.find? (fun p => p.1 = k) = some (k, v) ∧ l[i]? = some (k, v) ∧ es.toList[i]? = some e ∧ e.key = ek k ∧ e.val = ev v ∧ ∀ w', ∃ i' e', (Instr.findKey kt (ek k) es.toList).run P w' = .ok (some (i', e'.val)) w' ∧ i' = i ∧ e' = e) := by
  obtain ⟨es, c, hm, hk, hv, hn, hb, hc⟩ := h
  have hk' : es.toList.map (·.key) = (l.map (·.1)).map ek := by rw [hk, List.map_map]; rfl
  refine ⟨es, c, hm, ?_⟩
  by_cases hin : k ∈ l.map (·.1)
  · right
    obtain ⟨i, e, hr, he, hi⟩ := K.some w k es.toList _ hk' hin
    obtain ⟨p, hp, hpk⟩ : ∃ p, l[i]? = some p ∧ p.1 = k := by
      rw [List.getElem?_map] at hi
      cases h : l[i]? with
      | none => rw [h] at hi; simp at hi
      | some p => rw [h] at hi; simp at hi; exact ⟨p, rfl, hi⟩
    obtain ⟨k', v⟩ := p
    simp only at hpk
    subst hpk
    have hek : e.key = ek k' := by
      have := congrArg (fun z => z[i]?) hk'
      simp only [List.getElem?_map, he, hp, Option.map_some] at this
      exact Option.some.inj this
    have hev : e.val = ev v := by
      have := congrArg (fun z => z[i]?) hv
      simp only [List.getElem?_map, he, hp, Option.map_some] at this
      exact Option.some.inj this
    have hfind : l.find? (fun p => p.1 = k') = some (k', v) := by
      cases hf : l.find? (fun p => decide (p.1 = k')) with
      | none =>
        have := List.find?_eq_none.1 hf (k', v) (List.mem_of_getElem? hp)
        simp at this
      | some q =>
        have hq := List.find?_some hf
        simp at hq
        have hqm := List.mem_of_find?_eq_some hf
        obtain ⟨j, hj⟩ := List.getElem?_of_mem hqm
        have hij : i = j := by
          have hi1 : (l.map (·.1))[i]? = some k' := by rw [List.getElem?_map, hp]; rfl
          have hj1 : (l.map (·.1))[j]? = some k' := by rw [List.getElem?_map, hj]; simp [hq]
          have hlt : i < (l.map (·.1)).length := (List.getElem?_eq_some_iff.1 hi1).1
          exact (List.getElem?_inj hlt hn).1 (hi1.trans hj1.symm)
        subst hij
        rw [hp] at hj
        rw [← Option.some.inj hj]
    refine ⟨v, i, e, hfind, hp, he, hek, hev, fun w' => ?_⟩
    obtain ⟨i', e', hr', he', hi'⟩ := K.some w' k' es.toList _ hk' hin
    have hii : i' = i := by
      have hlt : i' < (l.map (·.1)).length := (List.getElem?_eq_some_iff.1 hi').1
      exact (List.getElem?_inj hlt hn).1 (hi'.trans hi.symm)
    subst hii
    rw [he] at he'
    exact ⟨i', e', hr', rfl, (Option.some.inj he').symm⟩
  · left
    refine ⟨?_, fun w' => K.none w' k es.toList _ hk' hin⟩
    rw [List.find?_eq_none]
    intro p hp
    simp only [decide_eq_true_eq]
    intro e
    exact hin (List.mem_map.2 ⟨p, hp, e⟩)

/-- The value at a key, or another. -/
def at_ [DecidableEq κ] (l : List (κ × ν)) (k : κ) : Option ν := (l.find? (fun p => p.1 = k)).map (·.2)

theorem at_mem [DecidableEq κ] {l : List (κ × ν)} (hn : (l.map (·.1)).Nodup) (k : κ) (v : ν) : (k, v) ∈ l ↔ at_ l k = some v := by
  induction l with
  | nil => simp [at_]
  | cons p l ih =>
    obtain ⟨k', v'⟩ := p
    simp only [List.map_cons, List.nodup_cons] at hn
    unfold at_ at *
    rw [List.find?_cons]
    by_cases hk : k' = k
    · subst hk
      simp only [List.mem_cons, Prod.mk.injEq, true_and, decide_true, Option.map_some, Option.some.injEq]
      constructor
      · rintro (rfl | h)
        · rfl
        · exact absurd (List.mem_map.2 ⟨_, h, rfl⟩) hn.1
      · rintro rfl; exact Or.inl rfl
    · simp only [List.mem_cons, Prod.mk.injEq, hk, decide_false]
      rw [← ih hn.2]
      constructor
      · rintro (⟨rfl, _⟩ | h)
        · exact absurd rfl hk
        · exact h
      · exact Or.inr

theorem MapIs.look [DecidableEq κ] {kt t et : TypeId} (K : KeyOps P kt ek) (ht : P.underlying t = some (.map kt et)) (z : Value) (hz : ∀ w, (zeroValue et).run P w = .ok z w) (h : MapIs ek ev w m l) (k : κ) (ok : Bool) :
    (Instr.lookup t (.map (some m)) (ek k) ok).run P w = .ok (if ok then .tuple #[((at_ l k).map ev).getD z, .bool (at_ l k).isSome] else ((at_ l k).map ev).getD z) w := by
  obtain ⟨es, c, hm, hfind⟩ := h.find K k
  rcases hfind with ⟨hn, hr⟩ | ⟨v, i, e, hf, hi, he, hek, hev, hr⟩
  · simp only [Instr.lookup, Sem.run_bind, run_underlying ht, Result.andThen, run_getObj_map hm, Sem.run_pure, K.check, hr, hz, at_, hn, Option.map_none, Option.getD_none, Option.isSome_none]
  · obtain ⟨i', e', hr', rfl, rfl⟩ := hr w
    simp only [Instr.lookup, Sem.run_bind, run_underlying ht, Result.andThen, run_getObj_map hm, Sem.run_pure, K.check, hr', hev, at_, hf, Option.map_some, Option.getD_some, Option.isSome_some]

theorem set_self {α : Type} {l : List α} {i : Nat} {x : α} (h : l[i]? = some x) : l.set i x = l := by
  apply List.ext_getElem?
  intro j
  rw [List.getElem?_set]
  split
  · rename_i e; subst e
    have hlt : i < l.length := (List.getElem?_eq_some_iff.1 h).1
    rw [if_pos hlt, h]
  · rfl

/-- The list behind a store. -/
def put_ [DecidableEq κ] (l : List (κ × ν)) (k : κ) (v : ν) : List (κ × ν) := if k ∈ l.map (·.1) then l.map (fun p => if p.1 = k then (k, v) else p) else l ++ [(k, v)]

theorem run_setObj (b : Nat) (o : Obj) (w : World) {es : Array MapEntry} {c : Nat} (hb : w.heap[b]? = some (.map es c)) : (setObj b o).run P w = .ok () (w.putObj b o) := by
  simp [setObj, Sem.run, World.putObj, hb]

theorem put_keys [DecidableEq κ] (l : List (κ × ν)) (k : κ) (v : ν) : (put_ l k v).map (·.1) = if k ∈ l.map (·.1) then l.map (·.1) else l.map (·.1) ++ [k] := by
  unfold put_
  split
  · rw [List.map_map]
    apply List.map_congr_left
    intro p _
    simp only [Function.comp]
    split
    · rename_i h; exact h.symm
    · rfl
  · simp

theorem MapIs.put [DecidableEq κ] {kt t et : TypeId} (K : KeyOps P kt ek) (ht : P.underlying t = some (.map kt et)) (h : MapIs ek ev w m l) (k : κ) (v : ν) :
    ∃ o, (Instr.mapUpdate t (.map (some m)) (ek k) (ev v)).run P w = .ok () (w.putObj m o) ∧ MapIs ek ev (w.putObj m o) m (put_ l k v) := by
  have hlt := h.lt
  obtain ⟨es, c, hm, hk, hv, hn, hb, hc⟩ := h
  obtain ⟨es', c', hm', hfind⟩ := MapIs.find K (⟨es, c, hm, hk, hv, hn, hb, hc⟩ : MapIs ek ev w m l) k
  rw [hm] at hm'
  cases hm'
  rcases hfind with ⟨hnone, hr⟩ | ⟨v0, i, e, hf, hi, he, hek, hev, hr⟩
  · refine ⟨.map (es.push { key := ek k, val := ev v, born := c }) (c + 1), ?_, ?_⟩
    · simp only [Instr.mapUpdate, Sem.run_bind, run_underlying ht, Result.andThen, run_getObj_map hm, K.check, hr]
      exact run_setObj _ _ _ hm
    · have hnin : k ∉ l.map (·.1) := by
        intro hin
        obtain ⟨p, hp, hpk⟩ := List.mem_map.1 hin
        have := List.find?_eq_none.1 hnone p hp
        simp [hpk] at this
      refine ⟨_, _, World.putObj_heap_same hlt, ?_, ?_, ?_, ?_, ?_⟩
      · simp [put_, hnin, hk]
      · simp [put_, hnin, hv]
      · rw [put_keys, if_neg hnin]
        rw [List.nodup_append]
        exact ⟨hn, by simp, fun a ha b hb => by simp at hb; subst hb; rintro rfl; exact hnin ha⟩
      · simp only [Array.toList_push, List.map_append, List.map_cons, List.map_nil]
        rw [List.nodup_append]
        refine ⟨hb, by simp, fun a ha b hb2 => ?_⟩
        simp at hb2; subst hb2
        rintro rfl
        obtain ⟨x, hx, hxb⟩ := List.mem_map.1 ha
        have := hc x hx; omega
      · intro e he
        simp at he
        rcases he with he | rfl
        · have := hc e (by simpa using he); omega
        · simp
  · refine ⟨.map (es.modify i fun e => { e with key := ek k, val := ev v }) c, ?_, ?_⟩
    · obtain ⟨i', e', hr', rfl, rfl⟩ := hr w
      have hk2 : ((es[i']?).map (·.key)).getD (ek k) = ek k := by
        rw [← Array.getElem?_toList, he]; exact hek
      simp only [Instr.mapUpdate, Sem.run_bind, run_underlying ht, Result.andThen, run_getObj_map hm, K.check, hr', hk2, K.stays]
      exact run_setObj _ _ _ hm
    · have hin : k ∈ l.map (·.1) := List.mem_map.2 ⟨_, List.mem_of_getElem? hi, rfl⟩
      have hput : put_ l k v = l.set i (k, v) := by
        unfold put_
        rw [if_pos hin]
        apply List.ext_getElem?
        intro j
        rw [List.getElem?_map, List.getElem?_set]
        by_cases hij : i = j
        · subst hij
          have hlt2 : i < l.length := (List.getElem?_eq_some_iff.1 hi).1
          rw [hi, if_pos rfl, if_pos hlt2]
          simp
        · rw [if_neg hij]
          cases hj : l[j]? with
          | none => rfl
          | some p =>
            simp only [Option.map_some]
            congr 1
            rw [if_neg]
            intro hp
            apply hij
            have hi1 : (l.map (·.1))[i]? = some k := by rw [List.getElem?_map, hi]; rfl
            have hj1 : (l.map (·.1))[j]? = some k := by rw [List.getElem?_map, hj]; simp [hp]
            have hlt : i < (l.map (·.1)).length := (List.getElem?_eq_some_iff.1 hi1).1
            exact (List.getElem?_inj hlt hn).1 (hi1.trans hj1.symm)
      have hes : (es.modify i fun e => { e with key := ek k, val := ev v }).toList = es.toList.set i { e with key := ek k, val := ev v } := by
        rw [Array.toList_modify]
        apply List.ext_getElem?
        intro j
        rw [List.getElem?_modify, List.getElem?_set]
        by_cases hij : i = j
        · subst hij
          have hlt2 : i < es.toList.length := (List.getElem?_eq_some_iff.1 he).1
          rw [he, if_pos rfl, if_pos hlt2]
          simp
        · simp [hij]
      refine ⟨_, _, World.putObj_heap_same hlt, ?_, ?_, ?_, ?_, ?_⟩
      · rw [hes, hput, List.map_set, List.map_set, hk]
      · rw [hes, hput, List.map_set, List.map_set, hv]
      · rw [put_keys, if_pos hin]; exact hn
      · rw [hes, List.map_set]
        have : (es.toList.map (·.born)).set i e.born = es.toList.map (·.born) := by
          apply set_self
          rw [List.getElem?_map, he]; rfl
        rw [this]; exact hb
      · intro x hx
        rw [hes] at hx
        rcases List.mem_or_eq_of_mem_set hx with hx | rfl
        · exact hc x hx
        · exact hc e (List.mem_of_getElem? he)

theorem map_erase {α β : Type} (f : α → β) : ∀ (l : List α) (i : Nat), (l.eraseIdx i).map f = (l.map f).eraseIdx i
  | [], _ => rfl
  | _ :: _, 0 => rfl
  | x :: l, i + 1 => by simp [map_erase f l i]

theorem filter_erase [DecidableEq κ] {k : κ} {v : ν} : ∀ {l : List (κ × ν)} {i : Nat}, (l.map (·.1)).Nodup → l[i]? = some (k, v) → l.filter (fun p => decide (p.1 ≠ k)) = l.eraseIdx i
  | [], i, _, h => by simp at h
  | p :: l, 0, hn, h => by
    simp only [List.getElem?_cons_zero, Option.some.injEq] at h
    subst h
    simp only [List.map_cons, List.nodup_cons] at hn
    rw [List.filter_cons_of_neg (by simp), List.eraseIdx_cons_zero, List.filter_eq_self]
    intro q hq
    simp only [ne_eq, decide_not, Bool.not_eq_eq_eq_not, Bool.not_true, decide_eq_false_iff_not]
    intro e
    exact hn.1 (List.mem_map.2 ⟨q, hq, e⟩)
  | p :: l, i + 1, hn, h => by
    simp only [List.getElem?_cons_succ] at h
    simp only [List.map_cons, List.nodup_cons] at hn
    have hpk : p.1 ≠ k := by
      intro e
      exact hn.1 (List.mem_map.2 ⟨_, List.mem_of_getElem? h, e.symm⟩)
    rw [List.filter_cons_of_pos (by simpa using hpk), List.eraseIdx_cons_succ, filter_erase hn.2 h]

theorem MapIs.del [DecidableEq κ] {kt t et : TypeId} (K : KeyOps P kt ek) (ht : P.underlying t = some (.map kt et)) (h : MapIs ek ev w m l) (k : κ) (at0 : TypeId) (ty : TypeId) :
    ∃ o, (Builtin.delete_ #[t, at0] ty #[.map (some m), ek k]).run P w = .ok (.tuple #[]) (w.putObj m o) ∧ MapIs ek ev (w.putObj m o) m (l.filter (fun p => decide (p.1 ≠ k))) := by
  have hlt := h.lt
  obtain ⟨es, c, hm, hk, hv, hn, hb, hc⟩ := h
  obtain ⟨es', c', hm', hfind⟩ := MapIs.find K (⟨es, c, hm, hk, hv, hn, hb, hc⟩ : MapIs ek ev w m l) k
  rw [hm] at hm'
  cases hm'
  rcases hfind with ⟨hnone, hr⟩ | ⟨v0, i, e, hf, hi, he, hek, hev, hr⟩
  · refine ⟨.map es c, ?_, ?_⟩
    · simp [Builtin.delete_, Sem.run_bind, run_underlying ht, Result.andThen, run_getObj_map hm, K.check, hr, run_setObj _ (.map es c) _ hm]
    · have hfil : l.filter (fun p => decide (p.1 ≠ k)) = l := by
        rw [List.filter_eq_self]
        intro p hp
        have := List.find?_eq_none.1 hnone p hp
        simpa using this
      rw [hfil]
      exact ⟨_, _, World.putObj_heap_same hlt, hk, hv, hn, hb, hc⟩
  · refine ⟨.map (es.eraseIdxIfInBounds i) c, ?_, ?_⟩
    · obtain ⟨i', e', hr', rfl, rfl⟩ := hr w
      simp [Builtin.delete_, Sem.run_bind, run_underlying ht, Result.andThen, run_getObj_map hm, K.check, hr', run_setObj _ (.map (es.eraseIdxIfInBounds i') c) _ hm]
    · have hfil : l.filter (fun p => decide (p.1 ≠ k)) = l.eraseIdx i := by
        exact filter_erase hn hi
      have hes : (es.eraseIdxIfInBounds i).toList = es.toList.eraseIdx i := by
        unfold Array.eraseIdxIfInBounds
        split
        · simp
        · rename_i h
          rw [List.eraseIdx_of_length_le]
          simpa using h
      have hsub : (es.toList.eraseIdx i).Sublist es.toList := List.eraseIdx_sublist _ _
      refine ⟨_, _, World.putObj_heap_same hlt, ?_, ?_, ?_, ?_, ?_⟩
      · rw [hes, hfil, map_erase, map_erase, hk]
      · rw [hes, hfil, map_erase, map_erase, hv]
      · exact hn.sublist ((List.filter_sublist).map _)
      · rw [hes]; exact hb.sublist (hsub.map _)
      · intro x hx
        rw [hes] at hx
        exact hc x (hsub.subset hx)

theorem MapIs.len {kt t et : TypeId} (ht : P.underlying t = some (.map kt et)) (h : MapIs ek ev w m l) (ty : TypeId) :
    (Builtin.len_ #[t] ty #[.map (some m)]).run P w = .ok (.int .i64 l.length) w := by
  obtain ⟨es, c, hm, hk, hv, hn, hb, hc⟩ := h
  have : es.size = l.length := by
    have := congrArg List.length hk
    simpa using this
  simp [Builtin.len_, Sem.run_bind, run_underlying ht, Result.andThen, run_getObj_map hm, this, goInt]

end
end Go.Proofs.YtaaaifeommdblaaDoor

namespace Go.Proofs.YtaaaifeommdblaaDoor
open Go.RowKit

section
variable {P : Program} {κ ν : Type} {ek : κ → Value} {ev : ν → Value} {w : World} {r m : Nat} {l left : List (κ × ν)}

/-- Which pairs are still to come. -/
def toCome (es : List MapEntry) (seen : Array Nat) (l : List (κ × ν)) : List (κ × ν) := ((es.zip l).filter (fun x => !seen.contains x.1.born)).map (·.2)

/-- Block r is an iterator over the map in block m, which holds l; left is still to come. -/
def Ranges (ek : κ → Value) (ev : ν → Value) (w : World) (r m : Nat) (l left : List (κ × ν)) : Prop :=
  ∃ es clock since seen c0, w.heap[m]? = some (.map es clock) ∧ w.heap[r]? = some (.mapIter (some m) since seen c0) ∧ (∀ x ∈ es.toList, x.born < since) ∧ since ≤ c0 ∧ since ≤ clock ∧
    es.toList.map (·.key) = l.map (fun p => ek p.1) ∧ es.toList.map (·.val) = l.map (fun p => ev p.2) ∧ (es.toList.map (·.born)).Nodup ∧ toCome es.toList seen l = left

theorem Ranges.same {w' : World} (h : Ranges ek ev w r m l left) (h1 : w'.heap[m]? = w.heap[m]?) (h2 : w'.heap[r]? = w.heap[r]?) : Ranges ek ev w' r m l left := by
  obtain ⟨es, c, s, n, c0, a, b, rest⟩ := h
  exact ⟨es, c, s, n, c0, h1.trans a, h2.trans b, rest⟩
theorem Ranges.lt (h : Ranges ek ev w r m l left) : r < w.heap.size ∧ m < w.heap.size := by
  obtain ⟨es, c, s, n, c0, a, b, _⟩ := h
  exact ⟨(Array.getElem?_eq_some_iff.1 b).1, (Array.getElem?_eq_some_iff.1 a).1⟩
theorem Ranges.ne_own (h : Ranges ek ev w r m l left) {base : Nat} {e : TypeId} {size : Nat} {v : Value} {n : Nat} {xs : List Value} (ho : w.ownsRow base e size v n xs) : v.ownBlock ≠ some r ∧ v.ownBlock ≠ some m := by
  obtain ⟨es, c, s, n, c0, a, b, _⟩ := h
  refine ⟨fun hv => ?_, fun hv => ?_⟩
  · obtain ⟨cs, t, f, hb⟩ := owns_block ho _ hv
    rw [b] at hb; cases hb
  · obtain ⟨cs, t, f, hb⟩ := owns_block ho _ hv
    rw [a] at hb; cases hb
theorem Ranges.grown {w' : World} {row : Option Nat} (h : Ranges ek ev w r m l left) (hg : w.grownBy w' row) (h1 : row ≠ some r) (h2 : row ≠ some m) : Ranges ek ev w' r m l left :=
  h.same (hg.block _ h.lt.2 (Ne.symm h2)) (hg.block _ h.lt.1 (Ne.symm h1))
theorem Ranges.below {w' : World} (h : Ranges ek ev w r m l left) (hb : Below w.heap.size w w') : Ranges ek ev w' r m l left := h.same (hb.block _ h.lt.2) (hb.block _ h.lt.1)

theorem MapIs.range {kt t et : TypeId} (ht : P.underlying t = some (.map kt et)) (h : MapIs ek ev w m l) :
    ∃ o, (Instr.range t (.map (some m))).run P w = .ok (.pointer (some ⟨w.heap.size, 0, none⟩)) (w.alloc o) ∧ Ranges ek ev (w.alloc o) w.heap.size m l l := by
  have hlt := h.lt
  obtain ⟨es, c, hm, hk, hv, hn, hb, hc⟩ := h
  refine ⟨.mapIter (some m) c #[] c, ?_, es, c, c, #[], c, (Below.heap_alloc _ _ _ hlt).trans hm, heap_new _ _, hc, Nat.le_refl _, Nat.le_refl _, hk, hv, hb, ?_⟩
  · simp [Instr.range, Sem.run_bind, run_underlying ht, Result.andThen, run_getObj_map hm, newObj, Sem.run, World.alloc_eq]
  · have hlen : es.toList.length = l.length := by
      have := congrArg List.length hk
      simpa using this
    unfold toCome
    rw [List.filter_eq_self.2 (by simp)]
    rw [List.map_snd_zip]
    omega

theorem zip_mem {es : List MapEntry} {e : MapEntry} {i : Nat} (hk : es.map (·.key) = l.map (fun p => ek p.1)) (hv : es.map (·.val) = l.map (fun p => ev p.2)) (hi : es[i]? = some e) :
    ∃ p, l[i]? = some p ∧ e.key = ek p.1 ∧ e.val = ev p.2 := by
  have h1 := congrArg (fun z => z[i]?) hk
  have h2 := congrArg (fun z => z[i]?) hv
  simp only [List.getElem?_map, hi, Option.map_some] at h1 h2
  cases hl : l[i]? with
  | none => rw [hl] at h1; simp at h1
  | some p =>
    rw [hl] at h1 h2
    simp at h1 h2
    exact ⟨p, rfl, h1, h2⟩

theorem come_split {seen : Array Nat} {e : MapEntry} : ∀ {es : List MapEntry} {l : List (κ × ν)} {i : Nat} {p : κ × ν}, (es.map (·.born)).Nodup → es[i]? = some e → l[i]? = some p → seen.contains e.born = false →
    ∃ a b, toCome es seen l = a ++ p :: b ∧ toCome es (seen.push e.born) l = a ++ b
  | [], l, i, p, _, he, _, _ => by simp at he
  | e0 :: es, [], i, p, _, _, hl, _ => by simp at hl
  | e0 :: es, p0 :: l, 0, p, hn, he, hl, hs => by
    simp only [List.getElem?_cons_zero, Option.some.injEq] at he hl
    subst he hl
    simp only [List.map_cons, List.nodup_cons] at hn
    refine ⟨[], toCome es seen l, ?_, ?_⟩
    · unfold toCome
      rw [List.zip_cons_cons, List.filter_cons_of_pos (by simpa using hs)]
      rfl
    · unfold toCome
      rw [List.zip_cons_cons, List.filter_cons_of_neg (by simp)]
      simp only [List.nil_append]
      congr 1
      apply List.filter_congr
      intro x hx
      have hxm : x.1 ∈ es := (List.of_mem_zip hx).1
      have hne : x.1.born ≠ e0.born := fun h => hn.1 (List.mem_map.2 ⟨x.1, hxm, h⟩)
      congr 1
      rw [Bool.eq_iff_iff]
      simp [hne]
  | e0 :: es, p0 :: l, i + 1, p, hn, he, hl, hs => by
    simp only [List.getElem?_cons_succ] at he hl
    simp only [List.map_cons, List.nodup_cons] at hn
    obtain ⟨a, b, h1, h2⟩ := come_split (es := es) (l := l) hn.2 he hl hs
    have hne : e0.born ≠ e.born := fun h => hn.1 (List.mem_map.2 ⟨e, List.mem_of_getElem? he, h.symm⟩)
    unfold toCome at *
    rw [List.zip_cons_cons, List.filter_cons, List.filter_cons]
    have hc : (seen.push e.born).contains e0.born = seen.contains e0.born := by
      rw [Bool.eq_iff_iff]; simp [hne]
    simp only [hc]
    cases seen.contains e0.born
    · refine ⟨p0 :: a, b, ?_, ?_⟩
      · show p0 :: List.map _ _ = _
        rw [h1]; rfl
      · show p0 :: List.map _ _ = _
        rw [h2]; rfl
    · exact ⟨a, b, h1, h2⟩

theorem come_none {seen : Array Nat} : ∀ {es : List MapEntry} {l : List (κ × ν)}, (∀ e ∈ es, seen.contains e.born = true) → toCome es seen l = []
  | [], l, _ => by simp [toCome]
  | e :: es, [], _ => by simp [toCome]
  | e :: es, p :: l, h => by
    unfold toCome
    rw [List.zip_cons_cons, List.filter_cons_of_neg (by have := h e (by simp); simpa using this)]
    exact come_none (fun x hx => h x (by simp [hx]))

/-- A step of a range. -/
theorem Ranges.next (h : Ranges ek ev w r m l left) (ty : TypeId) :
    (left = [] ∧ (Instr.next (.pointer (some ⟨r, 0, none⟩)) false ty).run P w = .ok (.tuple #[.bool false]) w) ∨
    ∃ a p b w', left = a ++ p :: b ∧ (Instr.next (.pointer (some ⟨r, 0, none⟩)) false ty).run P w = .ok (.tuple #[.bool true, ek p.1, ev p.2]) w' ∧ (Instr.entry (.pointer (some ⟨r, 0, none⟩))).run P w' = .ok (.tuple #[ek p.1, ev p.2]) w' ∧
      Ranges ek ev w' r m l (a ++ b) ∧ w.grownBy w' (some r) := by
  obtain ⟨es, c, s, seen, c0, hm, hr, hold, hsc, hsk, hk, hv, hn, hl⟩ := h
  have hrlt : r < w.heap.size := (Array.getElem?_eq_some_iff.1 hr).1
  have hrm : m ≠ r := by rintro rfl; rw [hm] at hr; cases hr
  rcases run_next_at (P := P) w ty r m s c0 seen es c hr hm hold hsc with ⟨h0, hrun⟩ | ⟨e, he, w1, hw1, hrun⟩
  · left
    refine ⟨?_, hrun⟩
    rw [← hl]
    apply come_none
    intro e he
    cases hs : seen.contains e.born
    · exfalso
      have : e ∈ (leftOf es seen) := by
        unfold leftOf
        rw [Array.mem_filter]
        exact ⟨by simpa using he, by rw [hs]; rfl⟩
      rw [Array.eq_empty_of_size_eq_zero h0] at this
      simp at this
    · rfl
  · right
    have he2 : e ∈ es.toList ∧ seen.contains e.born = false := by
      unfold leftOf at he
      simp at he
      refine ⟨by simpa using he.1, ?_⟩
      have := he.2
      simpa using this
    obtain ⟨i, hi⟩ := List.getElem?_of_mem he2.1
    obtain ⟨p, hp, hpk, hpv⟩ := zip_mem hk hv hi
    obtain ⟨a, b, h1, h2⟩ := come_split (seen := seen) (e := e) (es := es.toList) (l := l) hn hi hp he2.2
    rw [hpk, hpv] at hrun
    have hw1h : w1.heap = w.heap := by rcases hw1 with rfl | rfl <;> rfl
    have hr' : (ChangeMaps.setBlock w1 r (.mapIter (some m) s (seen.push e.born) c)).heap[r]? = some (.mapIter (some m) s (seen.push e.born) c) := by
      simp [ChangeMaps.setBlock, hw1h, hrlt]
    have hm' : (ChangeMaps.setBlock w1 r (.mapIter (some m) s (seen.push e.born) c)).heap[m]? = some (.map es c) := by
      simp only [ChangeMaps.setBlock, hw1h]
      rw [Array.getElem?_setIfInBounds_ne (Ne.symm hrm)]
      exact hm
    refine ⟨a, p, b, _, by rw [← hl]; exact h1, hrun, ?_, ⟨es, c, s, _, c, hm', hr', hold, hsk, hsk, hk, hv, hn, h2⟩, ?_⟩
    · have := run_entry_at (P := P) _ r m s seen es c e hr' hm' he2.1 hn
      rw [hpk, hpv] at this
      exact this
    · have hg : w.grownBy w1 (some r) := by
        rcases hw1 with rfl | rfl
        · exact ⟨rfl, rfl, rfl, Nat.le_refl _, fun _ _ _ => rfl⟩
        · exact ⟨rfl, rfl, rfl, Nat.le_refl _, fun _ _ _ => rfl⟩
      refine ⟨hg.os, hg.tape, hg.output, ?_, fun k hk hne => ?_⟩
      · simp [ChangeMaps.setBlock, hw1h]
      · simp only [ChangeMaps.setBlock, hw1h]
        rw [Array.getElem?_setIfInBounds_ne (fun e => hne (by rw [e]))]

end
end Go.Proofs.YtaaaifeommdblaaDoor

namespace Go.Proofs.YtaaaifeommdblaaDoor
open Go.RowKit

section
variable {P : Program}

theorem beq_str (a b : ByteArray) : (a == b) = decide (a = b) := by
  cases a with | mk a =>
  cases b with | mk b =>
  have h : ((⟨a⟩ : ByteArray) == ⟨b⟩) = (a == b) := rfl
  rw [h]
  simp only [ByteArray.mk.injEq]
  rw [Bool.eq_iff_iff]; simp

theorem same_str (a b : ByteArray) : (Instr.sameNow .string (.string a) (.string b)) = some (decide (a = b)) := congrArg some (beq_str a b)

theorem check_string {kt : TypeId} (hk : P.underlying kt = some .string) (w : World) (em : Bool) (n : Nat) (s : ByteArray) : (Instr.checkKey em (n + 1) kt (.string s)).run P w = .ok () w := by
  unfold Instr.checkKey
  simp [Sem.run_bind, run_underlying hk, Result.andThen]

theorem str_keys {kt : TypeId} (hk : P.underlying kt = some .string) : KeyOps P kt (fun s : ByteArray => Value.string s) where
  inj a b h := by injection h
  check w em k := by
    rw [show (10000 : Nat) = 9999 + 1 from rfl]
    unfold Instr.checkKey
    simp [Sem.run_bind, run_underlying hk, Result.andThen]
  none w k es ks hes hn := by
    have h : ∀ (es : List MapEntry) (ks : List ByteArray) (i : Nat), es.map (·.key) = ks.map (fun s => Value.string s) → k ∉ ks → Instr.findNow .string (.string k) es i = some Option.none := by
      intro es
      induction es with
      | nil => intro ks i _ _; rfl
      | cons e es ih =>
        intro ks i he hn
        cases ks with
        | nil => simp at he
        | cons s ks =>
          simp only [List.map_cons, List.cons.injEq] at he
          simp only [List.mem_cons, not_or] at hn
          unfold Instr.findNow
          rw [he.1, same_str]
          rw [decide_eq_false hn.1]
          exact ih ks (i + 1) he.2 hn.2
    simp [Instr.findKey, Sem.run_bind, run_underlying hk, Result.andThen, h es ks 0 hes hn]
  some w k es ks hes hin := by
    have h : ∀ (es : List MapEntry) (ks : List ByteArray) (i : Nat), es.map (·.key) = ks.map (fun s => Value.string s) → k ∈ ks →
        ∃ j e, Instr.findNow .string (.string k) es i = some (Option.some (i + j, e.val)) ∧ es[j]? = some e ∧ ks[j]? = some k := by
      intro es
      induction es with
      | nil => intro ks i he hin; cases ks <;> simp at he hin
      | cons e es ih =>
        intro ks i he hin
        cases ks with
        | nil => simp at hin
        | cons s ks =>
          simp only [List.map_cons, List.cons.injEq] at he
          by_cases hs : k = s
          · subst hs
            refine ⟨0, e, ?_, rfl, rfl⟩
            unfold Instr.findNow
            rw [he.1, same_str]
            simp
          · have hin' : k ∈ ks := by simpa [hs] using hin
            obtain ⟨j, e', h1, h2, h3⟩ := ih ks (i + 1) he.2 hin'
            refine ⟨j + 1, e', ?_, by simpa using h2, by simpa using h3⟩
            unfold Instr.findNow
            rw [he.1, same_str]
            rw [decide_eq_false hs]
            simp only
            rw [h1]
            congr 3
            omega
    obtain ⟨j, e, h1, h2, h3⟩ := h es ks 0 hes hin
    refine ⟨j, e, ?_, h2, h3⟩
    simp [Instr.findKey, Sem.run_bind, run_underlying hk, Result.andThen, h1]
  stays w k := by
    have : Instr.sameBits 10000 (.string k) (.string k) = true := by
      unfold Instr.sameBits
      rw [beq_str]; simp
    simp [Instr.keyThatStays, this]

/-- Keys whose sameness is asked of the type: structs. -/
theorem agg_keys {κ : Type} [DecidableEq κ] {kt : TypeId} {d : TypeDesc} {ek : κ → Value} (hk : P.underlying kt = some d) (hinj : ∀ a b, ek a = ek b → a = b)
    (hnow : ∀ a b, Instr.sameNow d (ek a) (ek b) = none) (hcheck : ∀ w em k, (Instr.checkKey em 10000 kt (ek k)).run P w = .ok () w)
    (heq : ∀ w a b, (Op.equal kt (ek a) (ek b)).run P w = .ok (decide (a = b)) w) (hstay : ∀ n k, Instr.sameBits (n + 1) (ek k) (ek k) = true) : KeyOps P kt ek where
  inj := hinj
  check := hcheck
  none w k es ks hes hn := by
    have h : ∀ (es : List MapEntry) (ks : List κ) (i : Nat), es.map (·.key) = ks.map ek → k ∉ ks → (Instr.findAsking kt (ek k) es i).run P w = .ok Option.none w := by
      intro es
      induction es with
      | nil => intro ks i _ _; rfl
      | cons e es ih =>
        intro ks i he hn
        cases ks with
        | nil => simp at he
        | cons s ks =>
          simp only [List.map_cons, List.cons.injEq] at he
          simp only [List.mem_cons, not_or] at hn
          unfold Instr.findAsking
          rw [he.1]
          simp [Sem.run_bind, heq, Result.andThen, hn.1, ih ks (i + 1) he.2 hn.2]
    cases es with
    | nil => simp [Instr.findKey, run_underlying hk, Result.andThen, Instr.findNow]
    | cons e es =>
      cases ks with
      | nil => simp at hes
      | cons s ks =>
        have hf : Instr.findNow d (ek k) (e :: es) 0 = none := by
          simp only [List.map_cons, List.cons.injEq] at hes
          unfold Instr.findNow; rw [hes.1, hnow]
        simp [Instr.findKey, Sem.run_bind, run_underlying hk, Result.andThen, hf, h (e :: es) (s :: ks) 0 hes hn]
  some w k es ks hes hin := by
    have h : ∀ (es : List MapEntry) (ks : List κ) (i : Nat), es.map (·.key) = ks.map ek → k ∈ ks →
        ∃ j e, (Instr.findAsking kt (ek k) es i).run P w = .ok (Option.some (i + j, e.val)) w ∧ es[j]? = some e ∧ ks[j]? = some k := by
      intro es
      induction es with
      | nil => intro ks i he hin; cases ks <;> simp at he hin
      | cons e es ih =>
        intro ks i he hin
        cases ks with
        | nil => simp at hin
        | cons s ks =>
          simp only [List.map_cons, List.cons.injEq] at he
          by_cases hs : k = s
          · subst hs
            refine ⟨0, e, ?_, rfl, rfl⟩
            unfold Instr.findAsking
            rw [he.1]
            simp [Sem.run_bind, heq, Result.andThen]
          · have hin' : k ∈ ks := by simpa [hs] using hin
            obtain ⟨j, e', h1, h2, h3⟩ := ih ks (i + 1) he.2 hin'
            refine ⟨j + 1, e', ?_, by simpa using h2, by simpa using h3⟩
            unfold Instr.findAsking
            rw [he.1]
            simp [Sem.run_bind, heq, Result.andThen, hs, h1]
            omega
    cases es with
    | nil => cases ks <;> simp at hes hin
    | cons e es =>
      cases ks with
      | nil => simp at hin
      | cons s ks =>
        have hf : Instr.findNow d (ek k) (e :: es) 0 = none := by
          have hes' := hes
          simp only [List.map_cons, List.cons.injEq] at hes'
          unfold Instr.findNow; rw [hes'.1, hnow]
        obtain ⟨j, e', h1, h2, h3⟩ := h (e :: es) (s :: ks) 0 hes hin
        refine ⟨j, e', ?_, h2, h3⟩
        simp [Instr.findKey, Sem.run_bind, run_underlying hk, Result.andThen, hf, h1]
  stays w k := by
    have h := hstay 9999 k
    simp only [Nat.reduceAdd] at h
    simp only [Instr.keyThatStays, h, if_true]
    rfl

end
end Go.Proofs.YtaaaifeommdblaaDoor

namespace Go.Proofs.YtaaaifeommdblaaDoor
open Go.RowKit Go.Proofs.YtaaaifeommdblaaDoorW.PrintWords

def keyV (k : ByteArray × ByteArray) : Value := .agg #[.string k.1, .string k.2]
def entV (e : Int × Int) : Value := .agg #[.int .i64 e.1, .int .i64 e.2]

theorem eqKey (d : Nat) (w : World) (x0 y0 x1 y1 : ByteArray) :
    (Op.equalIn (d + 2) 86 (.agg #[.string x0, .string x1]) (.agg #[.string y0, .string y1])).run Tryd.prog w = .ok (x0.toList == y0.toList && (x1.toList == y1.toList)) w := by
  refine eqA_of Tryd.underlying86 (by kernel_rfl) ?_
  refine eqf_cons (by rfl) (by go_simp; rfl) (by go_simp; rfl) (by go_simp) ?_
  exact eqf_last (by rfl) (by go_simp; rfl) (by go_simp; rfl) (by go_simp)

theorem str_eq_iff {a b : ByteArray} : (a.toList == b.toList) = decide (a = b) := by
  rw [Bool.eq_iff_iff]
  simp only [beq_iff_eq, decide_eq_true_eq]
  rw [Lib.toList_data, Lib.toList_data]
  constructor
  · intro h
    cases a; cases b; simp at h; rw [h]
  · rintro rfl; rfl

theorem sameBits_pair (n : Nat) (a b : ByteArray) : Instr.sameBits (n + 1) (keyV (a, b)) (keyV (a, b)) = true := by
  simp [Instr.sameBits, keyV, beq_str]

theorem subKeys : KeyOps Tryd.prog 86 keyV := by
  refine agg_keys Tryd.underlying86 ?_ (fun _ _ => rfl) ?_ ?_ ?_
  · rintro ⟨a, b⟩ ⟨c, d⟩ h
    simp [keyV] at h
    simp [h]
  · rintro w em ⟨a, b⟩
    rw [show (10000 : Nat) = 9998 + 1 + 1 from rfl]
    unfold Instr.checkKey keyV
    have p0 : Sem.run Tryd.prog (part 9 #[Value.string a, Value.string b] 0) w = .ok (.string a) w := by go_simp
    have p1 : Sem.run Tryd.prog (part 9 #[Value.string a, Value.string b] 1) w = .ok (.string b) w := by go_simp
    simp [Sem.run_bind, run_underlying Tryd.underlying86, Result.andThen, p0, p1, check_string Tryd.underlying9 w em 9998]
  · rintro w ⟨a, b⟩ ⟨c, d⟩
    have h := eqKey 9998 w a c b d
    have h2 : (Op.equal 86 (keyV (a, b)) (keyV (c, d))).run Tryd.prog w = .ok (a.toList == c.toList && (b.toList == d.toList)) w := h
    have e : (decide (a = c) && decide (b = d)) = decide ((a, b) = (c, d)) := by rw [Bool.eq_iff_iff]; simp
    rw [h2, str_eq_iff, str_eq_iff, e]
  · rintro n ⟨a, b⟩
    exact sameBits_pair n a b

theorem strKeys : KeyOps Tryd.prog 9 (fun s : ByteArray => Value.string s) := str_keys Tryd.underlying9

theorem zeroEnt (w : World) : (zeroValue 88).run Tryd.prog w = .ok (entV (0, 0)) w := by kernel_rfl
theorem zeroInt (w : World) : (zeroValue 3).run Tryd.prog w = .ok (.int .i64 0) w := by kernel_rfl

end Go.Proofs.YtaaaifeommdblaaDoor

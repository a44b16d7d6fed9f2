/- Maps as lists of keys and values: what a look-up, a store, a delete, a length come to. -/
import Derived.Test.YtaaaifeommdblaaDoorGlob
import Derived.RangeFuncOwn
namespace Go.Proofs.YtaaaifeommdblaaDoor
open Go.RowKit

section
variable {P : Program} {κ ν : Type}

/-- What the laws lean on of a key's type. -/
structure KeyOps (P : Program) (kt : TypeId) (ek : κ → Value) : Prop where
  inj : ∀ a b, ek a = ek b → a = b
  check : ∀ w em k, (Instr.checkKey em 10000 kt (ek k)).run P w = .ok () w
  none : ∀ w k (es : List MapEntry) (ks : List κ), es.map (·.key) = ks.map ek → k ∉ ks → (Instr.findKey kt (ek k) es).run P w = .ok none w
  some : ∀ w k (es : List MapEntry) (ks : List κ), es.map (·.key) = ks.map ek → k ∈ ks → ∃ i e, (Instr.findKey kt (ek k) es).run P w = .ok (some (i, e.val)) w ∧ es[i]? = some e ∧ ks[i]? = some k
  stays : ∀ w k, (Instr.keyThatStays (ek k) (ek k)).run P w = .ok (ek k) w

/-- Block m is a map that holds the pairs of l. -/
def MapIs (ek : κ → Value) (ev : ν → Value) (w : World) (m : Nat) (l : List (κ × ν)) : Prop :=
  ∃ es clock, w.heap[m]? = some (.map es clock) ∧ es.toList.map (·.key) = l.map (fun p => ek p.1) ∧ es.toList.map (·.val) = l.map (fun p => ev p.2) ∧
    (l.map (·.1)).Nodup ∧ (es.toList.map (·.born)).Nodup ∧ ∀ e ∈ es.toList, e.born < clock

variable {ek : κ → Value} {ev : ν → Value} {w : World} {m : Nat} {l : List (κ × ν)}

theorem MapIs.lt (h : MapIs ek ev w m l) : m < w.heap.size := by
  obtain ⟨es, c, h, _⟩ := h
  exact (Array.getElem?_eq_some_iff.1 h).1
theorem MapIs.same {w' : World} (h : MapIs ek ev w m l) (he : w'.heap[m]? = w.heap[m]?) : MapIs ek ev w' m l := by
  obtain ⟨es, c, h, r⟩ := h
  exact ⟨es, c, he.trans h, r⟩
theorem MapIs.below {w' : World} (h : MapIs ek ev w m l) (hb : Below w.heap.size w w') : MapIs ek ev w' m l := h.same (hb.block _ h.lt)
theorem MapIs.nodup (h : MapIs ek ev w m l) : (l.map (·.1)).Nodup := by
  obtain ⟨_, _, _, _, _, h, _⟩ := h; exact h
theorem MapIs.setCell (h : MapIs ek ev w m l) (p : Addr) (v : Value) : MapIs ek ev (w.setCell p v) m l := by
  obtain ⟨es, c, h, r⟩ := h
  refine ⟨es, c, ?_, r⟩
  by_cases e : m = p.block
  · subst e; simp [World.setCell, Array.getElem?_modify, h]
  · exact (Below.heap_setCell w p v m e).trans h

theorem MapIs.made (ek : κ → Value) (ev : ν → Value) (w : World) : MapIs ek ev (w.alloc (.map #[] 0)) w.heap.size [] :=
  ⟨#[], 0, heap_new w _, rfl, rfl, by simp, by simp, by simp⟩

theorem run_getObj_map {es : Array MapEntry} {c : Nat} (h : w.heap[m]? = some (.map es c)) : (getObj m).run P w = .ok (.map es c) w := by
  simp [getObj, Sem.run, h]

/-- What is found at a key. -/
theorem MapIs.find [DecidableEq κ] {kt : TypeId} (K : KeyOps P kt ek) (h : MapIs ek ev w m l) (k : κ) :
    ∃ es c, w.heap[m]? = some (.map es c) ∧ ((l.find? (fun p => p.1 = k) = none ∧ ∀ w', (Instr.findKey kt (ek k) es.toList).run P w' = .ok none w') ∨
      ∃ v i e, l.find? (fun p => p.1 = k) = some (k, v) ∧ l[i]? = some (k, v) ∧ es.toList[i]? = some e ∧ e.key = ek k ∧ e.val = ev v ∧ ∀ w', ∃ i' e', (Instr.findKey kt (ek k) es.toList).run P w' = .ok (some (i', e'.val)) w' ∧ i' = i ∧ e' = e) := by
  obtain ⟨es, c, hm, hk, hv, hn, hb, hc⟩ := h
  have hk' : es.toList.map (·.key) = (l.map (·.1)).map ek := by rw [hk, List.map_map]; rfl
  refine ⟨es, c, hm, ?_⟩
  by_cases hin : k ∈ l.map (·.1)
  · right
    obtain ⟨i, e, hr, he, hi⟩ := K.some w k es.toList _ hk' hin
    obtain ⟨p, hp, hpk⟩ : ∃ p, l[i]? = some p ∧ p.1 = k := by
      rw [List.getElem?_map] at hi
      cases h : l[i]? with
      | none => rw [h] at hi; simp at hi
      | some p => rw [h] at hi; simp at hi; exact ⟨p, rfl, hi⟩
    obtain ⟨k', v⟩ := p
    simp only at hpk
    subst hpk
    have hek : e.key = ek k' := by
      have := congrArg (fun z => z[i]?) hk'
      simp only [List.getElem?_map, he, hp, Option.map_some] at this
      exact Option.some.inj this
    have hev : e.val = ev v := by
      have := congrArg (fun z => z[i]?) hv
      simp only [List.getElem?_map, he, hp, Option.map_some] at this
      exact Option.some.inj this
    have hfind : l.find? (fun p => p.1 = k') = some (k', v) := by
      cases hf : l.find? (fun p => decide (p.1 = k')) with
      | none =>
        have := List.find?_eq_none.1 hf (k', v) (List.mem_of_getElem? hp)
        simp at this
      | some q =>
        have hq := List.find?_some hf
        simp at hq
        have hqm := List.mem_of_find?_eq_some hf
        obtain ⟨j, hj⟩ := List.getElem?_of_mem hqm
        have hij : i = j := by
          have hi1 : (l.map (·.1))[i]? = some k' := by rw [List.getElem?_map, hp]; rfl
          have hj1 : (l.map (·.1))[j]? = some k' := by rw [List.getElem?_map, hj]; simp [hq]
          have hlt : i < (l.map (·.1)).length := (List.getElem?_eq_some_iff.1 hi1).1
          exact (List.getElem?_inj hlt hn).1 (hi1.trans hj1.symm)
        subst hij
        rw [hp] at hj
        rw [← Option.some.inj hj]
    refine ⟨v, i, e, hfind, hp, he, hek, hev, fun w' => ?_⟩
    obtain ⟨i', e', hr', he', hi'⟩ := K.some w' k' es.toList _ hk' hin
    have hii : i' = i := by
      have hlt : i' < (l.map (·.1)).length := (List.getElem?_eq_some_iff.1 hi').1
      exact (List.getElem?_inj hlt hn).1 (hi'.trans hi.symm)
    subst hii
    rw [he] at he'
    exact ⟨i', e', hr', rfl, (Option.some.inj he').symm⟩
  · left
    refine ⟨?_, fun w' => K.none w' k es.toList _ hk' hin⟩
    rw [List.find?_eq_none]
    intro p hp
    simp only [decide_eq_true_eq]
    intro e
    exact hin (List.mem_map.2 ⟨p, hp, e⟩)

/-- The value at a key, or another. -/
def at_ [DecidableEq κ] (l : List (κ × ν)) (k : κ) : Option ν := (l.find? (fun p => p.1 = k)).map (·.2)

theorem at_mem [DecidableEq κ] {l : List (κ × ν)} (hn : (l.map (·.1)).Nodup) (k : κ) (v : ν) : (k, v) ∈ l ↔ at_ l k = some v := by
  induction l with
  | nil => simp [at_]
  | cons p l ih =>
    obtain ⟨k', v'⟩ := p
    simp only [List.map_cons, List.nodup_cons] at hn
    unfold at_ at *
    rw [List.find?_cons]
    by_cases hk : k' = k
    · subst hk
      simp only [List.mem_cons, Prod.mk.injEq, true_and, decide_true, Option.map_some, Option.some.injEq]
      constructor
      · rintro (rfl | h)
        · rfl
        · exact absurd (List.mem_map.2 ⟨_, h, rfl⟩) hn.1
      · rintro rfl; exact Or.inl rfl
    · simp only [List.mem_cons, Prod.mk.injEq, hk, decide_false]
      rw [← ih hn.2]
      constructor
      · rintro (⟨rfl, _⟩ | h)
        · exact absurd rfl hk
        · exact h
      · exact Or.inr

theorem MapIs.look [DecidableEq κ] {kt t et : TypeId} (K : KeyOps P kt ek) (ht : P.underlying t = some (.map kt et)) (z : Value) (hz : ∀ w, (zeroValue et).run P w = .ok z w) (h : MapIs ek ev w m l) (k : κ) (ok : Bool) :
    (Instr.lookup t (.map (some m)) (ek k) ok).run P w = .ok (if ok then .tuple #[((at_ l k).map ev).getD z, .bool (at_ l k).isSome] else ((at_ l k).map ev).getD z) w := by
  obtain ⟨es, c, hm, hfind⟩ := h.find K k
  rcases hfind with ⟨hn, hr⟩ | ⟨v, i, e, hf, hi, he, hek, hev, hr⟩
  · simp only [Instr.lookup, Sem.run_bind, run_underlying ht, Result.andThen, run_getObj_map hm, Sem.run_pure, K.check, hr, hz, at_, hn, Option.map_none, Option.getD_none, Option.isSome_none]
  · obtain ⟨i', e', hr', rfl, rfl⟩ := hr w
    simp only [Instr.lookup, Sem.run_bind, run_underlying ht, Result.andThen, run_getObj_map hm, Sem.run_pure, K.check, hr', hev, at_, hf, Option.map_some, Option.getD_some, Option.isSome_some]

theorem set_self {α : Type} {l : List α} {i : Nat} {x : α} (h : l[i]? = some x) : l.set i x = l := by
  apply List.ext_getElem?
  intro j
  rw [List.getElem?_set]
  split
  · rename_i e; subst e
    have hlt : i < l.length := (List.getElem?_eq_some_iff.1 h).1
    rw [if_pos hlt, h]
  · rfl

/-- The list behind a store. -/
def put_ [DecidableEq κ] (l : List (κ × ν)) (k : κ) (v : ν) : List (κ × ν) := if k ∈ l.map (·.1) then l.map (fun p => if p.1 = k then (k, v) else p) else l ++ [(k, v)]

theorem run_setObj (b : Nat) (o : Obj) (w : World) {es : Array MapEntry} {c : Nat} (hb : w.heap[b]? = some (.map es c)) : (setObj b o).run P w = .ok () (w.putObj b o) := by
  simp [setObj, Sem.run, World.putObj, hb]

theorem put_keys [DecidableEq κ] (l : List (κ × ν)) (k : κ) (v : ν) : (put_ l k v).map (·.1) = if k ∈ l.map (·.1) then l.map (·.1) else l.map (·.1) ++ [k] := by
  unfold put_
  split
  · rw [List.map_map]
    apply List.map_congr_left
    intro p _
    simp only [Function.comp]
    split
    · rename_i h; exact h.symm
    · rfl
  · simp

theorem MapIs.put [DecidableEq κ] {kt t et : TypeId} (K : KeyOps P kt ek) (ht : P.underlying t = some (.map kt et)) (h : MapIs ek ev w m l) (k : κ) (v : ν) :
    ∃ o, (Instr.mapUpdate t (.map (some m)) (ek k) (ev v)).run P w = .ok () (w.putObj m o) ∧ MapIs ek ev (w.putObj m o) m (put_ l k v) := by
  have hlt := h.lt
  obtain ⟨es, c, hm, hk, hv, hn, hb, hc⟩ := h
  obtain ⟨es', c', hm', hfind⟩ := MapIs.find K (⟨es, c, hm, hk, hv, hn, hb, hc⟩ : MapIs ek ev w m l) k
  rw [hm] at hm'
  cases hm'
  rcases hfind with ⟨hnone, hr⟩ | ⟨v0, i, e, hf, hi, he, hek, hev, hr⟩
  · refine ⟨.map (es.push { key := ek k, val := ev v, born := c }) (c + 1), ?_, ?_⟩
    · simp only [Instr.mapUpdate, Sem.run_bind, run_underlying ht, Result.andThen, run_getObj_map hm, K.check, hr]
      exact run_setObj _ _ _ hm
    · have hnin : k ∉ l.map (·.1) := by
        intro hin
        obtain ⟨p, hp, hpk⟩ := List.mem_map.1 hin
        have := List.find?_eq_none.1 hnone p hp
        simp [hpk] at this
      refine ⟨_, _, World.putObj_heap_same hlt, ?_, ?_, ?_, ?_, ?_⟩
      · simp [put_, hnin, hk]
      · simp [put_, hnin, hv]
      · rw [put_keys, if_neg hnin]
        rw [List.nodup_append]
        exact ⟨hn, by simp, fun a ha b hb => by simp at hb; subst hb; rintro rfl; exact hnin ha⟩
      · simp only [Array.toList_push, List.map_append, List.map_cons, List.map_nil]
        rw [List.nodup_append]
        refine ⟨hb, by simp, fun a ha b hb2 => ?_⟩
        simp at hb2; subst hb2
        rintro rfl
        obtain ⟨x, hx, hxb⟩ := List.mem_map.1 ha
        have := hc x hx; omega
      · intro e he
        simp at he
        rcases he with he | rfl
        · have := hc e (by simpa using he); omega
        · simp
  · refine ⟨.map (es.modify i fun e => { e with key := ek k, val := ev v }) c, ?_, ?_⟩
    · obtain ⟨i', e', hr', rfl, rfl⟩ := hr w
      have hk2 : ((es[i']?).map (·.key)).getD (ek k) = ek k := by
        rw [← Array.getElem?_toList, he]; exact hek
      simp only [Instr.mapUpdate, Sem.run_bind, run_underlying ht, Result.andThen, run_getObj_map hm, K.check, hr', hk2, K.stays]
      exact run_setObj _ _ _ hm
    · have hin : k ∈ l.map (·.1) := List.mem_map.2 ⟨_, List.mem_of_getElem? hi, rfl⟩
      have hput : put_ l k v = l.set i (k, v) := by
        unfold put_
        rw [if_pos hin]
        apply List.ext_getElem?
        intro j
        rw [List.getElem?_map, List.getElem?_set]
        by_cases hij : i = j
        · subst hij
          have hlt2 : i < l.length := (List.getElem?_eq_some_iff.1 hi).1
          rw [hi, if_pos rfl, if_pos hlt2]
          simp
        · rw [if_neg hij]
          cases hj : l[j]? with
          | none => rfl
          | some p =>
            simp only [Option.map_some]
            congr 1
            rw [if_neg]
            intro hp
            apply hij
            have hi1 : (l.map (·.1))[i]? = some k := by rw [List.getElem?_map, hi]; rfl
            have hj1 : (l.map (·.1))[j]? = some k := by rw [List.getElem?_map, hj]; simp [hp]
            have hlt : i < (l.map (·.1)).length := (List.getElem?_eq_some_iff.1 hi1).1
            exact (List.getElem?_inj hlt hn).1 (hi1.trans hj1.symm)
      have hes : (es.modify i fun e => { e with key := ek k, val := ev v }).toList = es.toList.set i { e with key := ek k, val := ev v } := by
        rw [Array.toList_modify]
        apply List.ext_getElem?
        intro j
        rw [List.getElem?_modify, List.getElem?_set]
        by_cases hij : i = j
        · subst hij
          have hlt2 : i < es.toList.length := (List.getElem?_eq_some_iff.1 he).1
          rw [he, if_pos rfl, if_pos hlt2]
          simp
        · simp [hij]
      refine ⟨_, _, World.putObj_heap_same hlt, ?_, ?_, ?_, ?_, ?_⟩
      · rw [hes, hput, List.map_set, List.map_set, hk]
      · rw [hes, hput, List.map_set, List.map_set, hv]
      · rw [put_keys, if_pos hin]; exact hn
      · rw [hes, List.map_set]
        have : (es.toList.map (·.born)).set i e.born = es.toList.map (·.born) := by
          apply set_self
          rw [List.getElem?_map, he]; rfl
        rw [this]; exact hb
      · intro x hx
        rw [hes] at hx
        rcases List.mem_or_eq_of_mem_set hx with hx | rfl
        · exact hc x hx
        · exact hc e (List.mem_of_getElem? he)

theorem map_erase {α β : Type} (f : α → β) : ∀ (l : List α) (i : Nat), (l.eraseIdx i).map f = (l.map f).eraseIdx i
  | [], _ => rfl
  | _ :: _, 0 => rfl
  | x :: l, i + 1 => by simp [map_erase f l i]

theorem filter_erase [DecidableEq κ] {k : κ} {v : ν} : ∀ {l : List (κ × ν)} {i : Nat}, (l.map (·.1)).Nodup → l[i]? = some (k, v) → l.filter (fun p => decide (p.1 ≠ k)) = l.eraseIdx i
  | [], i, _, h => by simp at h
  | p :: l, 0, hn, h => by
    simp only [List.getElem?_cons_zero, Option.some.injEq] at h
    subst h
    simp only [List.map_cons, List.nodup_cons] at hn
    rw [List.filter_cons_of_neg (by simp), List.eraseIdx_cons_zero, List.filter_eq_self]
    intro q hq
    simp only [ne_eq, decide_not, Bool.not_eq_eq_eq_not, Bool.not_true, decide_eq_false_iff_not]
    intro e
    exact hn.1 (List.mem_map.2 ⟨q, hq, e⟩)
  | p :: l, i + 1, hn, h => by
    simp only [List.getElem?_cons_succ] at h
    simp only [List.map_cons, List.nodup_cons] at hn
    have hpk : p.1 ≠ k := by
      intro e
      exact hn.1 (List.mem_map.2 ⟨_, List.mem_of_getElem? h, e.symm⟩)
    rw [List.filter_cons_of_pos (by simpa using hpk), List.eraseIdx_cons_succ, filter_erase hn.2 h]

theorem MapIs.del [DecidableEq κ] {kt t et : TypeId} (K : KeyOps P kt ek) (ht : P.underlying t = some (.map kt et)) (h : MapIs ek ev w m l) (k : κ) (at0 : TypeId) (ty : TypeId) :
    ∃ o, (Builtin.delete_ #[t, at0] ty #[.map (some m), ek k]).run P w = .ok (.tuple #[]) (w.putObj m o) ∧ MapIs ek ev (w.putObj m o) m (l.filter (fun p => decide (p.1 ≠ k))) := by
  have hlt := h.lt
  obtain ⟨es, c, hm, hk, hv, hn, hb, hc⟩ := h
  obtain ⟨es', c', hm', hfind⟩ := MapIs.find K (⟨es, c, hm, hk, hv, hn, hb, hc⟩ : MapIs ek ev w m l) k
  rw [hm] at hm'
  cases hm'
  rcases hfind with ⟨hnone, hr⟩ | ⟨v0, i, e, hf, hi, he, hek, hev, hr⟩
  · refine ⟨.map es c, ?_, ?_⟩
    · simp [Builtin.delete_, Sem.run_bind, run_underlying ht, Result.andThen, run_getObj_map hm, K.check, hr, run_setObj _ (.map es c) _ hm]
    · have hfil : l.filter (fun p => decide (p.1 ≠ k)) = l := by
        rw [List.filter_eq_self]
        intro p hp
        have := List.find?_eq_none.1 hnone p hp
        simpa using this
      rw [hfil]
      exact ⟨_, _, World.putObj_heap_same hlt, hk, hv, hn, hb, hc⟩
  · refine ⟨.map (es.eraseIdxIfInBounds i) c, ?_, ?_⟩
    · obtain ⟨i', e', hr', rfl, rfl⟩ := hr w
      simp [Builtin.delete_, Sem.run_bind, run_underlying ht, Result.andThen, run_getObj_map hm, K.check, hr', run_setObj _ (.map (es.eraseIdxIfInBounds i') c) _ hm]
    · have hfil : l.filter (fun p => decide (p.1 ≠ k)) = l.eraseIdx i := by
        exact filter_erase hn hi
      have hes : (es.eraseIdxIfInBounds i).toList = es.toList.eraseIdx i := by
        unfold Array.eraseIdxIfInBounds
        split
        · simp
        · rename_i h
          rw [List.eraseIdx_of_length_le]
          simpa using h
      have hsub : (es.toList.eraseIdx i).Sublist es.toList := List.eraseIdx_sublist _ _
      refine ⟨_, _, World.putObj_heap_same hlt, ?_, ?_, ?_, ?_, ?_⟩
      · rw [hes, hfil, map_erase, map_erase, hk]
      · rw [hes, hfil, map_erase, map_erase, hv]
      · exact hn.sublist ((List.filter_sublist).map _)
      · rw [hes]; exact hb.sublist (hsub.map _)
      · intro x hx
        rw [hes] at hx
        exact hc x (hsub.subset hx)

theorem MapIs.len {kt t et : TypeId} (ht : P.underlying t = some (.map kt et)) (h : MapIs ek ev w m l) (ty : TypeId) :
    (Builtin.len_ #[t] ty #[.map (some m)]).run P w = .ok (.int .i64 l.length) w := by
  obtain ⟨es, c, hm, hk, hv, hn, hb, hc⟩ := h
  have : es.size = l.length := by
    have := congrArg List.length hk
    simpa using this
  simp [Builtin.len_, Sem.run_bind, run_underlying ht, Result.andThen, run_getObj_map hm, this, goInt]

end
end Go.Proofs.YtaaaifeommdblaaDoor

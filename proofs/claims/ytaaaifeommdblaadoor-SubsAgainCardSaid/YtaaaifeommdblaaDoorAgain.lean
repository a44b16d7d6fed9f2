/- basculelaw13.SubsAgain: the walk. -/
import Derived.Test.YtaaaifeommdblaaDoorOrderP
import Derived.Test.YtaaaifeommdblaaDoorRefF
import Derived.BigQuiet
namespace Go.Proofs.YtaaaifeommdblaaDoor
open Go.RowKit Go.Sort

/-- All calls but those of one key. -/
def others (c f : ByteArray) (ops : List OpR) : List OpR := ops.filter (fun o => !(decide (o.client = c) && decide (o.text = f)))
theorem adds_sub (ops : List OpR) : ∀ k ∈ (adds ops).1.map (·.1), k ∈ ops.map keyO := by
  obtain ⟨r, hr⟩ : ∃ r, r = ops.reverse := ⟨_, rfl⟩
  have : ops = r.reverse := by rw [hr, List.reverse_reverse]
  subst this
  clear hr
  induction r with
  | nil => intro k hk; simp [adds] at hk
  | cons o r ih =>
    rw [List.reverse_cons, adds_snoc]
    generalize adds r.reverse = s at *
    obtain ⟨l, n⟩ := s
    intro k hk
    rw [List.map_append, List.mem_append]
    have hput : ∀ e : Int × Int, k ∈ (put_ l (o.client, o.text) e).map (·.1) → k ∈ l.map (·.1) ∨ k = (o.client, o.text) := by
      intro e h
      unfold put_ at h
      split at h
      · obtain ⟨p, hp, rfl⟩ := List.mem_map.1 h
        obtain ⟨q, hq, rfl⟩ := List.mem_map.1 hp
        split
        · exact .inr rfl
        · exact .inl (List.mem_map.2 ⟨q, hq, rfl⟩)
      · rw [List.map_append, List.mem_append] at h
        rcases h with h | h
        · exact .inl h
        · simp at h; exact .inr h
    have hall : k ∈ l.map (·.1) ∨ k = (o.client, o.text) := by
      unfold addO addF at hk
      simp only at hk
      split at hk
      · exact .inl hk
      · split at hk
        · exact .inl hk
        · split at hk
          · exact hput _ hk
          · exact hput _ hk
    rcases hall with h | h
    · exact .inl (ih k h)
    · subst h; exact .inr (by simp [keyO])

theorem others_not (c f : ByteArray) (ops : List OpR) : (c, f) ∉ (adds (others c f ops)).1.map (·.1) := by
  intro h
  have := adds_sub _ _ h
  obtain ⟨o, ho, he⟩ := List.mem_map.1 this
  unfold others at ho
  have h2 := (List.mem_filter.1 ho).2
  unfold keyO at he
  have h3 := Prod.mk.inj he
  simp [h3.1, h3.2] at h2

theorem add_new {l : SubL} {n : Int} {c f : ByteArray} {a : Int} (hf : filterF f = true) (ha : 0 ≤ a ∧ a ≤ 2) (hno : (c, f) ∉ l.map (·.1)) : addF l n c f a = ((false, 0), (l ++ [((c, f), (a, n + 1))], n + 1)) := by
  unfold addF
  rw [if_neg (by simp [hf]), if_neg (by omega), at_none_of hno]
  simp only [put_, if_neg hno]
theorem add_old {l : SubL} {n m : Int} {c f : ByteArray} {a b : Int} (hf : filterF f = true) (hb : 0 ≤ b ∧ b ≤ 2) (hno : (c, f) ∉ l.map (·.1)) : addF (l ++ [((c, f), (a, m))]) n c f b = ((true, 0), (l ++ [((c, f), (b, m))], n)) := by
  unfold addF
  have hat : at_ (l ++ [((c, f), (a, m))]) (c, f) = some (a, m) := by
    rw [at_append l ((c, f), (a, m)) (c, f) hno]; simp
  have hin : (c, f) ∈ (l ++ [((c, f), (a, m))]).map (·.1) := by simp
  rw [if_neg (by simp [hf]), if_neg (by omega), hat]
  simp only [put_, if_pos hin]
  rw [List.map_append]
  have hl : l.map (fun p => if p.1 = (c, f) then (((c, f) : ByteArray × ByteArray), (b, m)) else p) = l := by
    conv => rhs; rw [← List.map_id l]
    apply List.map_congr_left
    intro p hp
    rw [if_neg (fun e => hno (List.mem_map.2 ⟨p, hp, e⟩))]; rfl
  rw [hl]
  simp
theorem drop_old {l : SubL} {n m : Int} {c f : ByteArray} {b : Int} (hf : filterF f = true) (hno : (c, f) ∉ l.map (·.1)) : dropF (l ++ [((c, f), (b, m))]) n c f = ((true, 0), (l, n)) := by
  have hat : at_ (l ++ [((c, f), (b, m))]) (c, f) = some (b, m) := by
    rw [at_append l ((c, f), (b, m)) (c, f) hno]; simp
  have hd : dropL (l ++ [((c, f), (b, m))]) c f = l := by
    unfold dropL
    rw [List.filter_append]
    have : l.filter (fun p => decide (p.1 ≠ (c, f))) = l := List.filter_eq_self.2 (fun p hp => by simp only [decide_eq_true_eq]; exact fun e => hno (List.mem_map.2 ⟨p, hp, e⟩))
    rw [this]
    simp
  unfold dropF
  rw [if_neg (by simp [hf]), hat, hd]
  rfl
theorem of_last (l : SubL) (c f : ByteArray) (b m : Int) : ofL (l ++ [((c, f), (b, m))]) c = ofL l c ++ [(f, b)] := by
  unfold ofL; simp [List.filter_append]

set_option maxHeartbeats 2000000 in
set_option maxRecDepth 100000 in
theorem again_early (v : Value) (ops : List OpR) (c f : ByteArray) (a b : Int) (w : World) (h : RowRd w v ops.length (ops.flatMap opE))
    (hbad : ¬ (fewF ops = true ∧ c.size ≤ 100 ∧ f.size ≤ 100 ∧ filterF f = true ∧ 0 ≤ a ∧ a ≤ 2 ∧ 0 ≤ b ∧ b ≤ 2)) :
    Calls Tryd.prog 4 #[v, .string c, .string f, .int .i64 a, .int .i64 b] w fun e w' => e = .returned (.bool true) ∧ Below w.heap.size w w' := by
  have HF := Lib.hid (few_walk v ops w h)
  have HN := Lib.hid (filter_ref f)
  obtain ⟨ad, cap, rfl, had⟩ := h
  clear had
  by_cases hf : fewF ops = true
  case neg =>
    clear hbad
    rw [show fewF ops = false by simpa using hf] at HF
    go_enter Tryd.func4, Tryd.ntmps4
    go_wp2_with (first
      | (go_at_call 21; refine HF.out.mono ?_; rintro e w0 ⟨rfl, hw0⟩; have hw0 := hw0.symm; subst hw0; clear HF)
      | (go_at_call 18; refine (HN.out _).mono ?_; rintro e w1 ⟨rfl, hb1⟩; clear HN))
    go_ret
    exact ⟨rfl, Below.refl _ _⟩
  rw [hf] at HF
  by_cases h1 : c.size ≤ 100
  case neg =>
    clear hbad
    have E0 : decide ((100 : Int) < (c.size : Int)) = true := decide_eq_true (by omega)
    go_enter Tryd.func4, Tryd.ntmps4
    go_wp2_with (first
      | (go_at_call 21; refine HF.out.mono ?_; rintro e w0 ⟨rfl, hw0⟩; have hw0 := hw0.symm; subst hw0; clear HF)
      | (go_at_call 18; refine (HN.out _).mono ?_; rintro e w1 ⟨rfl, hb1⟩; clear HN))
    go_ret
    exact ⟨rfl, Below.refl _ _⟩
  have E0 : decide ((100 : Int) < (c.size : Int)) = false := decide_eq_false (by omega)
  by_cases h2 : f.size ≤ 100
  case neg =>
    clear hbad
    have E1 : decide ((100 : Int) < (f.size : Int)) = true := decide_eq_true (by omega)
    go_enter Tryd.func4, Tryd.ntmps4
    go_wp2_with (first
      | (go_at_call 21; refine HF.out.mono ?_; rintro e w0 ⟨rfl, hw0⟩; have hw0 := hw0.symm; subst hw0; clear HF)
      | (go_at_call 18; refine (HN.out _).mono ?_; rintro e w1 ⟨rfl, hb1⟩; clear HN))
    go_ret
    exact ⟨rfl, Below.refl _ _⟩
  have E1 : decide ((100 : Int) < (f.size : Int)) = false := decide_eq_false (by omega)
  by_cases hn : filterF f = true
  case neg =>
    clear hbad
    rw [show filterF f = false by simpa using hn] at HN
    go_enter Tryd.func4, Tryd.ntmps4
    go_wp2_with (first
      | (go_at_call 21; refine HF.out.mono ?_; rintro e w0 ⟨rfl, hw0⟩; have hw0 := hw0.symm; subst hw0; clear HF)
      | (go_at_call 18; refine (HN.out _).mono ?_; rintro e w1 ⟨rfl, hb1⟩; clear HN))
    go_ret
    exact ⟨rfl, hb1⟩
  rw [hn] at HN
  by_cases h4 : 0 ≤ a
  case neg =>
    clear hbad
    have E3 : decide (a < 0) = true := decide_eq_true (by omega)
    go_enter Tryd.func4, Tryd.ntmps4
    go_wp2_with (first
      | (go_at_call 21; refine HF.out.mono ?_; rintro e w0 ⟨rfl, hw0⟩; have hw0 := hw0.symm; subst hw0; clear HF)
      | (go_at_call 18; refine (HN.out _).mono ?_; rintro e w1 ⟨rfl, hb1⟩; clear HN))
    go_ret
    exact ⟨rfl, hb1⟩
  have E3 : decide (a < 0) = false := decide_eq_false (by omega)
  by_cases h5 : a ≤ 2
  case neg =>
    clear hbad
    have E4 : decide (2 < a) = true := decide_eq_true (by omega)
    go_enter Tryd.func4, Tryd.ntmps4
    go_wp2_with (first
      | (go_at_call 21; refine HF.out.mono ?_; rintro e w0 ⟨rfl, hw0⟩; have hw0 := hw0.symm; subst hw0; clear HF)
      | (go_at_call 18; refine (HN.out _).mono ?_; rintro e w1 ⟨rfl, hb1⟩; clear HN))
    go_ret
    exact ⟨rfl, hb1⟩
  have E4 : decide (2 < a) = false := decide_eq_false (by omega)
  by_cases h6 : 0 ≤ b
  case neg =>
    clear hbad
    have E5 : decide (b < 0) = true := decide_eq_true (by omega)
    go_enter Tryd.func4, Tryd.ntmps4
    go_wp2_with (first
      | (go_at_call 21; refine HF.out.mono ?_; rintro e w0 ⟨rfl, hw0⟩; have hw0 := hw0.symm; subst hw0; clear HF)
      | (go_at_call 18; refine (HN.out _).mono ?_; rintro e w1 ⟨rfl, hb1⟩; clear HN))
    go_ret
    exact ⟨rfl, hb1⟩
  have E5 : decide (b < 0) = false := decide_eq_false (by omega)
  by_cases h7 : b ≤ 2
  case neg =>
    clear hbad
    have E6 : decide (2 < b) = true := decide_eq_true (by omega)
    go_enter Tryd.func4, Tryd.ntmps4
    go_wp2_with (first
      | (go_at_call 21; refine HF.out.mono ?_; rintro e w0 ⟨rfl, hw0⟩; have hw0 := hw0.symm; subst hw0; clear HF)
      | (go_at_call 18; refine (HN.out _).mono ?_; rintro e w1 ⟨rfl, hb1⟩; clear HN))
    go_ret
    exact ⟨rfl, hb1⟩
  have E6 : decide (2 < b) = false := decide_eq_false (by omega)
  exact absurd ⟨hf, h1, h2, hn, h4, h5, h6, h7⟩ hbad

/-- Two indexes, and what the script wrote. -/
structure Pair (w0 w : World) (g m g' m' : Nat) (s : SubL × Int) : Prop where
  x : IdxAt w g m s.1 s.2
  y : IdxAt w g' m' s.1 s.2
  b : Below w0.heap.size w0 w
theorem Pair.below {w0 w w' : World} {g m g' m' : Nat} {s : SubL × Int} (h : Pair w0 w g m g' m' s) (hb : Below w.heap.size w w') : Pair w0 w' g m g' m' s :=
  ⟨h.x.below hb, h.y.below hb, h.b.trans (hb.mono h.b.size)⟩

set_option maxHeartbeats 2000000 in
set_option maxRecDepth 100000 in
theorem again_walk (v : Value) (ops : List OpR) (c f : ByteArray) (a b : Int) (w : World) (hG : Glob w) (h : RowRd w v ops.length (ops.flatMap opE)) :
    Calls Tryd.prog 4 #[v, .string c, .string f, .int .i64 a, .int .i64 b] w fun e w' => e = .returned (.bool true) ∧ Below w.heap.size w w' := by
  by_cases hok : fewF ops = true ∧ c.size ≤ 100 ∧ f.size ≤ 100 ∧ filterF f = true ∧ 0 ≤ a ∧ a ≤ 2 ∧ 0 ≤ b ∧ b ≤ 2
  case neg => exact again_early v ops c f a b w h hok
  obtain ⟨hf, h1, h2, hn, h4, h5, h6, h7⟩ := hok
  have HF := Lib.hid (few_walk v ops w h)
  have HN := Lib.hid (filter_ref f)
  obtain ⟨ad, cap, rfl, had⟩ := h
  have HAD := Lib.hid had; clear had
  rw [hf] at HF
  rw [hn] at HN
  have hlen : ops.length ≤ 100 := by unfold fewF at hf; simp at hf; exact hf.1
  have E1 : decide ((100 : Int) < (c.size : Int)) = false := decide_eq_false (by omega)
  have E2 : decide ((100 : Int) < (f.size : Int)) = false := decide_eq_false (by omega)
  have E4 : decide (a < 0) = false := decide_eq_false (by omega)
  have E5 : decide (2 < a) = false := decide_eq_false (by omega)
  have E6 : decide (b < 0) = false := decide_eq_false (by omega)
  have E7 : decide (2 < b) = false := decide_eq_false (by omega)
  have HNEW := Lib.hid new_walk
  go_enter Tryd.func4, Tryd.ntmps4
  go_wp2_with (first
    | (go_at_call 21; refine HF.out.mono ?_; rintro e w0 ⟨rfl, hw0⟩; have hw0 := hw0.symm; subst hw0; clear HF)
    | (go_at_call 18; refine (HN.out _).mono ?_; rintro e w1 ⟨rfl, hb1⟩; clear HN; have tok := hb1)
    | (go_at_call 22; have _t := tok; refine (HNEW.out _).mono ?_; rintro e w2 ⟨rfl, hx2, hb2'⟩; clear tok)
    | (go_at_call 22; refine (HNEW.out _).mono ?_; rintro e w3 ⟨rfl, hy3, hb3'⟩))
  have hb2 := hb1.trans (hb2'.mono hb1.size)
  have hs1 := hb1.size
  have hT0 : Pair w w3 (w1.heap.size + 1) w1.heap.size (w2.heap.size + 1) w2.heap.size ([], 0) := ⟨hx2.below hb3', hy3, hb2.trans (hb3'.mono hb2.size)⟩
  have hl2 := hx2.lt
  clear hx2 hy3 hb2' hb3' hb2 hb1 HNEW
  generalize hgd : w1.heap.size + 1 = g at *
  generalize hmd : w1.heap.size = m at *
  generalize hgd' : w2.heap.size + 1 = g' at *
  generalize hmd' : w2.heap.size = m' at *
  have hgB : w.heap.size ≤ g := by omega
  have hmB : w.heap.size ≤ m := by omega
  have hgB' : w.heap.size ≤ g' := by omega
  have hmB' : w.heap.size ≤ m' := by omega
  have n1 : g' ≠ g := by omega
  have n2 : g' ≠ m := by omega
  have n3 : m' ≠ g := by omega
  have n4 : m' ≠ m := by omega
  clear hgd hmd hgd' hmd' hl2 hs1
  go_loopg [13] ops.length (fun gk i wx => ∃ (k : Nat), k + gk = ops.length ∧ i = .int .i64 k ∧ Pair w wx g m g' m' (adds (others c f (ops.take k))))
  case atStart => exact ⟨0, by omega, rfl, hT0⟩
  case round =>
    obtain ⟨k, hkg, rfl, hT⟩ := hrel
    by_cases hk : k < ops.length
    · have hk' : decide (k < ops.length) = true := decide_eq_true hk
      obtain ⟨g1, o1, rfl, hg1, hc1⟩ := HAD.out (by omega)
      obtain ⟨x, hx⟩ : ∃ x, ops[k] = x := ⟨_, rfl⟩
      obtain ⟨f0, f1, f2, f3⟩ := flat4 ops k hk hx
      have hcc : ∀ j u, (ops.flatMap opE)[j]? = some u → wr.cell? ⟨g1, o1 + j, none⟩ = some u := fun j u hj => by rw [hT.b.cell (p := ⟨g1, o1 + j, none⟩) hg1]; exact hc1 j u hj
      have c0 := hcc _ _ f0; have c1 := hcc _ _ f1; have c2 := hcc _ _ f2; have c3 := hcc _ _ f3
      simp only [← Nat.add_assoc] at c0 c1 c2 c3
      have hte : others c f (ops.take (k + 1)) = others c f (ops.take k) ++ if (decide (x.client = c) && decide (x.text = f)) = true then [] else [x] := by
        unfold others
        rw [List.take_succ_eq_append_getElem hk, List.filter_append, hx, List.filter_cons]
        cases (decide (x.client = c) && decide (x.text = f)) <;> rfl
      have HT := Lib.hid hte
      clear hte hx f0 f1 f2 f3 hcc hc1
      obtain ⟨oc, ol, ot, oq⟩ := x
      simp only at c0 c1 c2 c3 HT
      have hb7 : Below wr.heap.size wr (wr.alloc (.cells #[.int .i64 oc, .string ol, .string ot, .int .i64 oq] 50)) := (Below.refl _ _).alloc (Nat.le_refl _) _
      have hT7 := hT.below hb7
      have hG7 := hG.below' hT7.b
      have d0 := cells_new wr [.int .i64 oc, .string ol, .string ot, .int .i64 oq] 50 0 _ rfl
      have d1 := cells_new wr [.int .i64 oc, .string ol, .string ot, .int .i64 oq] 50 1 _ rfl
      have d2 := cells_new wr [.int .i64 oc, .string ol, .string ot, .int .i64 oq] 50 2 _ rfl
      have d3 := cells_new wr [.int .i64 oc, .string ol, .string ot, .int .i64 oq] 50 3 _ rfl
      have hkb : (k : Int) < 9000 := by omega
      obtain ⟨s, hs⟩ : ∃ s, adds (others c f (ops.take k)) = s := ⟨_, rfl⟩
      have hinv := adds_inv (others c f (ops.take k))
      have hol : (others c f (ops.take k)).length ≤ k := by
        have := List.length_filter_le (fun o : OpR => !(decide (o.client = c) && decide (o.text = f))) (ops.take k)
        unfold others; simp at this ⊢; omega
      rw [hs] at hT7 hinv
      have hns : 0 ≤ s.2 ∧ s.2 < 4611686018427387904 := ⟨hinv.1.n0, by omega⟩
      have HS := Lib.hid hs
      clear hs hinv hol
      have HA := Lib.hid (add_walk g m s.1 s.2 ol ot oq _ hG7 hT7.x hns)
      have HB := Lib.hid (fun W hG hy => add_walk g' m' s.1 s.2 ol ot oq W hG hy hns)
      have hl7 := hT7.x.lt
      have hlr := hT.x.lt
      clear hT hns
      by_cases hsame : ol = c ∧ ot = f
      · obtain ⟨e1, e2⟩ := hsame
        have T1 : (ol.toList == c.toList) = true := by rw [str_eq_iff]; exact decide_eq_true e1
        have T2 : (ot.toList == f.toList) = true := by rw [str_eq_iff]; exact decide_eq_true e2
        rw [decide_eq_true e1, decide_eq_true e2] at HT
        clear e1 e2
        go_wp2
        go_roundg (gk - 1)
        case measure => omega
        case rel => exact ⟨k + 1, by omega, by simp, by rw [HT.out, if_pos (by decide), List.append_nil, HS.out]; exact hT7⟩
      · have hd : (decide (ol = c) && decide (ot = f)) = false := by
          by_cases e1 : ol = c
          · by_cases e2 : ot = f
            · exact absurd ⟨e1, e2⟩ hsame
            · rw [decide_eq_false e2, Bool.and_false]
          · rw [decide_eq_false e1, Bool.false_and]
        rw [hd] at HT
        have hz7 : wr.heap.size < (wr.alloc (.cells #[.int .i64 oc, .string ol, .string ot, .int .i64 oq] 50)).heap.size := by simp
        have q1 : wr.heap.size ≠ g := by omega
        have q2 : wr.heap.size ≠ m := by omega
        have hgo : ∀ (b1 b2 : Bool), (ol.toList == c.toList) = b1 → (ot.toList == f.toList) = b2 → (b1 && b2) = false := fun b1 b2 h1 h2 => by
          rw [str_eq_iff] at h1 h2; rw [← h1, ← h2]; exact hd
        have tok := hz7
        clear hd hsame
        obtain ⟨b1, T1⟩ : ∃ b1, (ol.toList == c.toList) = b1 := ⟨_, rfl⟩
        obtain ⟨b2, T2⟩ : ∃ b2, (ot.toList == f.toList) = b2 := ⟨_, rfl⟩
        have hbb := hgo b1 b2 T1 T2
        clear hgo
        cases b1
        all_goals
          (try (cases b2 <;> (try cases hbb)))
        all_goals
          try clear hbb
          go_wp2_with (first
            | (go_at_call 23; have _t := tok; refine HA.out.mono ?_; rintro e w9 ⟨rfl, hx9, ht9⟩; have p1 := (cell_congr (a := ⟨wr.heap.size, 1, none⟩) (ht9.block _ hz7 q1 q2)).trans d1; have p2 := (cell_congr (a := ⟨wr.heap.size, 2, none⟩) (ht9.block _ hz7 q1 q2)).trans d2; have p3 := (cell_congr (a := ⟨wr.heap.size, 3, none⟩) (ht9.block _ hz7 q1 q2)).trans d3; have hb9 := Turn.base hT7.b ht9 hgB hmB hT7.b.size; have HB' := Lib.hid (HB.out w9 (hG.below' hb9) (hT7.y.turn ht9 n1 n2 n3 n4)); clear HA HB tok)
            | (go_at_call 23; refine HB'.out.mono ?_; rintro e w10 ⟨rfl, hy10, ht10⟩; clear HB'))
          go_roundg (gk - 1)
          case measure => omega
          case rel =>
            refine ⟨k + 1, by omega, by simp, ?_⟩
            rw [HT.out, if_neg (by decide), adds_snoc, HS.out]
            exact ⟨hx9.turn ht10 n1.symm n3.symm n2.symm n4.symm, hy10, Turn.base hb9 ht10 hgB' hmB' hb9.size⟩
    · have hk' : decide (k < ops.length) = false := decide_eq_false hk
      obtain rfl : k = ops.length := by omega
      rw [List.take_length] at hT
      obtain ⟨hI, hll, hnn⟩ := adds_inv (others c f ops)
      have hno := others_not c f ops
      have hol : (others c f ops).length ≤ 100 := by
        have := List.length_filter_le (fun o : OpR => !(decide (o.client = c) && decide (o.text = f))) ops
        unfold others; omega
      generalize adds (others c f ops) = s at *
      obtain ⟨l, n⟩ := s
      simp only at hI hll hnn hno
      have hx := hT.x; have hy := hT.y; have hbr := hT.b
      simp only at hx hy
      have hn0 := hI.n0
      have hI1 := (hI.add c f a).1
      have ea1 := add_new (n := n) hn ⟨h4, h5⟩ hno
      rw [ea1] at hI1
      simp only at hI1
      have hI2 := (hI1.add c f b).1
      have ea2 := add_old (n := n + 1) (m := n + 1) (a := a) hn ⟨h6, h7⟩ hno
      rw [ea2] at hI2
      simp only at hI2
      have ed := drop_old (n := n + 1) (m := n + 1) (b := b) hn hno
      have hsrt := hI.srt; have hsrt2 := hI2.srt
      obtain ⟨l1, hl1⟩ : ∃ l1, l1 = l ++ [((c, f), (a, n + 1))] := ⟨_, rfl⟩
      obtain ⟨l2, hl2⟩ : ∃ l2, l2 = l ++ [((c, f), (b, n + 1))] := ⟨_, rfl⟩
      have eof : ofL l2 c = ofL l c ++ [(f, b)] := by rw [hl2]; exact of_last l c f b (n + 1)
      rw [← hl1] at ea1 ea2
      rw [← hl2] at ea2 ed hsrt2
      have hl2n : l2.length ≤ 65536 := by rw [hl2]; simp; omega
      have hofn : (ofL l c).length ≤ 65536 := by
        have : (ofL l c).length ≤ l.length := by unfold ofL; rw [List.length_map]; exact List.length_filter_le _ _
        omega
      have HE1 := Lib.hid ea1; have HE2 := Lib.hid ea2; have HED := Lib.hid ed; have HEO := Lib.hid eof
      clear ea1 ea2 ed eof hl1 hl2 hI hI1 hI2 hno hT
      have HC1 := Lib.hid (add_walk g m l n c f a wr (hG.below' hbr) hx ⟨hn0, by omega⟩)
      rw [HE1.out] at HC1
      clear hx hk hk'
      have hs0 := hbr.size
      go_wp2_with (go_at_call 23; refine HC1.out.mono ?_; rintro e w4 ⟨he, hx4, ht4⟩; simp only at he hx4; subst he; have hb4 := Turn.base hbr ht4 hgB hmB hs0; have hy4 := hy.turn ht4 n1 n2 n3 n4; have HC2 := Lib.hid (add_walk g m l1 (n + 1) c f b w4 (hG.below' hb4) hx4 ⟨by omega, by omega⟩); rw [HE2.out] at HC2; clear HC1)
      go_wp2_with (go_at_call 23; refine HC2.out.mono ?_; rintro e w5 ⟨he, hx5, ht5⟩; simp only at he hx5; subst he; have hb5 := Turn.base hb4 ht5 hgB hmB hb4.size; have hy5 := hy4.turn ht5 n1 n2 n3 n4; have HC3 := Lib.hid (of_walk g m l2 (n + 1) c w5 hx5 hl2n hsrt2); rw [HEO.out] at HC3; clear HC2)
      have HOF := Lib.hid hofn
      obtain ⟨r, hr⟩ : ∃ r, r = ofL l c := ⟨_, rfl⟩
      rw [← hr] at HC3 hofn
      have HR := Lib.hid hr; clear hr
      go_wp2_with (go_at_call 24; refine HC3.out.mono ?_; rintro e w6 ⟨⟨v6, rfl, hown6⟩, hb6'⟩; clear HC3)
      have hb6 := hb5.trans (hb6'.mono hb5.size)
      have hx6 := hx5.below hb6'
      have hy6 := hy5.below hb6'
      obtain ⟨ad6, cap6, rfl, had6⟩ := RowRd.of_own hown6 (by rw [flat_len (enc := subE) (k := 2) (fun _ => rfl)]) (by decide)
      obtain ⟨g6, o6, rfl, hg6, hc6⟩ := had6 (by simp)
      obtain ⟨k0, k1⟩ := flat2 (enc := subE) (fun _ => rfl) (r ++ [(f, b)]) r.length (by simp) (x := (f, b)) (by simp) (by rfl)
      have z0 : w6.cell? ⟨g6, o6 + r.length * 2, none⟩ = some (.string f) := hc6 _ _ k0
      have z1 : w6.cell? ⟨g6, o6 + r.length * 2 + 1, none⟩ = some (.int .i64 b) := hc6 _ _ k1
      clear k0 k1 hc6 hown6 had6
      have hrl : (r ++ [(f, b)]).length = r.length + 1 := by simp
      obtain ⟨q1, hq1⟩ : ∃ q1, q1 = r.length + 1 := ⟨_, rfl⟩
      rw [hrl, ← hq1]
      clear hrl
      generalize r.length = q at *
      have L0 : ((q1 : Int) == 0) = false := by simp; omega
      have P1 : wrap64 ((q1 : Int) - 1) = (q : Int) := by unfold wrap64; omega
      have I2 : (q : Int) < (q1 : Int) := by omega
      have hq0 : (0 : Int) ≤ q := by omega
      have hqm : (q : Int) ≤ 65536 := by omega
      have hq1n : q1 ≤ 65537 := by omega
      have P2 : (q1 : Int) - 1 = (q : Int) := by omega
      have P3 : q1 - 1 = q := by omega
      clear hq1
      have HC4 := Lib.hid (fun W hG hx => drop_walk g m l2 (n + 1) c f W hG hx)
      rw [HED.out] at HC4
      go_wp2
      go_simp
      go_wp2_with (go_at_call 25; refine (HC4.out _ (hG.below' hb6) hx6).mono ?_; rintro e w7 ⟨he, hx7, ht7⟩; simp only at he hx7; subst he; have hb7 := Turn.base hb6 ht7 hgB hmB hb6.size; have hy7 := hy6.turn ht7 n1 n2 n3 n4; have HC5 := Lib.hid (of_walk g m l (n + 1) c w7 hx7 (by omega) hsrt); rw [← HR.out] at HC5; clear HC4)
      go_wp2_with (go_at_call 24; refine HC5.out.mono ?_; rintro e w8 ⟨⟨v8, rfl, hown8⟩, hb8'⟩; have hb8 := hb7.trans (hb8'.mono hb7.size); have HC6 := Lib.hid (of_walk g' m' l n c w8 (hy7.below hb8') (by omega) hsrt); rw [← HR.out] at HC6; clear HC5)
      go_wp2_with (go_at_call 24; refine HC6.out.mono ?_; rintro e w9 ⟨⟨v9, rfl, hown9⟩, hb9'⟩; have hb9 := hb8.trans (hb9'.mono hb8.size); have HC7 := Lib.hid (awake13 w9 (hG.below' hb9)); clear HC6)
      have hr8 := (RowRd.of_own hown8 (by rw [flat_len (enc := subE) (k := 2) (fun _ => rfl)]) (by decide)).below hb9'
      have hr9 := RowRd.of_own hown9 (by rw [flat_len (enc := subE) (k := 2) (fun _ => rfl)]) (by decide)
      have HC8 := Lib.hid (fun w' hb => subs_walk _ _ r r w' (hr8.below hb) (hr9.below hb) (by rw [HR.out]; have := HOF.out; omega))
      rw [show decide (r = r) = true from decide_eq_true rfl] at HC8
      clear hown8 hown9 hr8 hr9
      go_wp2_with (first
        | (go_at_call 26; refine HC7.out.mono ?_; rintro e w10 ⟨rfl, hb10'⟩; have hb10 := hb9.trans (hb10'.mono hb9.size); clear HC7)
        | (go_at_call 27; refine (HC8.out _ hb10').mono ?_; rintro e w11 ⟨rfl, hb11'⟩; clear HC8))
      go_ret
      exact ⟨rfl, hb10.trans (hb11'.mono hb10.size)⟩


end Go.Proofs.YtaaaifeommdblaaDoor

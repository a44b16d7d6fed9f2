/- basculeref14: Put, At, Find, Rows; basculelaw14.few: the walks. -/
import Derived.Test.YtaaaifeommdblaaDoorKeptFind
import Derived.Test.YtaaaifeommdblaaDoorRefF
import Derived.Test.YtaaaifeommdblaaDoorRowRd
import Derived.BigQuiet
import Derived.Outline
namespace Go.Proofs.YtaaaifeommdblaaDoor
open Go.RowKit Go.Sort Go.Proofs.YtaaaifeommdblaaDoorW.PrintWords

/-- Block c holds the reference's row; what the row owns lies from base on. -/
def RefAt (w : World) (c base : Nat) (L : List MsgR) : Prop :=
  ∃ v, w.cell? ⟨c, 0, none⟩ = some v ∧ w.frozen? ⟨c, 0, none⟩ = false ∧ w.ownsRow base 33 4 v L.length (L.flatMap msgE)
theorem RefAt.lt {w : World} {c base : Nat} {L : List MsgR} (h : RefAt w c base L) : c < w.heap.size := by obtain ⟨v, h0, _⟩ := h; exact lt_of_cell h0
theorem RefAt.below {w w' : World} {c base : Nat} {L : List MsgR} (h : RefAt w c base L) (hb : Below w.heap.size w w') : RefAt w' c base L := by
  have hl := h.lt
  obtain ⟨v, h0, h1, h2⟩ := h
  exact ⟨v, (cell_congr (a := ⟨c, 0, none⟩) (hb.block _ hl)).trans h0, (frozen_congr (a := ⟨c, 0, none⟩) (hb.block _ hl)).trans h1, owns_below h2 hb⟩
theorem RefAt.turn {w w' : World} {c base g m : Nat} {L : List MsgR} (h : RefAt w c base L) (ht : Turn g m w w') (h1 : c ≠ g) (h2 : c ≠ m) (h3 : g < base) (h4 : m < base) : RefAt w' c base L := by
  have hl := h.lt
  obtain ⟨v, a0, a1, a2⟩ := h
  refine ⟨v, (cell_congr (a := ⟨c, 0, none⟩) (ht.block _ hl h1 h2)).trans a0, (frozen_congr (a := ⟨c, 0, none⟩) (ht.block _ hl h1 h2)).trans a1, ?_⟩
  rcases a2 with ⟨e, ⟨rfl, hn⟩ | ⟨gg, cap, cur, rfl, hge, hh, rest⟩⟩
  · exact ⟨e, .inl ⟨rfl, hn⟩⟩
  · exact ⟨e, .inr ⟨gg, cap, cur, rfl, hge, (ht.block gg (Array.getElem?_eq_some_iff.1 hh).1 (by omega) (by omega)).trans hh, rest⟩⟩

theorem flatM (xs : List MsgR) (k : Nat) (hk : k < xs.length) {x : MsgR} (hx : xs[k] = x) :
    (xs.flatMap msgE)[k * 4]? = some (.string x.topic) ∧ (xs.flatMap msgE)[k * 4 + 1]? = some (.string x.load) ∧ (xs.flatMap msgE)[k * 4 + 2]? = some (.int .i64 x.qos) ∧ (xs.flatMap msgE)[k * 4 + 3]? = some (.bool x.keep) := by
  have hg : xs[k]! = x := by rw [getElem!_pos xs k hk, hx]
  refine ⟨?_, ?_, ?_, ?_⟩
  · rw [flat_get (enc := msgE) (k := 4) (fun _ => rfl) (by decide) xs _ (by omega), show (k * 4) / 4 = k by omega, show (k * 4) % 4 = 0 by omega, hg]; rfl
  · rw [flat_get (enc := msgE) (k := 4) (fun _ => rfl) (by decide) xs _ (by omega), show (k * 4 + 1) / 4 = k by omega, show (k * 4 + 1) % 4 = 1 by omega, hg]; rfl
  · rw [flat_get (enc := msgE) (k := 4) (fun _ => rfl) (by decide) xs _ (by omega), show (k * 4 + 2) / 4 = k by omega, show (k * 4 + 2) % 4 = 2 by omega, hg]; rfl
  · rw [flat_get (enc := msgE) (k := 4) (fun _ => rfl) (by decide) xs _ (by omega), show (k * 4 + 3) / 4 = k by omega, show (k * 4 + 3) % 4 = 3 by omega, hg]; rfl
theorem rowM {g1 o1 : Nat} (xs : List MsgR) (wr : World) (hc : ∀ j u, (xs.flatMap msgE)[j]? = some u → wr.cell? ⟨g1, o1 + j, none⟩ = some u) (k : Nat) (hk : k < xs.length) {x : MsgR} (hx : xs[k] = x) :
    wr.cell? ⟨g1, o1 + k * 4, none⟩ = some (.string x.topic) ∧ wr.cell? ⟨g1, o1 + k * 4 + 1, none⟩ = some (.string x.load) ∧ wr.cell? ⟨g1, o1 + k * 4 + 2, none⟩ = some (.int .i64 x.qos) ∧ wr.cell? ⟨g1, o1 + k * 4 + 3, none⟩ = some (.bool x.keep) := by
  obtain ⟨f0, f1, f2, f3⟩ := flatM xs k hk hx
  have c0 := hc _ _ f0; have c1 := hc _ _ f1; have c2 := hc _ _ f2; have c3 := hc _ _ f3
  simp only [← Nat.add_assoc] at c0 c1 c2 c3
  exact ⟨c0, c1, c2, c3⟩

set_option maxHeartbeats 1000000 in
theorem ref_at (c base : Nat) (L : List MsgR) (name : ByteArray) (w : World) (hr : RefAt w c base L) (hl : L.length ≤ 65536) :
    Calls Tryd.prog 13 #[.pointer (some ⟨c, 0, none⟩), .string name] w fun e w' => e = .returned (.tuple #[msgV ((L.find? (fun y => decide (y.topic = name))).getD noMsg), .bool (L.find? (fun y => decide (y.topic = name))).isSome]) ∧ Below w.heap.size w w' := by
  have hb1 : Below w.heap.size w (w.alloc (.cells #[.string ⟨#[]⟩, .string ⟨#[]⟩, .int .i64 0, .bool false] 33)) := (Below.refl _ _).alloc (Nat.le_refl _) _
  have hr1 := hr.below hb1
  obtain ⟨v, c0, _, hown⟩ := hr1
  obtain ⟨ad, cap, rfl, had⟩ := RowRd.of_own hown (by rw [flat_len (enc := msgE) (k := 4) (fun _ => rfl)]) (by decide)
  have HAD := Lib.hid had; clear had hown
  obtain ⟨res, hres⟩ : ∃ res, res = L.find? (fun y => decide (y.topic = name)) := ⟨_, rfl⟩
  rw [← hres]
  have HRES := Lib.hid hres; clear hres hr hb1
  unfold msgV
  go_enter Tryd.func13, Tryd.ntmps13
  go_wp2
  go_loopg [6] L.length (fun gk i wx => ∃ k : Nat, k + gk = L.length ∧ i = .int .i64 k ∧ (L.take k).find? (fun y => decide (y.topic = name)) = none ∧ wx = w.alloc (.cells #[.string ⟨#[]⟩, .string ⟨#[]⟩, .int .i64 0, .bool false] 33))
  case atStart => exact ⟨0, by omega, rfl, rfl, rfl⟩
  case round =>
    obtain ⟨k, hkg, rfl, hpre, rfl⟩ := hrel
    by_cases hk : k < L.length
    · have hk' : decide (k < L.length) = true := decide_eq_true hk
      obtain ⟨g1, o1, rfl, hg1, hc1⟩ := HAD.out (by omega)
      obtain ⟨x, hx⟩ : ∃ x, L[k] = x := ⟨_, rfl⟩
      obtain ⟨e0, e1, e2, e3⟩ := rowM L _ hc1 k hk hx
      have hft : (L.take (k + 1)).find? (fun y => decide (y.topic = name)) = if x.topic = name then some x else none := by
        rw [List.take_succ_eq_append_getElem hk, List.find?_append, hpre, hx, List.find?_cons]
        by_cases h : x.topic = name <;> simp [h]
      have hfl : x.topic = name → res = some x := fun h => by
        rw [HRES.out, ← List.take_append_drop (k + 1) L, List.find?_append, hft, if_pos h]; rfl
      have HFT := Lib.hid hft; have HFL := Lib.hid hfl
      clear hft hfl hpre hc1 hx
      obtain ⟨x0, x1, x2, x3⟩ := x
      simp only at e0 e1 e2 e3 HFT HFL
      by_cases he : x0 = name
      · have T1 : (x0.toList == name.toList) = true := by rw [str_eq_iff]; exact decide_eq_true he
        have hr := HFL.out he
        subst hr
        clear he HFT HFL
        go_wp2
        exact bodyPost_ret (v := .tuple #[.agg #[.string x0, .string x1, .int .i64 x2, .bool x3], .bool true]) (by simp [results, Tryd.results13, go_sem]) rfl ⟨rfl, (Below.refl _ _).alloc (Nat.le_refl _) _⟩
      · have T1 : (x0.toList == name.toList) = false := by rw [str_eq_iff]; exact decide_eq_false he
        have HT := Lib.hid (HFT.out.trans (if_neg he))
        clear he HFT HFL
        go_wp2
        go_roundg (gk - 1)
        case measure => omega
        case rel => exact ⟨k + 1, by omega, by simp, HT.out, rfl⟩
    · have hk' : decide (k < L.length) = false := decide_eq_false hk
      have hr : res = none := by rw [HRES.out, ← List.take_of_length_le (l := L) (i := k) (by omega)]; exact hpre
      subst hr
      clear hpre hk
      go_wp2
      exact bodyPost_ret (v := .tuple #[.agg #[.string ⟨#[]⟩, .string ⟨#[]⟩, .int .i64 0, .bool false], .bool false]) (by simp [results, Tryd.results13, go_sem]) rfl ⟨rfl, (Below.refl _ _).alloc (Nat.le_refl _) _⟩

set_option maxHeartbeats 1000000 in
theorem ref_find (c base : Nat) (L : List MsgR) (f : ByteArray) (w : World) (hr : RefAt w c base L) (hl : L.length ≤ 65536) (hf : filterF f = true) (hn : ∀ x ∈ L, nameF x.topic = true) :
    Calls Tryd.prog 20 #[.pointer (some ⟨c, 0, none⟩), .string f] w fun e w' => (∃ v, e = .returned v ∧ w'.ownsRow w.heap.size 33 4 v (L.filter (fun y => takesF f y.topic)).length ((L.filter (fun y => takesF f y.topic)).flatMap msgE)) ∧ Below w.heap.size w w' := by
  have hI : (Tryd.prog.info? 33).map (fun i => (i.zero, i.size, i.bytes)) = some (some (.agg #[.string ⟨#[]⟩, .string ⟨#[]⟩, .int .i64 0, .bool false]), 4, 48) := by kernel_rfl
  obtain ⟨i0, hi, hz0, hz1, hz2⟩ := info_parts hI
  clear hI
  have hcl := hr.lt
  obtain ⟨v, c0, _, hown⟩ := hr
  obtain ⟨ad, cap, rfl, had⟩ := RowRd.of_own hown (by rw [flat_len (enc := msgE) (k := 4) (fun _ => rfl)]) (by decide)
  have HC0 := Lib.hid (fun wx (hb : Below w.heap.size w wx) => ((bcell hb).1 c 0 hcl).trans c0)
  have HAD := Lib.hid had; clear had hown
  have HN := Lib.hid hn; clear hn
  have hp : ∀ (y : MsgR), y ∈ L → ∀ W, Calls Tryd.prog 32 #[.string f, .string y.topic] W fun e w' => e = .returned (.bool (takesF f y.topic)) ∧ Below W.heap.size W w' := fun y hy W => takes_ref f y.topic hf (HN.out y hy) W
  have HTK := Lib.hid hp; clear hp
  obtain ⟨hit, hhit⟩ : ∃ hit : MsgR → Bool, hit = fun y => takesF f y.topic := ⟨_, rfl⟩
  rw [← hhit]
  have HH := Lib.hid hhit; clear hhit hf
  go_enter Tryd.func20, Tryd.ntmps20
  go_wp2
  go_loopg [5, 6] L.length (fun gk out i wx => ∃ k : Nat, k + gk = L.length ∧ i = .int .i64 k ∧ wx.ownsRow w.heap.size 33 4 out ((L.take k).filter hit).length (((L.take k).filter hit).flatMap msgE) ∧ Below w.heap.size w wx)
  case atStart => exact ⟨0, by omega, rfl, World.ownsRow_nil _ _ _ _, Below.refl _ _⟩
  case round =>
    obtain ⟨k, hkg, rfl, hown, hnx⟩ := hrel
    have c1 := HC0.out _ hnx
    by_cases hk : k < L.length
    · have hk' : decide (k < L.length) = true := decide_eq_true hk
      obtain ⟨g1, o1, rfl, hg1, hc1⟩ := HAD.out (by omega)
      obtain ⟨x, hx⟩ : ∃ x, L[k] = x := ⟨_, rfl⟩
      have hc2 : ∀ wx, Below w.heap.size w wx → ∀ j u, (L.flatMap msgE)[j]? = some u → wx.cell? ⟨g1, o1 + j, none⟩ = some u := fun wx hb j u hj => ((bcell hb).1 g1 _ hg1).trans (hc1 j u hj)
      have HR := Lib.hid (fun wx hb => rowM L wx (hc2 wx hb) k hk hx)
      obtain ⟨e0, _, _, _⟩ := HR.out wr hnx
      have HT := Lib.hid (HTK.out x (by rw [← hx]; exact List.getElem_mem hk))
      have hht : hit x = takesF f x.topic := by rw [HH.out]
      have hte : (L.take (k + 1)).filter hit = (L.take k).filter hit ++ if hit x = true then [x] else [] := by
        rw [List.take_succ_eq_append_getElem hk, List.filter_append, hx, List.filter_cons]; rfl
      have hfl : ((L.take k).filter hit).length ≤ 65536 := by
        have h1 := List.length_filter_le hit (L.take k)
        have h2 : (L.take k).length ≤ k := List.length_take_le _ _
        omega
      have HTE := Lib.hid hte
      generalize (L.take k).filter hit = fs at *
      have hbs := hnx.size
      clear hte hc1 hc2 hx c0
      obtain ⟨x0, x1, x2, x3⟩ := x
      simp only at e0 HT hht HR
      rw [← hht] at HT
      clear hht
      cases hh : hit ⟨x0, x1, x2, x3⟩
      · rw [hh] at HT HTE
        clear hh
        go_wp2_with (go_at_call 32; refine (HT.out _).mono ?_; rintro e w7 ⟨rfl, hb7⟩; clear HT)
        go_roundg (gk - 1)
        case measure => omega
        case rel => exact ⟨k + 1, by omega, by simp, by rw [HTE.out]; simp only [Bool.false_eq_true, if_false, List.append_nil]; exact owns_below hown hb7, hnx.trans (hb7.mono hnx.size)⟩
      · rw [hh] at HT HTE
        clear hh
        go_wp2_with (first
          | (go_at_call 32; refine (HT.out _).mono ?_; rintro e w7 ⟨rfl, hb7⟩; clear HT; have hB7 := hnx.trans (hb7.mono hnx.size); have c2 := HC0.out _ hB7; obtain ⟨f0, f1, f2, f3⟩ := HR.out _ hB7; have hown7 := owns_below hown hb7; have hs7 := hB7.size)
          | (at_builtin; refine wpList_append_own _ rfl _ _ 22 rfl w.heap.size 33 i0 (.agg #[.string ⟨#[]⟩, .string ⟨#[]⟩, .int .i64 0, .bool false]) 4 48 Tryd.underlying22 hi hz0 hz1 hz2 rfl (by decide) _ _ _ rfl (hown7.alloc _) ⟨w7.heap.size, 0, none⟩ 1 1 [.string x0, .string x1, .int .i64 x2, .bool x3] rfl rfl (cells_new _ _ _) ?c2 ?c3 ?c4 ?c5 ?_))
        case c2 => first | exact ⟨rfl, rfl, rfl, rfl⟩ | (intro u hu; simp at hu; rcases hu with rfl | rfl | rfl | rfl <;> rfl)
        case c3 => unfold maxLen; omega
        case c4 => omega
        case c5 => first | omega | (simp; omega)
        intro v' w8 hown8 hgrow8 _
        have hB8 := below_own (hB7.alloc hB7.size (.cells #[.string x0, .string x1, .int .i64 x2, .bool x3] 33)) (by simp; omega) (hown7.alloc _) hgrow8 (Nat.le_refl _)
        go_wp2
        go_roundg (gk - 1)
        case measure => omega
        case rel => exact ⟨k + 1, by omega, by simp, by rw [HTE.out]; simp only [if_true, List.length_append, List.flatMap_append]; exact hown8, hB8⟩
    · have hk' : decide (k < L.length) = false := decide_eq_false hk
      have hL : L.take k = L := List.take_of_length_le (by omega)
      rw [hL] at hown
      clear hk hL c0
      go_wp2
      go_ret
      exact ⟨⟨_, rfl, hown⟩, hnx⟩

end Go.Proofs.YtaaaifeommdblaaDoor

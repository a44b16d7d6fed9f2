/- basculeref13.Wants, Subs: the walks. -/
import Derived.Test.YtaaaifeommdblaaDoorSubsGone
namespace Go.Proofs.YtaaaifeommdblaaDoor
open Go.RowKit Go.Sort Go.Proofs.YtaaaifeommdblaaDoorW.PrintWords

/-- A row that can be read: n things, whose cells are xs. -/
def RowRd (w : World) (v : Value) (n : Nat) (xs : List Value) : Prop :=
  ∃ ad cap, v = .slice ad n cap ∧ (0 < n → ∃ g o, ad = some ⟨g, o, none⟩ ∧ g < w.heap.size ∧ ∀ j u, xs[j]? = some u → w.cell? ⟨g, o + j, none⟩ = some u)

theorem RowRd.of_own {w : World} {base : Nat} {e : TypeId} {size : Nat} {v : Value} {n : Nat} {xs : List Value} (h : w.ownsRow base e size v n xs) (hl : xs.length = n * size) (_hs : 0 < size) : RowRd w v n xs := by
  obtain ⟨ad, cap, rfl, had⟩ := owns_form h
  refine ⟨ad, cap, rfl, fun hn => ?_⟩
  obtain ⟨g, rfl⟩ := had hn
  refine ⟨g, 0, rfl, (h.lt g rfl).2, fun j u hj => ?_⟩
  have hjl : j < n * size := by rw [← hl]; exact (List.getElem?_eq_some_iff.1 hj).1
  rw [Nat.zero_add, h.cellAt j hjl, hj]
theorem RowRd.below {w w' : World} {v : Value} {n : Nat} {xs : List Value} (h : RowRd w v n xs) (hb : Below w.heap.size w w') : RowRd w' v n xs := by
  obtain ⟨ad, cap, rfl, had⟩ := h
  refine ⟨ad, cap, rfl, fun hn => ?_⟩
  obtain ⟨g, o, rfl, hg, hc⟩ := had hn
  exact ⟨g, o, rfl, Nat.lt_of_lt_of_le hg hb.size, fun j u hj => by rw [hb.cell (p := ⟨g, o + j, none⟩) hg]; exact hc j u hj⟩
theorem RowRd.turn {w w' : World} {g m : Nat} {v : Value} {n : Nat} {xs : List Value} (h : RowRd w v n xs) (hb : Turn g m w w') (hne : ∀ ad n' cap, v = .slice (some ad) n' cap → ad.block ≠ g ∧ ad.block ≠ m) : RowRd w' v n xs := by
  obtain ⟨ad, cap, rfl, had⟩ := h
  refine ⟨ad, cap, rfl, fun hn => ?_⟩
  obtain ⟨g', o, rfl, hg, hc⟩ := had hn
  have := hne _ _ _ rfl
  exact ⟨g', o, rfl, Nat.lt_of_lt_of_le hg hb.size, fun j u hj => by rw [cell_congr (a := ⟨g', o + j, none⟩) (hb.block _ hg this.1 this.2)]; exact hc j u hj⟩

theorem flat2 {α : Type} [Inhabited α] {enc : α → List Value} (he : ∀ x, (enc x).length = 2) (xs : List α) (k : Nat) (hk : k < xs.length) {x : α} (hx : xs[k] = x) {a b : Value} (h : enc x = [a, b]) :
    (xs.flatMap enc)[k * 2]? = some a ∧ (xs.flatMap enc)[k * 2 + 1]? = some b := by
  have hg : xs[k]! = x := by rw [getElem!_pos xs k hk, hx]
  constructor
  · rw [flat_get (enc := enc) (k := 2) he (by decide) xs _ (by omega), show (k * 2) / 2 = k by omega, show (k * 2) % 2 = 0 by omega, hg, h]; rfl
  · rw [flat_get (enc := enc) (k := 2) he (by decide) xs _ (by omega), show (k * 2 + 1) / 2 = k by omega, show (k * 2 + 1) % 2 = 1 by omega, hg, h]; rfl

theorem eqWant (d : Nat) (w : World) (x0 y0 : ByteArray) (x1 y1 : Int) :
    (Op.equalIn (d + 2) 67 (.agg #[.string x0, .int .i64 x1]) (.agg #[.string y0, .int .i64 y1])).run Tryd.prog w = .ok (x0.toList == y0.toList && (x1 == y1)) w := by
  refine eqA_of Tryd.underlying67 (by kernel_rfl) ?_
  refine eqf_cons (by rfl) (by go_simp; rfl) (by go_simp; rfl) (by go_simp) ?_
  exact eqf_last (by rfl) (by go_simp; rfl) (by go_simp; rfl) (by go_simp)
theorem run_neq_Want (w : World) (a b : ByteArray) (c d : Int) : (binOp .neq 67 (.agg #[.string a, .int .i64 c]) (.agg #[.string b, .int .i64 d])).run Tryd.prog w = .ok (.bool (!(a.toList == b.toList && (c == d)))) w := by
  have h := eqWant 9998 w a b c d
  simp only [binOp]
  simp [Op.equal, Op.maxDepth, h]

set_option maxHeartbeats 1000000 in
theorem wants_walk (v1 v2 : Value) (xs ys : List (ByteArray × Int)) (w : World) (h1 : RowRd w v1 xs.length (xs.flatMap wantE)) (h2 : RowRd w v2 ys.length (ys.flatMap wantE)) (hsz : xs.length < 4611686018427387904) :
    Calls Tryd.prog 30 #[v1, v2] w fun e w' => e = .returned (.bool (decide (xs = ys))) ∧ Below w.heap.size w w' := by
  obtain ⟨ad, cap, rfl, had⟩ := h1
  obtain ⟨bd, bap, rfl, hbd⟩ := h2
  by_cases hl : xs.length = ys.length
  · have E0 : (!decide ((xs.length : Int) = (ys.length : Int))) = false := by simp [hl]
    obtain ⟨r, hr⟩ : ∃ r, r = decide (xs = ys) := ⟨_, rfl⟩
    rw [← hr]
    have HR := Lib.hid hr; clear hr
    have HL := Lib.hid hl
    go_enter Tryd.func30, Tryd.ntmps30
    rw [← hl] at hbd E0 ⊢
    go_wp2
    go_loopg [5] xs.length (fun gk i wx => ∃ k : Nat, k + gk = xs.length ∧ i = .int .i64 k ∧ xs.take k = ys.take k ∧ ∃ nd, wx = w.drewN nd)
    case atStart => exact ⟨0, by omega, rfl, by simp, 0, rfl⟩
    case round =>
      obtain ⟨k, hkg, rfl, hpre, nd, rfl⟩ := hrel
      by_cases hk : k < xs.length
      · have hk' : decide (k < xs.length) = true := decide_eq_true hk
        have hk2 : k < ys.length := by rw [← HL.out]; exact hk
        obtain ⟨g1, o1, rfl, hg1, hc1⟩ := had (by omega)
        obtain ⟨g2, o2, rfl, hg2, hc2⟩ := hbd (by omega)
        obtain ⟨⟨a, c⟩, hak⟩ : ∃ x, xs[k]'hk = x := ⟨_, rfl⟩
        obtain ⟨⟨b, d⟩, hbk⟩ : ∃ x, ys[k]'hk2 = x := ⟨_, rfl⟩
        obtain ⟨f0, f1⟩ := flat2 (enc := wantE) (fun _ => rfl) xs k hk hak (by rfl)
        obtain ⟨f2, f3⟩ := flat2 (enc := wantE) (fun _ => rfl) ys k hk2 hbk (by rfl)
        have e0 : ∀ nq, (w.drewN nq).cell? ⟨g1, o1 + k * 2, none⟩ = some (.string a) := fun nq => hc1 _ _ f0
        have e1 : ∀ nq, (w.drewN nq).cell? ⟨g1, o1 + k * 2 + 1, none⟩ = some (.int .i64 c) := fun nq => hc1 _ _ f1
        have e2 : ∀ nq, (w.drewN nq).cell? ⟨g2, o2 + k * 2, none⟩ = some (.string b) := fun nq => hc2 _ _ f2
        have e3 : ∀ nq, (w.drewN nq).cell? ⟨g2, o2 + k * 2 + 1, none⟩ = some (.int .i64 d) := fun nq => hc2 _ _ f3
        have EQ := fun W => run_neq_Want W a b c d
        have hget : (a.toList == b.toList && (c == d)) = decide (xs[k] = ys[k]) := by
          rw [hak, hbk, str_eq_iff, Bool.eq_iff_iff]; simp
        obtain ⟨q, hq⟩ : ∃ q, q = (a.toList == b.toList && (c == d)) := ⟨_, rfl⟩
        rw [← hq] at EQ hget
        have HQ := Lib.hid hget
        clear hq hget f0 f1 f2 f3 hc1 hc2 hak hbk
        have e01 : (w.drewN nd).drew.cell? _ = _ := e0 (nd + 1); have e11 : (w.drewN nd).drew.cell? _ = _ := e1 (nd + 1); have e21 : (w.drewN nd).drew.cell? _ = _ := e2 (nd + 1); have e31 : (w.drewN nd).drew.cell? _ = _ := e3 (nd + 1)
        cases q
        · simp only [Bool.not_false] at EQ
          have hne : xs ≠ ys := fun e => by subst e; have := HQ.out; simp at this
          have hrt : r = false := by rw [HR.out]; exact decide_eq_false hne
          subst hrt
          go_wp2
          go_region
          all_goals (go_wp2; go_ret; exact ⟨rfl, below_drewN _ _⟩)
        · simp only [Bool.not_true] at EQ
          go_wp2
          go_region
          all_goals
            (go_wp2
             go_roundg (gk - 1)
             case measure => omega
             case rel =>
               refine ⟨k + 1, by omega, by simp, ?_, nd + 1, rfl⟩
               have := HQ.out
               rw [List.take_succ_eq_append_getElem hk, List.take_succ_eq_append_getElem hk2, hpre, of_decide_eq_true this.symm])
      · obtain rfl : k = xs.length := by omega
        have hk' : decide (xs.length < xs.length) = false := by simp
        have : xs = ys := by rw [List.take_length] at hpre; rw [hpre, hl, List.take_length]
        have hrt : r = true := by rw [HR.out]; exact decide_eq_true this
        subst hrt
        go_wp2
        go_ret
        exact ⟨rfl, below_drewN _ _⟩
  · have E0 : (!decide ((xs.length : Int) = (ys.length : Int))) = true := by simp; omega
    have hd : decide (xs = ys) = false := decide_eq_false (fun e => hl (by rw [e]))
    rw [hd]
    go_enter Tryd.func30, Tryd.ntmps30
    go_wp2
    go_ret
    exact ⟨rfl, Below.refl _ _⟩

theorem eqSub (d : Nat) (w : World) (x0 y0 : ByteArray) (x1 y1 : Int) :
    (Op.equalIn (d + 2) 53 (.agg #[.string x0, .int .i64 x1]) (.agg #[.string y0, .int .i64 y1])).run Tryd.prog w = .ok (x0.toList == y0.toList && (x1 == y1)) w := by
  refine eqA_of Tryd.underlying53 (by kernel_rfl) ?_
  refine eqf_cons (by rfl) (by go_simp; rfl) (by go_simp; rfl) (by go_simp) ?_
  exact eqf_last (by rfl) (by go_simp; rfl) (by go_simp; rfl) (by go_simp)
theorem run_neq_Sub (w : World) (a b : ByteArray) (c d : Int) : (binOp .neq 53 (.agg #[.string a, .int .i64 c]) (.agg #[.string b, .int .i64 d])).run Tryd.prog w = .ok (.bool (!(a.toList == b.toList && (c == d)))) w := by
  have h := eqSub 9998 w a b c d
  simp only [binOp]
  simp [Op.equal, Op.maxDepth, h]

set_option maxHeartbeats 1000000 in
theorem subs_walk (v1 v2 : Value) (xs ys : List (ByteArray × Int)) (w : World) (h1 : RowRd w v1 xs.length (xs.flatMap subE)) (h2 : RowRd w v2 ys.length (ys.flatMap subE)) (hsz : xs.length < 4611686018427387904) :
    Calls Tryd.prog 27 #[v1, v2] w fun e w' => e = .returned (.bool (decide (xs = ys))) ∧ Below w.heap.size w w' := by
  obtain ⟨ad, cap, rfl, had⟩ := h1
  obtain ⟨bd, bap, rfl, hbd⟩ := h2
  by_cases hl : xs.length = ys.length
  · have E0 : (!decide ((xs.length : Int) = (ys.length : Int))) = false := by simp [hl]
    obtain ⟨r, hr⟩ : ∃ r, r = decide (xs = ys) := ⟨_, rfl⟩
    rw [← hr]
    have HR := Lib.hid hr; clear hr
    have HL := Lib.hid hl
    go_enter Tryd.func27, Tryd.ntmps27
    rw [← hl] at hbd E0 ⊢
    go_wp2
    go_loopg [5] xs.length (fun gk i wx => ∃ k : Nat, k + gk = xs.length ∧ i = .int .i64 k ∧ xs.take k = ys.take k ∧ ∃ nd, wx = w.drewN nd)
    case atStart => exact ⟨0, by omega, rfl, by simp, 0, rfl⟩
    case round =>
      obtain ⟨k, hkg, rfl, hpre, nd, rfl⟩ := hrel
      by_cases hk : k < xs.length
      · have hk' : decide (k < xs.length) = true := decide_eq_true hk
        have hk2 : k < ys.length := by rw [← HL.out]; exact hk
        obtain ⟨g1, o1, rfl, hg1, hc1⟩ := had (by omega)
        obtain ⟨g2, o2, rfl, hg2, hc2⟩ := hbd (by omega)
        obtain ⟨⟨a, c⟩, hak⟩ : ∃ x, xs[k]'hk = x := ⟨_, rfl⟩
        obtain ⟨⟨b, d⟩, hbk⟩ : ∃ x, ys[k]'hk2 = x := ⟨_, rfl⟩
        obtain ⟨f0, f1⟩ := flat2 (enc := subE) (fun _ => rfl) xs k hk hak (by rfl)
        obtain ⟨f2, f3⟩ := flat2 (enc := subE) (fun _ => rfl) ys k hk2 hbk (by rfl)
        have e0 : ∀ nq, (w.drewN nq).cell? ⟨g1, o1 + k * 2, none⟩ = some (.string a) := fun nq => hc1 _ _ f0
        have e1 : ∀ nq, (w.drewN nq).cell? ⟨g1, o1 + k * 2 + 1, none⟩ = some (.int .i64 c) := fun nq => hc1 _ _ f1
        have e2 : ∀ nq, (w.drewN nq).cell? ⟨g2, o2 + k * 2, none⟩ = some (.string b) := fun nq => hc2 _ _ f2
        have e3 : ∀ nq, (w.drewN nq).cell? ⟨g2, o2 + k * 2 + 1, none⟩ = some (.int .i64 d) := fun nq => hc2 _ _ f3
        have EQ := fun W => run_neq_Sub W a b c d
        have hget : (a.toList == b.toList && (c == d)) = decide (xs[k] = ys[k]) := by
          rw [hak, hbk, str_eq_iff, Bool.eq_iff_iff]; simp
        obtain ⟨q, hq⟩ : ∃ q, q = (a.toList == b.toList && (c == d)) := ⟨_, rfl⟩
        rw [← hq] at EQ hget
        have HQ := Lib.hid hget
        clear hq hget f0 f1 f2 f3 hc1 hc2 hak hbk
        have e01 : (w.drewN nd).drew.cell? _ = _ := e0 (nd + 1); have e11 : (w.drewN nd).drew.cell? _ = _ := e1 (nd + 1); have e21 : (w.drewN nd).drew.cell? _ = _ := e2 (nd + 1); have e31 : (w.drewN nd).drew.cell? _ = _ := e3 (nd + 1)
        cases q
        · simp only [Bool.not_false] at EQ
          have hne : xs ≠ ys := fun e => by subst e; have := HQ.out; simp at this
          have hrt : r = false := by rw [HR.out]; exact decide_eq_false hne
          subst hrt
          go_wp2
          go_region
          all_goals (go_wp2; go_ret; exact ⟨rfl, below_drewN _ _⟩)
        · simp only [Bool.not_true] at EQ
          go_wp2
          go_region
          all_goals
            (go_wp2
             go_roundg (gk - 1)
             case measure => omega
             case rel =>
               refine ⟨k + 1, by omega, by simp, ?_, nd + 1, rfl⟩
               have := HQ.out
               rw [List.take_succ_eq_append_getElem hk, List.take_succ_eq_append_getElem hk2, hpre, of_decide_eq_true this.symm])
      · obtain rfl : k = xs.length := by omega
        have hk' : decide (xs.length < xs.length) = false := by simp
        have : xs = ys := by rw [List.take_length] at hpre; rw [hpre, hl, List.take_length]
        have hrt : r = true := by rw [HR.out]; exact decide_eq_true this
        subst hrt
        go_wp2
        go_ret
        exact ⟨rfl, below_drewN _ _⟩
  · have E0 : (!decide ((xs.length : Int) = (ys.length : Int))) = true := by simp; omega
    have hd : decide (xs = ys) = false := decide_eq_false (fun e => hl (by rw [e]))
    rw [hd]
    go_enter Tryd.func27, Tryd.ntmps27
    go_wp2
    go_ret
    exact ⟨rfl, Below.refl _ _⟩

end Go.Proofs.YtaaaifeommdblaaDoor

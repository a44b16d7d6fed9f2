/- subs.Index: what holds of it after any calls. basculelaw13.few: the walk. -/
import Derived.Test.YtaaaifeommdblaaDoorRowRd
namespace Go.Proofs.YtaaaifeommdblaaDoor
open Go.RowKit Go.Sort

structure Inv (l : SubL) (n : Int) : Prop where
  nd : (l.map (·.1)).Nodup
  srt : l.Pairwise (fun a b => a.2.2 < b.2.2)
  pl : ∀ p ∈ l, p.2.2 ≤ n
  n0 : 0 ≤ n
  fl : ∀ p ∈ l, filterF p.1.2 = true ∧ 0 ≤ p.2.1 ∧ p.2.1 ≤ 2

theorem Inv.nil : Inv [] 0 := ⟨by simp, by simp, by simp, by decide, by simp⟩
theorem Inv.filter {l : SubL} {n : Int} (h : Inv l n) (p : (ByteArray × ByteArray) × (Int × Int) → Bool) : Inv (l.filter p) n :=
  ⟨(List.filter_sublist.map _).nodup h.nd, h.srt.sublist List.filter_sublist, fun x hx => h.pl x (List.mem_filter.1 hx).1, h.n0, fun x hx => h.fl x (List.mem_filter.1 hx).1⟩

theorem at_none_iff {l : SubL} {k : ByteArray × ByteArray} (h : at_ l k = none) : k ∉ l.map (·.1) := by
  intro hm
  obtain ⟨p, hp, rfl⟩ := List.mem_map.1 hm
  unfold at_ at h
  rw [Option.map_eq_none_iff, List.find?_eq_none] at h
  exact h p hp (by simp)
theorem at_some_mem {l : SubL} {k : ByteArray × ByteArray} {e : Int × Int} (h : at_ l k = some e) : k ∈ l.map (·.1) := by
  unfold at_ at h
  obtain ⟨p, hp, _⟩ := Option.map_eq_some_iff.1 h
  have h1 := List.find?_some hp
  have h2 := List.mem_of_find?_eq_some hp
  simp at h1
  exact List.mem_map.2 ⟨p, h2, h1⟩

theorem Inv.add {l : SubL} {n : Int} (h : Inv l n) (c f : ByteArray) (q : Int) : Inv (addF l n c f q).2.1 (addF l n c f q).2.2 ∧ (addF l n c f q).2.1.length ≤ l.length + 1 ∧ (addF l n c f q).2.2 ≤ n + 1 := by
  unfold addF
  split
  · exact ⟨h, by simp, by simp; omega⟩
  rename_i hf
  have hf' : filterF f = true := by simpa using hf
  split
  · exact ⟨h, by simp, by simp; omega⟩
  rename_i hq
  cases he : at_ l (c, f) with
  | none =>
    have hno := at_none_iff he
    simp only [put_, if_neg hno]
    refine ⟨⟨?_, ?_, ?_, by have := h.n0; omega, ?_⟩, by simp, by omega⟩
    · rw [List.map_append, List.nodup_append]
      refine ⟨h.nd, by simp, fun a ha b hb => ?_⟩
      simp at hb
      rintro rfl
      exact hno (hb ▸ ha)
    · rw [List.pairwise_append]
      refine ⟨h.srt, by simp, fun a ha b hb => ?_⟩
      simp at hb
      subst hb
      have := h.pl a ha
      show a.2.2 < n + 1
      omega
    · intro p hp
      rcases List.mem_append.1 hp with hp | hp
      · have := h.pl p hp; omega
      · simp at hp; subst hp; simp
    · intro p hp
      rcases List.mem_append.1 hp with hp | hp
      · exact h.fl p hp
      · simp at hp; subst hp; exact ⟨hf', show 0 ≤ q by omega, show q ≤ 2 by omega⟩
  | some e =>
    have hm := at_some_mem he
    simp only [put_, if_pos hm]
    have hk : ∀ p ∈ l, (if p.1 = (c, f) then (((c, f) : ByteArray × ByteArray), (q, e.2)) else p).2.2 = p.2.2 := by
      intro p hp
      split
      · rename_i hpk
        have := (at_mem h.nd p.1 p.2).1 hp
        rw [hpk, he] at this
        rw [Option.some.inj this]
      · rfl
    refine ⟨⟨?_, ?_, ?_, h.n0, ?_⟩, by simp, by omega⟩
    · have := put_keys l (c, f) (q, e.2)
      unfold put_ at this
      rw [if_pos hm, if_pos hm] at this
      rw [this]
      exact h.nd
    · rw [List.pairwise_map]
      refine h.srt.imp_of_mem ?_
      intro a b ha hb hab
      rw [hk a ha, hk b hb]
      exact hab
    · intro p hp
      obtain ⟨x, hx, rfl⟩ := List.mem_map.1 hp
      rw [hk x hx]
      exact h.pl x hx
    · intro p hp
      obtain ⟨x, hx, rfl⟩ := List.mem_map.1 hp
      split
      · exact ⟨hf', show 0 ≤ q by omega, show q ≤ 2 by omega⟩
      · exact h.fl x hx

theorem Inv.drop {l : SubL} {n : Int} (h : Inv l n) (c f : ByteArray) : Inv (dropF l n c f).2.1 (dropF l n c f).2.2 ∧ (dropF l n c f).2.1.length ≤ l.length + 1 ∧ (dropF l n c f).2.2 ≤ n + 1 := by
  unfold dropF
  split
  · exact ⟨h, by simp, by simp; omega⟩
  · refine ⟨h.filter _, ?_, by simp; omega⟩
    have := List.length_filter_le (fun p : (ByteArray × ByteArray) × (Int × Int) => decide (p.1 ≠ (c, f))) l
    show (dropL l c f).length ≤ _
    unfold dropL
    omega
theorem Inv.gone {l : SubL} {n : Int} (h : Inv l n) (c : ByteArray) : Inv (goneL l c) n ∧ (goneL l c).length ≤ l.length + 1 := by
  refine ⟨h.filter _, ?_⟩
  have := List.length_filter_le (fun p : (ByteArray × ByteArray) × (Int × Int) => decide (p.1.1 ≠ c)) l
  unfold goneL
  omega

/-- The greatest quality of those of a client's filters that take a name. -/
def bestOf (own : List (ByteArray × Int)) (name : ByteArray) : Int := own.foldl (fun b p => if (matchF p.1 name).1 = true then max b p.2 else b) (-1)
def foundOf (ws : List (ByteArray × Int)) (c : ByteArray) : Int := ws.foldl (fun b p => if p.1 = c then p.2 else b) (-1)

theorem best_fold (name c : ByteArray) : ∀ (l : SubL) (o : Option Int), (∀ p ∈ l, 0 ≤ p.2.1) → (∀ q, o = some q → 0 ≤ q) →
    (ofL l c).foldl (fun b p => if (matchF p.1 name).1 = true then max b p.2 else b) (o.getD (-1)) =
      (l.foldl (fun o p => if p.1.1 = c ∧ (matchF p.1.2 name).1 = true then some (max (o.getD 0) p.2.1) else o) o).getD (-1)
  | [], o, _, _ => rfl
  | p :: l, o, h, ho => by
    have hp := h p (.head _)
    rw [List.foldl_cons]
    unfold ofL
    rw [List.filter_cons]
    by_cases hc : p.1.1 = c
    · rw [if_pos (by simpa using hc), List.map_cons, List.foldl_cons]
      by_cases hm : (matchF p.1.2 name).1 = true
      · rw [if_pos hm, if_pos ⟨hc, hm⟩]
        have e : max (o.getD (-1)) p.2.1 = (some (max (o.getD 0) p.2.1)).getD (-1) := by
          cases o with
          | none => simp; omega
          | some x => rfl
        rw [e]
        exact best_fold name c l _ (fun x hx => h x (.tail _ hx)) (fun q hq => by have := Option.some.inj hq; omega)
      · rw [if_neg hm, if_neg (fun x => hm x.2)]
        exact best_fold name c l _ (fun x hx => h x (.tail _ hx)) ho
    · rw [if_neg (by simpa using hc), if_neg (fun x => hc x.1)]
      exact best_fold name c l _ (fun x hx => h x (.tail _ hx)) ho

theorem best_of {l : SubL} {n : Int} (h : Inv l n) (name c : ByteArray) : bestOf (ofL l c) name = (wantOf l name c).getD (-1) := best_fold name c l none (fun p hp => (h.fl p hp).2.1) (fun q hq => by cases hq)

theorem found_fold (c : ByteArray) : ∀ (ws : List (ByteArray × Int)) (b : Int), (∀ p ∈ ws, p.1 = c → p.2 = b) → ws.foldl (fun b p => if p.1 = c then p.2 else b) b = b
  | [], b, _ => rfl
  | p :: ws, b, h => by
    rw [List.foldl_cons]
    have e : (if p.1 = c then p.2 else b) = b := by
      split
      · exact h p (.head _) (by assumption)
      · rfl
    rw [e]
    exact found_fold c ws b (fun x hx => h x (.tail _ hx))
theorem found_mem (c : ByteArray) (q : Int) : ∀ (ws : List (ByteArray × Int)) (b : Int), (c, q) ∈ ws → (∀ p ∈ ws, p.1 = c → p.2 = q) → ws.foldl (fun b p => if p.1 = c then p.2 else b) b = q
  | p :: ws, b, hm, h => by
    rw [List.foldl_cons]
    by_cases hp : p.1 = c
    · rw [if_pos hp, h p (.head _) hp]
      exact found_fold c ws q (fun x hx => h x (.tail _ hx))
    · rw [if_neg hp]
      rcases List.mem_cons.1 hm with e | hm
      · exact absurd (by rw [← e]) hp
      · exact found_mem c q ws b hm (fun x hx => h x (.tail _ hx))
theorem found_of {l : SubL} {name : ByteArray} {ws : List (ByteArray × Int)} (h : IsFind l name ws) (c : ByteArray) : foundOf ws c = (wantOf l name c).getD (-1) := by
  unfold foundOf
  cases hw : wantOf l name c with
  | none => exact found_fold c ws _ (fun p hp e => by subst e; have := (h.2 p.1 p.2).1 hp; rw [hw] at this; cases this)
  | some q => exact found_mem c q ws _ ((h.2 c q).2 hw) (fun p hp e => by subst e; have := (h.2 p.1 p.2).1 hp; rw [hw] at this; exact (Option.some.inj this).symm)
theorem best_found {l : SubL} {n : Int} (h : Inv l n) {name : ByteArray} {ws : List (ByteArray × Int)} (hf : IsFind l name ws) (c : ByteArray) : bestOf (ofL l c) name = foundOf ws c := (best_of h name c).trans (found_of hf c).symm

theorem nodup_len {α : Type} [DecidableEq α] : ∀ (xs ys : List α), xs.Nodup → (∀ x ∈ xs, x ∈ ys) → xs.length ≤ ys.length
  | [], _, _, _ => by simp
  | x :: xs, ys, h, hs => by
    have hx := hs x (.head _)
    have h' := List.nodup_cons.1 h
    have ih := nodup_len xs (ys.erase x) h'.2 (fun y hy => (List.mem_erase_of_ne (fun e => h'.1 (by rw [← e]; exact hy))).2 (hs y (.tail _ hy)))
    rw [List.length_erase_of_mem hx] at ih
    have : 0 < ys.length := List.length_pos_of_mem hx
    simp only [List.length_cons]
    omega
theorem want_mem (name c : ByteArray) : ∀ (l : SubL) (o : Option Int), (¬ ∃ p ∈ l, p.1.1 = c) → l.foldl (fun o p => if p.1.1 = c ∧ (matchF p.1.2 name).1 = true then some (max (o.getD 0) p.2.1) else o) o = o
  | [], _, _ => rfl
  | p :: l, o, h => by
    rw [List.foldl_cons, if_neg (fun x => h ⟨p, .head _, x.1⟩)]
    exact want_mem name c l o (fun ⟨q, hq, e⟩ => h ⟨q, .tail _ hq, e⟩)
theorem find_len {l : SubL} {name : ByteArray} {ws : List (ByteArray × Int)} (h : IsFind l name ws) : ws.length ≤ l.length := by
  have h1 : (ws.map (·.1)).Nodup := by
    unfold List.Nodup
    rw [List.pairwise_map]
    exact h.1.imp (fun {a b} hab e => by rw [e, blt_irrefl] at hab; cases hab)
  have h2 := nodup_len (ws.map (·.1)) (l.map (·.1.1)) h1 (fun c hc => by
    obtain ⟨⟨c', q⟩, hp, rfl⟩ := List.mem_map.1 hc
    have hw := (h.2 c' q).1 hp
    refine Classical.byContradiction fun hno => ?_
    unfold wantOf at hw
    rw [want_mem name c' l none (fun ⟨p, hp, e⟩ => hno (List.mem_map.2 ⟨p, hp, e⟩))] at hw
    cases hw)
  simpa using h2

end Go.Proofs.YtaaaifeommdblaaDoor

namespace Go.Proofs.YtaaaifeommdblaaDoor
open Go.RowKit Go.Sort

structure OpR where
  call : Int
  client : ByteArray
  text : ByteArray
  qos : Int
deriving Inhabited
def opE (o : OpR) : List Value := [.int .i64 o.call, .string o.client, .string o.text, .int .i64 o.qos]
def okOp (o : OpR) : Bool := decide (o.text.size ≤ 100) && decide (o.client.size ≤ 100)
def fewF (l : List OpR) : Bool := decide (l.length ≤ 100) && l.all okOp

theorem flat4 (xs : List OpR) (k : Nat) (hk : k < xs.length) {x : OpR} (hx : xs[k] = x) :
    (xs.flatMap opE)[k * 4]? = some (.int .i64 x.call) ∧ (xs.flatMap opE)[k * 4 + 1]? = some (.string x.client) ∧ (xs.flatMap opE)[k * 4 + 2]? = some (.string x.text) ∧ (xs.flatMap opE)[k * 4 + 3]? = some (.int .i64 x.qos) := by
  have hg : xs[k]! = x := by rw [getElem!_pos xs k hk, hx]
  refine ⟨?_, ?_, ?_, ?_⟩
  · rw [flat_get (enc := opE) (k := 4) (fun _ => rfl) (by decide) xs _ (by omega), show (k * 4) / 4 = k by omega, show (k * 4) % 4 = 0 by omega, hg]; rfl
  · rw [flat_get (enc := opE) (k := 4) (fun _ => rfl) (by decide) xs _ (by omega), show (k * 4 + 1) / 4 = k by omega, show (k * 4 + 1) % 4 = 1 by omega, hg]; rfl
  · rw [flat_get (enc := opE) (k := 4) (fun _ => rfl) (by decide) xs _ (by omega), show (k * 4 + 2) / 4 = k by omega, show (k * 4 + 2) % 4 = 2 by omega, hg]; rfl
  · rw [flat_get (enc := opE) (k := 4) (fun _ => rfl) (by decide) xs _ (by omega), show (k * 4 + 3) / 4 = k by omega, show (k * 4 + 3) % 4 = 3 by omega, hg]; rfl

set_option maxHeartbeats 1000000 in
theorem few_walk (v : Value) (ops : List OpR) (w : World) (h : RowRd w v ops.length (ops.flatMap opE)) :
    Calls Tryd.prog 21 #[v] w fun e w' => e = .returned (.bool (fewF ops)) ∧ w' = w := by
  obtain ⟨ad, cap, rfl, had⟩ := h
  unfold fewF
  by_cases hl : ops.length ≤ 100
  · have E0 : decide ((100 : Int) < (ops.length : Int)) = false := decide_eq_false (by omega)
    have hl' : ops.length < 4611686018427387904 := by omega
    rw [decide_eq_true hl, Bool.true_and]
    obtain ⟨r, hr⟩ : ∃ r, r = ops.all okOp := ⟨_, rfl⟩
    rw [← hr]
    have HR := Lib.hid hr; clear hr hl
    go_enter Tryd.func21, Tryd.ntmps21
    go_wp2
    go_loopg [3] ops.length (fun gk i wx => ∃ k : Nat, k + gk = ops.length ∧ i = .int .i64 k ∧ (ops.take k).all okOp = true ∧ wx = w)
    case atStart => exact ⟨0, by omega, rfl, by simp, rfl⟩
    case round =>
      obtain ⟨k, hkg, rfl, hpre, rfl⟩ := hrel
      by_cases hk : k < ops.length
      · have hk' : decide (k < ops.length) = true := decide_eq_true hk
        obtain ⟨g1, o1, rfl, hg1, hc1⟩ := had (by omega)
        obtain ⟨x, hx⟩ : ∃ x, ops[k]'hk = x := ⟨_, rfl⟩
        obtain ⟨f0, f1, f2, f3⟩ := flat4 ops k hk hx
        have e1 := hc1 _ _ f1
        have e2 := hc1 _ _ f2
        simp only [← Nat.add_assoc] at e1 e2
        have HS : (ops.take (k + 1)).all okOp = okOp x := by
          rw [List.take_succ_eq_append_getElem hk, List.all_append, hpre, hx]; simp
        have HS' := Lib.hid HS; clear HS
        obtain ⟨xc, xl, xt, xq⟩ := x
        simp only [okOp] at HS'
        by_cases h1 : xt.size ≤ 100
        · have E1 : decide ((100 : Int) < (xt.size : Int)) = false := decide_eq_false (by omega)
          by_cases h2 : xl.size ≤ 100
          · have E2 : decide ((100 : Int) < (xl.size : Int)) = false := decide_eq_false (by omega)
            clear f0 f1 f2 f3 hc1
            go_wp2
            go_roundg (gk - 1)
            case measure => omega
            case rel => exact ⟨k + 1, by omega, by simp, by rw [HS'.out, decide_eq_true h1, decide_eq_true h2]; rfl, rfl⟩
          · have E2 : decide ((100 : Int) < (xl.size : Int)) = true := decide_eq_true (by omega)
            have hrt : r = false := by
              rw [HR.out, List.all_eq_false]
              exact ⟨_, List.getElem_mem hk, by rw [hx]; simp [okOp, h2]⟩
            subst hrt
            clear f0 f1 f2 f3 hc1
            go_wp2
            go_ret
            exact ⟨rfl, rfl⟩
        · have E1 : decide ((100 : Int) < (xt.size : Int)) = true := decide_eq_true (by omega)
          have hrt : r = false := by
            rw [HR.out, List.all_eq_false]
            exact ⟨_, List.getElem_mem hk, by rw [hx]; simp [okOp, h1]⟩
          subst hrt
          clear f0 f1 f2 f3 hc1
          go_wp2
          go_ret
          exact ⟨rfl, rfl⟩
      · obtain rfl : k = ops.length := by omega
        have hk' : decide (ops.length < ops.length) = false := by simp
        have hrt : r = true := by rw [HR.out, ← hpre, List.take_length]
        subst hrt
        go_wp2
        go_ret
        exact ⟨rfl, rfl⟩
  · have E0 : decide ((100 : Int) < (ops.length : Int)) = true := decide_eq_true (by omega)
    rw [decide_eq_false hl, Bool.false_and]
    go_enter Tryd.func21, Tryd.ntmps21
    go_wp2
    go_ret
    exact ⟨rfl, rfl⟩

end Go.Proofs.YtaaaifeommdblaaDoor

/- subs.Index.Find: the walk. -/
import Derived.Test.YtaaaifeommdblaaDoorSubsAdd
import Derived.Test.YtaaaifeommdblaaDoorCmp
namespace Go.Proofs.YtaaaifeommdblaaDoor
open Go.RowKit Go.Sort

def strV (s : ByteArray) : Value := .string s
def intV (q : Int) : Value := .int .i64 q
def wantE (x : ByteArray × Int) : List Value := [.string x.1, .int .i64 x.2]

/-- The greatest of what is told of a client. -/
def wantOf (l : SubL) (name c : ByteArray) : Option Int :=
  l.foldl (fun o p => if p.1.1 = c ∧ (matchF p.1.2 name).1 = true then some (max (o.getD 0) p.2.1) else o) none
/-- Who wants a name: by rising texts. -/
def IsFind (l : SubL) (name : ByteArray) (ws : List (ByteArray × Int)) : Prop :=
  ws.Pairwise (fun a b => blt a.1 b.1 = true) ∧ ∀ c q, (c, q) ∈ ws ↔ wantOf l name c = some q

theorem foldl_perm {α β : Type} {f : β → α → β} (hf : ∀ b x y, f (f b x) y = f (f b y) x) : ∀ {l l' : List α}, l.Perm l' → ∀ b, l.foldl f b = l'.foldl f b := by
  intro l l' h
  induction h with
  | nil => intro b; rfl
  | cons x _ ih => intro b; exact ih _
  | swap x y l => intro b; simp only [List.foldl_cons]; rw [hf]
  | trans _ _ ih1 ih2 => intro b; rw [ih1, ih2]

theorem wantOf_perm {l l' : SubL} (h : l.Perm l') (name c : ByteArray) : wantOf l name c = wantOf l' name c := by
  unfold wantOf
  apply foldl_perm _ h
  intro b x y
  by_cases hx : x.1.1 = c ∧ (matchF x.1.2 name).1 = true <;> by_cases hy : y.1.1 = c ∧ (matchF y.1.2 name).1 = true
  · simp only [if_pos hx, if_pos hy, Option.getD_some]
    congr 1
    rw [Int.max_assoc, Int.max_comm x.2.1, ← Int.max_assoc]
  · simp only [if_pos hx, if_neg hy]
  · simp only [if_neg hx, if_pos hy]
  · simp only [if_neg hx, if_neg hy]

theorem closure_find (x y : ByteArray × Int) (W : World) : Calls Tryd.prog 47 #[.agg #[.string x.1, .int .i64 x.2], .agg #[.string y.1, .int .i64 y.2]] W fun e w' => e = .returned (.int .i64 (cmpS x.1 y.1)) ∧ ∃ q os', w' = grow (W.drewN q) os' := by
  have hcon := fun W' => compare_str x.1 y.1 W'
  generalize cmpS x.1 y.1 = r at hcon ⊢
  have HC := Lib.hid hcon; clear hcon
  go_enter Tryd.func47, Tryd.ntmps47
  go_wp2_with (go_at_call 36; refine (HC.out _).mono ?_; rintro e w' ⟨rfl, rfl⟩)
  go_ret
  exact ⟨rfl, 0, _, by rw [alloc_eq_grow, alloc_eq_grow, grow_grow]; rfl⟩

theorem aggWant : ∀ w, (isAgg (Tryd.sortWant_ren.t 24)).run Tryd.prog w = .ok true w := fun _ => by kernel_rfl
theorem sizeWant : ∀ w, (Go.sizeOf (Tryd.sortWant_ren.t 24)).run Tryd.prog w = .ok 2 w := fun _ => by kernel_rfl

/-- The sort of what is found. -/
theorem sort_want (w : World) (base : Nat) (v : Value) (zs : List (ByteArray × Int)) (hown : w.ownsRow base 67 2 v zs.length (zs.flatMap wantE)) (hsz : zs.length < 4611686018427387904) :
    Calls Tryd.prog 46 #[v, .func (.func 47) #[] #[]] w fun e' w' => e' = .returned (.tuple #[]) ∧ ∃ ys, Sorted (ltOf fun x y : ByteArray × Int => cmpS x.1 y.1) zs ys ∧ w'.ownsRow base 67 2 v ys.length (ys.flatMap wantE) ∧ w.grownBy w' v.ownBlock :=
  sort_row Tryd.sortWant wantE 2 (fun _ => rfl) (by decide) (fun x u hu => by simp [wantE] at hu; rcases hu with rfl | rfl <;> rfl) aggWant sizeWant (fun x y => cmpS x.1 y.1) (swo_key (fun x : ByteArray × Int => x.1)) _ #[]
    (enters_of Tryd.func47 (by kernel_rfl) rfl) w base _ v zs (fun _ _ _ _ _ _ _ x y => closure_find x y _) hown hsz

theorem find_nil (name : ByteArray) (w : World) :
    Calls Tryd.prog 29 #[.pointer none, .string name] w fun e w' => e = .returned (.tuple #[.slice none 0 0, .int .i64 3]) ∧ Below w.heap.size w w' := by
  go_enter Tryd.func29, Tryd.ntmps29
  go_wp2
  go_ret2
  exact ⟨rfl, Below.refl _ _⟩

theorem find_bad (g m : Nat) (l : SubL) (n : Int) (name : ByteArray) (w : World) (hG : Glob w) (_hx : IdxAt w g m l n) (hn : nameF name = false) :
    Calls Tryd.prog 29 #[.pointer (some ⟨g, 0, none⟩), .string name] w fun e w' => e = .returned (.tuple #[.slice none 0 0, .int .i64 120]) ∧ Below w.heap.size w w' := by
  have HN := Lib.hid (name_walk name w hG)
  rw [hn] at HN
  clear hn
  go_enter Tryd.func29, Tryd.ntmps29
  go_wp2_with (go_at_call 33; refine HN.out.mono ?_; rintro e w2 ⟨rfl, hb2⟩)
  go_ret2
  exact ⟨rfl, hb2⟩

/-- What the first loop has gathered. -/
def Best (done : SubL) (name : ByteArray) (best : List (ByteArray × Int)) : Prop := ∀ c, at_ best c = wantOf done name c

theorem at_cons {κ ν : Type} [DecidableEq κ] (p : κ × ν) (l : List (κ × ν)) (k : κ) : at_ (p :: l) k = if p.1 = k then some p.2 else at_ l k := by
  unfold at_
  rw [List.find?_cons]
  by_cases h : p.1 = k <;> simp [h]

theorem at_append {κ ν : Type} [DecidableEq κ] (l : List (κ × ν)) (p : κ × ν) (k : κ) (hp : p.1 ∉ l.map (·.1)) : at_ (l ++ [p]) k = if p.1 = k then some p.2 else at_ l k := by
  induction l with
  | nil => simp [at_cons]
  | cons q l ih =>
    simp only [List.map_cons, List.mem_cons, not_or] at hp
    rw [List.cons_append, at_cons, at_cons, ih hp.2]
    by_cases h1 : q.1 = k
    · rw [if_pos h1, if_pos h1, if_neg (fun e => hp.1 (e.trans h1.symm))]
    · rw [if_neg h1, if_neg h1]

theorem at_map {κ ν : Type} [DecidableEq κ] (k k' : κ) (v : ν) : ∀ (l : List (κ × ν)), k ∈ l.map (·.1) → at_ (l.map (fun p => if p.1 = k then (k, v) else p)) k' = if k' = k then some v else at_ l k'
  | [], h => by simp at h
  | q :: l, h => by
    rw [List.map_cons, at_cons, at_cons]
    by_cases hq : q.1 = k
    · rw [if_pos hq]
      by_cases hk : k' = k
      · subst hk; simp
      · simp only [if_neg hk, if_neg (Ne.symm hk)]
        rw [if_neg (by rw [hq]; exact Ne.symm hk)]
        by_cases hin : k ∈ l.map (·.1)
        · rw [at_map k k' v l hin, if_neg hk]
        · have : l.map (fun p => if p.1 = k then (k, v) else p) = l := by
            conv => rhs; rw [← List.map_id l]
            apply List.map_congr_left
            intro p hp
            rw [if_neg (fun e => hin (List.mem_map.2 ⟨p, hp, e⟩))]; rfl
          rw [this]
    · rw [if_neg hq]
      have hin : k ∈ l.map (·.1) := by
        rcases List.mem_cons.1 h with h | h
        · exact absurd h.symm hq
        · exact h
      rw [at_map k k' v l hin]
      by_cases hk : k' = k
      · rw [if_pos hk, if_neg (by rw [hk]; exact hq), if_pos hk]
      · rw [if_neg hk, if_neg hk]

theorem at_put {κ ν : Type} [DecidableEq κ] (l : List (κ × ν)) (k k' : κ) (v : ν) : at_ (put_ l k v) k' = if k' = k then some v else at_ l k' := by
  unfold put_
  split
  · rename_i h; exact at_map k k' v l h
  · rename_i h
    rw [at_append l (k, v) k' h]
    by_cases hk : k' = k
    · rw [if_pos hk.symm, if_pos hk]
    · rw [if_neg (Ne.symm hk), if_neg hk]

theorem put_length {κ ν : Type} [DecidableEq κ] (l : List (κ × ν)) (k : κ) (v : ν) : (put_ l k v).length ≤ l.length + 1 := by
  unfold put_; split <;> simp

theorem best_skip {done : SubL} {name : ByteArray} {best : List (ByteArray × Int)} (h : Best done name best) (p : (ByteArray × ByteArray) × (Int × Int)) (ht : (matchF p.1.2 name).1 = false) : Best (done ++ [p]) name best := by
  intro c
  rw [h c]
  unfold wantOf
  rw [List.foldl_append]
  simp [ht]

theorem best_take {done : SubL} {name : ByteArray} {best : List (ByteArray × Int)} (h : Best done name best) (p : (ByteArray × ByteArray) × (Int × Int)) (ht : (matchF p.1.2 name).1 = true) : Best (done ++ [p]) name (put_ best p.1.1 (max ((at_ best p.1.1).getD 0) p.2.1)) := by
  intro c
  rw [at_put, h c, h p.1.1]
  unfold wantOf
  rw [List.foldl_append]
  simp only [List.foldl_cons, List.foldl_nil, ht, and_true]
  by_cases hc : c = p.1.1
  · subst hc; simp
  · rw [if_neg hc, if_neg (Ne.symm hc)]

theorem perm_step {α : Type} {done a b : List α} {p : α} {l : List α} (h : (done ++ (a ++ p :: b)).Perm l) : ((done ++ [p]) ++ (a ++ b)).Perm l := by
  refine List.Perm.trans ?_ h
  rw [List.append_assoc]
  refine List.Perm.append_left done ?_
  show (p :: (a ++ b)).Perm _
  exact List.perm_middle.symm

theorem is_find {l : SubL} {name : ByteArray} {best ys : List (ByteArray × Int)} (h : Best l name best) (hn : (best.map (·.1)).Nodup) (hp : ys.Perm best)
    (hs : ys.Pairwise (fun a b => ltOf (fun x y : ByteArray × Int => cmpS x.1 y.1) b a = false)) : IsFind l name ys := by
  refine ⟨?_, fun c q => ?_⟩
  · have hnd : ys.Pairwise (fun a b => a.1 ≠ b.1) := by
      have h1 : (ys.map (·.1)).Nodup := (hp.map _).nodup_iff.2 hn
      unfold List.Nodup at h1
      rw [List.pairwise_map] at h1
      exact h1
    refine (hs.and hnd).imp ?_
    rintro a b ⟨h1, h2⟩
    rw [ltOf_cmpS (fun x : ByteArray × Int => x.1)] at h1
    cases h3 : blt a.1 b.1
    · exact absurd (blt_total h3 h1) h2
    · rfl
  · rw [hp.mem_iff, at_mem hn, h c]

set_option maxHeartbeats 2000000 in
set_option maxRecDepth 100000 in
theorem find_walk (g m : Nat) (l : SubL) (n : Int) (name : ByteArray) (w : World) (hG : Glob w) (hx : IdxAt w g m l n) (hn : nameF name = true) (hl : l.length ≤ 65536) :
    Calls Tryd.prog 29 #[.pointer (some ⟨g, 0, none⟩), .string name] w fun e w' =>
      (∃ v ws, e = .returned (.tuple #[v, .int .i64 0]) ∧ IsFind l name ws ∧ w'.ownsRow w.heap.size 67 2 v ws.length (ws.flatMap wantE)) ∧ Below w.heap.size w w' := by
  have HN := Lib.hid (name_walk name w hG)
  rw [hn] at HN
  have hmm := @run_makeMap Tryd.prog
  go_enter Tryd.func29, Tryd.ntmps29
  go_wp2_with (go_at_call 33; refine HN.out.mono ?_; rintro e w2 ⟨rfl, hb2⟩; have hx2 := hx.below hb2; have hbm : Below w2.heap.size w2 (w2.alloc (.map #[] 0)) := (Below.refl _ _).alloc (Nat.le_refl _) _; have hx3 := hx2.below hbm; have c0 := hx3.c0; obtain ⟨o1, hr1, hg1⟩ := hx3.map.range Tryd.underlying82)
  have hsz1 : (w2.alloc (.map #[] 0)).heap.size = w2.heap.size + 1 := by simp
  rw [hsz1] at hg1
  have hm0 : MapIs strV intV ((w2.alloc (.map #[] 0)).alloc o1) w2.heap.size [] := (MapIs.made strV intV w2).below ((Below.refl _ _).alloc (Nat.le_refl _) _)
  have hB0 : Below w.heap.size w ((w2.alloc (.map #[] 0)).alloc o1) := (hb2.alloc hb2.size _).alloc (by rw [hsz1]; have := hb2.size; omega) _
  have hmx : m < w2.heap.size := hx2.lt.2
  have hwle := hb2.size
  obtain ⟨mb, hmb⟩ : ∃ mb, w2.heap.size = mb := ⟨_, rfl⟩
  rw [hmb] at hg1 hm0 hmx hwle ⊢
  clear hsz1 c0 hr1 hbm HN hmm hn hmb
  go_loopg [8] l.length (fun gk _ wx => ∃ (left done : SubL) (best : List (ByteArray × Int)), left.length = gk ∧ (done ++ left).Perm l ∧ Ranges keyV entV wx (mb + 1) m l left ∧ MapIs strV intV wx mb best ∧ Best done name best ∧ best.length ≤ done.length ∧ Below w.heap.size w wx)
  case atStart => exact ⟨l, [], [], rfl, List.Perm.refl _, hg1, hm0, fun _ => rfl, Nat.le_refl _, hB0⟩
  case round =>
    obtain ⟨left, done, best, hlen, hperm, hrg, hmp, hbest, hbl, hnx⟩ := hrel
    rcases hrg.next (P := Tryd.prog) 0 with ⟨rfl, hrun⟩ | ⟨a, ⟨⟨c, f⟩, ⟨q, pl⟩⟩, b, w5, hle, hrun, hent, hrg5, hg5⟩
    · obtain ⟨o3, hr3, hg3⟩ := hmp.range (P := Tryd.prog) Tryd.underlying94
      have hI : (Tryd.prog.info? 67).map (fun i => (i.zero, i.size, i.bytes)) = some (some (.agg #[.string ⟨#[]⟩, .int .i64 0]), 2, 24) := by kernel_rfl
      obtain ⟨i0, hi, hz0, hz1, hz2⟩ := info_parts hI
      clear hI
      have hnx3 : Below w.heap.size w (wr.alloc o3) := hnx.alloc hnx.size _
      have hmblt := hmp.lt
      have hdl : done.length ≤ 65536 := by have := hperm.length_eq; simp at this; omega
      have hbest' : Best l name best := fun c => by rw [hbest c]; exact wantOf_perm (by simpa using hperm) name c
      have hnod := hmp.nodup
      clear hbest hperm hmp hrg
      go_wp2
      obtain ⟨ib, hib⟩ : ∃ ib, wr.heap.size = ib := ⟨_, rfl⟩
      rw [hib] at hg3 hmblt ⊢
      go_loopg [12] best.length (fun gk out wx => ∃ (left done2 : List (ByteArray × Int)), left.length = gk ∧ (done2 ++ left).Perm best ∧ Ranges strV intV wx ib mb best left ∧ wx.ownsRow w.heap.size 67 2 out done2.length (done2.flatMap wantE) ∧ Below w.heap.size w wx)
      case atStart => exact ⟨best, [], rfl, List.Perm.refl _, hg3, World.ownsRow_nil _ _ _ _, hnx3⟩
      case round =>
        obtain ⟨left, done2, hlen, hperm2, hrg, hown, hnx4⟩ := hrel
        have hd2 : done2.length ≤ best.length := by have := hperm2.length_eq; simp at this; omega
        rcases hrg.next (P := Tryd.prog) 0 with ⟨rfl, hrun⟩ | ⟨a, ⟨c, q⟩, b, w5, hle, hrun, hent, hrg5, hg5⟩
        · have HS := Lib.hid (sort_want _ _ _ _ hown (by omega))
          go_wp2_with (go_at_call 46; refine HS.out.mono ?_; rintro e w9 ⟨rfl, ys, hsd, hown9, hg9⟩)
          go_ret2
          have hpy : ys.Perm best := hsd.1.trans (by simpa using hperm2)
          exact ⟨⟨_, ys, rfl, is_find hbest' hnod hpy hsd.2, hown9⟩, below_own hnx4 hnx4.size hown hg9 (Nat.le_refl _)⟩
        · simp only [strV, intV] at hrun hent
          have hnr := (hrg.ne_own hown).1
          have hown5 := hown.kept hg5 (.inr hnr)
          have hlt := hrg.lt
          have hB5 : Below w.heap.size w w5 := hnx4.grown hg5 hnx4.size (fun k e => by cases e; omega)
          have hll : left.length = (a ++ b).length + 1 := by rw [hle]; simp; omega
          rw [hle] at hperm2
          have HP := Lib.hid (perm_step hperm2); clear hperm2
          have hrg6 := hrg5.below ((Below.refl w5.heap.size w5).alloc (Nat.le_refl _) (.cells #[.string c, .int .i64 q] 67))
          go_wp2_with (at_builtin; refine wpList_append_own _ rfl _ _ 60 rfl w.heap.size 67 i0 (.agg #[.string ⟨#[]⟩, .int .i64 0]) 2 24 Tryd.underlying60 hi hz0 hz1 hz2 rfl (by decide) _ _ _ rfl (hown5.alloc _) ⟨w5.heap.size, 0, none⟩ 1 1 [.string c, .int .i64 q] rfl rfl (cells_new _ _ _) ?c2 ?c3 ?c4 ?c5 ?_)
          case c2 => intro u hu; simp at hu; rcases hu with rfl | rfl <;> rfl
          case c3 => unfold maxLen; omega
          case c4 => omega
          case c5 => have := hB5.size; simp; omega
          intro v' w6 hown6 hgrow6 _
          have hn6 := (hrg6.ne_own (hown5.alloc _))
          have hrg7 := hrg6.grown hgrow6 hn6.1 hn6.2
          have hB6 := below_own (hB5.alloc hB5.size _) (by have := hB5.size; simp; omega) (hown5.alloc _) hgrow6 (Nat.le_refl _)
          go_wp2
          go_roundg (a ++ b).length
          case measure => omega
          case rel => exact ⟨a ++ b, done2 ++ [(c, q)], rfl, HP.out, hrg7, by rw [List.length_append, List.flatMap_append]; exact hown6, hB6⟩
    · simp only [keyV, entV] at hrun hent
      have hlt := hrg.lt
      have hmblt := hmp.lt
      have hmp5 : MapIs strV intV w5 mb best := hmp.same (hg5.block mb hmblt (by simp))
      have hnx5 : Below w.heap.size w w5 := hnx.grown hg5 hnx.size (fun k e => by cases e; omega)
      have hb6 : Below w5.heap.size w5 ((w5.alloc (.cells #[.string c, .string f] 86)).alloc (.cells #[.int .i64 q, .int .i64 pl] 88)) := ((Below.refl _ _).alloc (Nat.le_refl _) _).alloc (by simp) _
      have HM := Lib.hid (matches_walk f name _ (hG.below' (hnx5.trans (hb6.mono hnx5.size))))
      have k0 : ((w5.alloc (.cells #[.string c, .string f] 86)).alloc (.cells #[.int .i64 q, .int .i64 pl] 88)).cell? ⟨w5.heap.size, 0, none⟩ = some (.string c) := by
        rw [World.cell?_alloc_past _ _ _ (by simp), World.cell?_alloc_at _ _ _ _ rfl]; rfl
      have v0 : ((w5.alloc (.cells #[.string c, .string f] 86)).alloc (.cells #[.int .i64 q, .int .i64 pl] 88)).cell? ⟨w5.heap.size + 1, 0, none⟩ = some (.int .i64 q) := by
        rw [World.cell?_alloc_at _ _ _ _ (by simp)]; rfl
      obtain ⟨tk, htk⟩ : ∃ tk, tk = (matchF f name).1 := ⟨_, rfl⟩
      rw [← htk] at HM
      have look := fun W' (h : MapIs strV intV W' mb best) => h.look strKeys Tryd.underlying94 (intV 0) zeroInt c false
      have upd := fun W' (h : MapIs strV intV W' mb best) => h.put strKeys Tryd.underlying94 c (max ((at_ best c).getD 0) q)
      have hval : ((at_ best c).map intV).getD (intV 0) = .int .i64 ((at_ best c).getD 0) := by cases at_ best c <;> rfl
      simp only [Bool.false_eq_true, if_false] at look
      simp only [hval] at look
      obtain ⟨z, hz⟩ : ∃ z, z = (at_ best c).getD 0 := ⟨_, rfl⟩
      rw [← hz] at look upd
      simp only [intV] at upd
      have LOOK := Lib.hid look; have UPD := Lib.hid upd; have HZ := Lib.hid hz; have HT := Lib.hid htk; clear look upd hval hz htk
      have hll : left.length = (a ++ b).length + 1 := by rw [hle]; simp; omega
      rw [hle] at hperm
      have HP := Lib.hid (perm_step hperm)
      cases tk
      · go_wp2_with (go_at_call 38; refine HM.out.mono ?_; rintro e w7 ⟨rfl, hb7⟩)
        go_roundg (a ++ b).length
        case measure => omega
        case rel => exact ⟨a ++ b, done ++ [((c, f), (q, pl))], best, rfl, HP.out, (hrg5.below hb6).below hb7, (hmp5.below hb6).below hb7, best_skip hbest _ HT.out.symm, by simp; omega, hnx5.trans ((hb6.trans (hb7.mono hb6.size)).mono hnx5.size)⟩
      · go_wp2_with (go_at_call 38; refine HM.out.mono ?_; rintro e w7 ⟨rfl, hb7⟩; obtain ⟨cc, _⟩ := bcell hb7; have k0' := (cc _ 0 (by simp; omega)).trans k0; have v0' := (cc _ 0 (by simp)).trans v0; clear cc; have hmp7 := (hmp5.below hb6).below hb7; have L1 := LOOK.out _ hmp7; obtain ⟨o2, U1, hmp8⟩ := UPD.out _ hmp7)
        have hB7 := hnx5.trans ((hb6.trans (hb7.mono hb6.size)).mono hnx5.size)
        have hrg7 := (hrg5.below hb6).below hb7
        have hpl := put_length best c (max z q)
        rw [HZ.out] at hmp8 hpl
        go_roundg (a ++ b).length
        case measure => omega
        case rel => exact ⟨a ++ b, done ++ [((c, f), (q, pl))], _, rfl, HP.out, hrg7.same (World.putObj_heap_other (by omega)) (World.putObj_heap_other (by omega)), hmp8, best_take hbest ((c, f), (q, pl)) HT.out.symm, by simp; omega, hB7.grown (grownBy_putObj' _ mb _) hB7.size (fun k e => by cases e; omega)⟩

end Go.Proofs.YtaaaifeommdblaaDoor

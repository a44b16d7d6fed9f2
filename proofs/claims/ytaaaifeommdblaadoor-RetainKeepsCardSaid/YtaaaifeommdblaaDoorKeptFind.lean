/- retain.Kept.All, Find: the walks. -/
import Derived.Test.YtaaaifeommdblaaDoorKeptP
namespace Go.Proofs.YtaaaifeommdblaaDoor
open Go.RowKit Go.Sort

theorem boxed_two (W : World) (x y : MsgR) : Below W.heap.size W ((W.alloc (.cells #[.string x.topic, .string x.load, .int .i64 x.qos, .bool x.keep] 33)).alloc (.cells #[.string y.topic, .string y.load, .int .i64 y.qos, .bool y.keep] 33)) := ((Below.refl _ _).alloc (Nat.le_refl _) _).alloc (by simp) _

theorem closure_all (x y : MsgR) (W : World) : Calls Tryd.prog 35 #[.agg #[.string x.topic, .string x.load, .int .i64 x.qos, .bool x.keep], .agg #[.string y.topic, .string y.load, .int .i64 y.qos, .bool y.keep]] W fun e w' => e = .returned (.int .i64 (cmpS x.topic y.topic)) ∧ ∃ q os', w' = grow (W.drewN q) os' := by
  obtain ⟨x0, x1, x2, x3⟩ := x
  obtain ⟨y0, y1, y2, y3⟩ := y
  have hcon := fun W' => compare_str x0 y0 W'
  simp only
  generalize cmpS x0 y0 = r at hcon ⊢
  have HC := Lib.hid hcon; clear hcon
  go_enter Tryd.func35, Tryd.ntmps35
  go_wp2_with (go_at_call 36; refine (HC.out _).mono ?_; rintro e w' ⟨rfl, rfl⟩)
  go_ret
  exact ⟨rfl, 0, _, by rw [alloc_eq_grow, alloc_eq_grow, grow_grow]; rfl⟩
theorem closure_kfind (x y : MsgR) (W : World) : Calls Tryd.prog 39 #[.agg #[.string x.topic, .string x.load, .int .i64 x.qos, .bool x.keep], .agg #[.string y.topic, .string y.load, .int .i64 y.qos, .bool y.keep]] W fun e w' => e = .returned (.int .i64 (cmpS x.topic y.topic)) ∧ ∃ q os', w' = grow (W.drewN q) os' := by
  obtain ⟨x0, x1, x2, x3⟩ := x
  obtain ⟨y0, y1, y2, y3⟩ := y
  have hcon := fun W' => compare_str x0 y0 W'
  simp only
  generalize cmpS x0 y0 = r at hcon ⊢
  have HC := Lib.hid hcon; clear hcon
  go_enter Tryd.func39, Tryd.ntmps39
  go_wp2_with (go_at_call 36; refine (HC.out _).mono ?_; rintro e w' ⟨rfl, rfl⟩)
  go_ret
  exact ⟨rfl, 0, _, by rw [alloc_eq_grow, alloc_eq_grow, grow_grow]; rfl⟩

theorem aggMsg : ∀ w, (isAgg (Tryd.sortMsg_ren.t 24)).run Tryd.prog w = .ok true w := fun _ => by kernel_rfl
theorem sizeMsg : ∀ w, (Go.sizeOf (Tryd.sortMsg_ren.t 24)).run Tryd.prog w = .ok 4 w := fun _ => by kernel_rfl
theorem msg_one (x : MsgR) : ∀ u ∈ msgE x, u.oneCell' = true := fun u hu => by
  simp [msgE] at hu
  rcases hu with rfl | rfl | rfl | rfl <;> rfl

theorem sort_all (w : World) (base : Nat) (v : Value) (zs : List MsgR) (hown : w.ownsRow base 33 4 v zs.length (zs.flatMap msgE)) (hsz : zs.length < 4611686018427387904) :
    Calls Tryd.prog 34 #[v, .func (.func 35) #[] #[]] w fun e' w' => e' = .returned (.tuple #[]) ∧ ∃ ys, Sorted (ltOf fun x y : MsgR => cmpS x.topic y.topic) zs ys ∧ w'.ownsRow base 33 4 v ys.length (ys.flatMap msgE) ∧ w.grownBy w' v.ownBlock :=
  sort_row Tryd.sortMsg msgE 4 (fun _ => rfl) (by decide) msg_one aggMsg sizeMsg (fun x y => cmpS x.topic y.topic) (swo_key (fun x : MsgR => x.topic)) _ #[]
    (enters_of Tryd.func35 (by kernel_rfl) rfl) w base _ v zs (fun _ _ _ _ _ _ _ x y => closure_all x y _) hown hsz
theorem sort_kfind (w : World) (base : Nat) (v : Value) (zs : List MsgR) (hown : w.ownsRow base 33 4 v zs.length (zs.flatMap msgE)) (hsz : zs.length < 4611686018427387904) :
    Calls Tryd.prog 34 #[v, .func (.func 39) #[] #[]] w fun e' w' => e' = .returned (.tuple #[]) ∧ ∃ ys, Sorted (ltOf fun x y : MsgR => cmpS x.topic y.topic) zs ys ∧ w'.ownsRow base 33 4 v ys.length (ys.flatMap msgE) ∧ w.grownBy w' v.ownBlock :=
  sort_row Tryd.sortMsg msgE 4 (fun _ => rfl) (by decide) msg_one aggMsg sizeMsg (fun x y => cmpS x.topic y.topic) (swo_key (fun x : MsgR => x.topic)) _ #[]
    (enters_of Tryd.func39 (by kernel_rfl) rfl) w base _ v zs (fun _ _ _ _ _ _ _ x y => closure_kfind x y _) hown hsz

theorem msgs_sorted {l done : KeptL} {ys : List MsgR} (hn : (l.map (·.1)).Nodup) (ht : ∀ p ∈ l, p.2.topic = p.1) (hp : done.Perm l) (hs : Sorted (ltOf fun x y : MsgR => cmpS x.topic y.topic) (done.map (·.2)) ys) : SortedOf l ys := by
  have hpy : ys.Perm (l.map (·.2)) := hs.1.trans (hp.map _)
  refine ⟨hpy, ?_⟩
  have hnd : ys.Pairwise (fun a b => a.topic ≠ b.topic) := by
    have h1 : (ys.map (·.topic)).Nodup := by
      refine (hpy.map _).nodup_iff.2 ?_
      rw [List.map_map]
      have : l.map ((fun x : MsgR => x.topic) ∘ (·.2)) = l.map (·.1) := List.map_congr_left (fun p hp => ht p hp)
      rw [this]; exact hn
    unfold List.Nodup at h1
    rw [List.pairwise_map] at h1
    exact h1
  refine (hs.2.and hnd).imp ?_
  rintro a b ⟨h1, h2⟩
  rw [ltOf_cmpS (fun x : MsgR => x.topic)] at h1
  cases h3 : blt a.topic b.topic
  · exact absurd (blt_total h3 h1) h2
  · rfl

set_option maxHeartbeats 2000000 in
set_option maxRecDepth 100000 in
theorem all_walk (g m : Nat) (l : KeptL) (w : World) (hx : KeptAt w g m l) (ht : ∀ p ∈ l, p.2.topic = p.1) (hl : l.length ≤ 65536) :
    Calls Tryd.prog 16 #[.pointer (some ⟨g, 0, none⟩)] w fun e w' =>
      (∃ v ws, e = .returned v ∧ SortedOf l ws ∧ w'.ownsRow w.heap.size 33 4 v ws.length (ws.flatMap msgE)) ∧ Below w.heap.size w w' := by
  have hI : (Tryd.prog.info? 33).map (fun i => (i.zero, i.size, i.bytes)) = some (some (.agg #[.string ⟨#[]⟩, .string ⟨#[]⟩, .int .i64 0, .bool false]), 4, 48) := by kernel_rfl
  obtain ⟨i0, hi, hz0, hz1, hz2⟩ := info_parts hI
  clear hI
  have c0 := hx.c0
  have hlt := hx.lt
  obtain ⟨o1, hr1, hg1⟩ := hx.map.range (P := Tryd.prog) Tryd.underlying72
  have hb1 : Below w.heap.size w (w.alloc o1) := (Below.refl _ _).alloc (Nat.le_refl _) _
  go_enter Tryd.func16, Tryd.ntmps16
  go_wp2
  go_loopg [3] l.length (fun gk out wx => ∃ (left done : KeptL), left.length = gk ∧ (done ++ left).Perm l ∧ Ranges strV msgV wx w.heap.size m l left ∧ wx.ownsRow w.heap.size 33 4 out (done.map (·.2)).length ((done.map (·.2)).flatMap msgE) ∧ Below w.heap.size w wx)
  case atStart => exact ⟨l, [], rfl, List.Perm.refl _, hg1, World.ownsRow_nil _ _ _ _, hb1⟩
  case round =>
    obtain ⟨left, done, hlen, hperm, hrg, hown, hnx⟩ := hrel
    have hdl : (done.map (·.2)).length ≤ 65536 := by have := hperm.length_eq; simp at this ⊢; omega
    rcases hrg.next (P := Tryd.prog) 0 with ⟨rfl, hrun⟩ | ⟨a, ⟨k, ⟨x0, x1, x2, x3⟩⟩, b, w5, hle, hrun, hent, hrg5, hg5⟩
    · have hpd : done.Perm l := by simpa using hperm
      have hnod := hx.map.nodup
      have HS := Lib.hid (sort_all _ _ _ _ hown (by omega))
      have HSO := Lib.hid (fun ys h => msgs_sorted (ys := ys) hnod ht hpd h)
      clear hrg
      go_wp2_with (go_at_call 34; refine HS.out.mono ?_; rintro e w9 ⟨rfl, ys, hsd, hown9, hg9⟩)
      go_ret
      exact ⟨⟨_, ys, rfl, HSO.out ys hsd, hown9⟩, below_own hnx hnx.size hown hg9 (Nat.le_refl _)⟩
    · simp only [strV, msgV] at hrun hent
      have hnr := (hrg.ne_own hown).1
      have hown5 := hown.kept hg5 (.inr hnr)
      have hrl := hrg.lt
      have hB5 : Below w.heap.size w w5 := hnx.grown hg5 hnx.size (fun k e => by cases e; omega)
      have hll : left.length = (a ++ b).length + 1 := by rw [hle]; simp; omega
      rw [hle] at hperm
      have HP := Lib.hid (perm_step hperm); clear hperm
      have hb6 : Below w5.heap.size w5 (w5.alloc (.cells #[.string x0, .string x1, .int .i64 x2, .bool x3] 33)) := (Below.refl _ _).alloc (Nat.le_refl _) _
      have hrg6 := (hrg5.below hb6).below ((Below.refl _ _).alloc (Nat.le_refl _) (.cells #[.string x0, .string x1, .int .i64 x2, .bool x3] 33))
      have hks : ((done ++ [(k, (⟨x0, x1, x2, x3⟩ : MsgR))]).map (·.2)) = done.map (·.2) ++ [(⟨x0, x1, x2, x3⟩ : MsgR)] := by simp
      obtain ⟨zs, hzs⟩ : ∃ zs, zs = done.map (·.2) := ⟨_, rfl⟩
      rw [← hzs] at hks hown5 hdl
      have HK := Lib.hid hks; clear hks hzs hown
      have hbs := hB5.size
      have HNW := cells_new (w5.alloc (.cells #[.string x0, .string x1, .int .i64 x2, .bool x3] 33)) [.string x0, .string x1, .int .i64 x2, .bool x3] 33
      rw [World.size_alloc] at HNW
      go_wp2_with (at_builtin; refine wpList_append_own _ rfl _ _ 22 rfl w.heap.size 33 i0 (.agg #[.string ⟨#[]⟩, .string ⟨#[]⟩, .int .i64 0, .bool false]) 4 48 Tryd.underlying22 hi hz0 hz1 hz2 rfl (by decide) _ _ _ rfl ((owns_below hown5 hb6).alloc _) ⟨w5.heap.size + 1, 0, none⟩ 1 1 [.string x0, .string x1, .int .i64 x2, .bool x3] rfl rfl HNW ?c2 ?c3 ?c4 ?c5 ?_)
      case c2 => first | exact ⟨rfl, rfl, rfl, rfl⟩ | (intro u hu; simp at hu; rcases hu with rfl | rfl | rfl | rfl <;> rfl)
      case c3 => unfold maxLen; omega
      case c4 => omega
      case c5 => first | omega | (simp; omega)
      intro v' w6 hown6 hgrow6 _
      have ho7 := (owns_below hown5 hb6).alloc (.cells #[.string x0, .string x1, .int .i64 x2, .bool x3] 33)
      have hn6 := hrg6.ne_own ho7
      have hrg7 := hrg6.grown hgrow6 hn6.1 hn6.2
      have hB6 := below_own ((hB5.trans (hb6.mono hB5.size)).alloc (by simp; omega) _) (by simp; omega) ho7 hgrow6 (Nat.le_refl _)
      go_wp2
      go_roundg (a ++ b).length
      case measure => omega
      case rel => exact ⟨a ++ b, done ++ [(k, ⟨x0, x1, x2, x3⟩)], rfl, HP.out, hrg7, by rw [HK.out, List.length_append, List.flatMap_append]; exact hown6, hB6⟩

theorem kfind_bad (g m : Nat) (l : KeptL) (f : ByteArray) (w : World) (hG : Glob w) (_hx : KeptAt w g m l) (hf : filterF f = false) :
    Calls Tryd.prog 17 #[.pointer (some ⟨g, 0, none⟩), .string f] w fun e w' => e = .returned (.tuple #[.slice none 0 0, .int .i64 121]) ∧ Below w.heap.size w w' := by
  have HF := Lib.hid (filter_walk f w hG)
  rw [hf] at HF
  clear hf
  go_enter Tryd.func17, Tryd.ntmps17
  go_wp2_with (go_at_call 37; refine HF.out.mono ?_; rintro e w2 ⟨rfl, hb2⟩)
  go_ret2
  exact ⟨rfl, hb2⟩

set_option maxHeartbeats 2000000 in
set_option maxRecDepth 100000 in
theorem kfind_walk (g m : Nat) (l : KeptL) (f : ByteArray) (w : World) (hG : Glob w) (hx : KeptAt w g m l) (hf : filterF f = true) (ht : ∀ p ∈ l, p.2.topic = p.1) (hl : l.length ≤ 65536) :
    Calls Tryd.prog 17 #[.pointer (some ⟨g, 0, none⟩), .string f] w fun e w' =>
      (∃ v ws, e = .returned (.tuple #[v, .int .i64 0]) ∧ SortedOf (l.filter (fun p => (matchF f p.1).1)) ws ∧ w'.ownsRow w.heap.size 33 4 v ws.length (ws.flatMap msgE)) ∧ Below w.heap.size w w' := by
  have hI : (Tryd.prog.info? 33).map (fun i => (i.zero, i.size, i.bytes)) = some (some (.agg #[.string ⟨#[]⟩, .string ⟨#[]⟩, .int .i64 0, .bool false]), 4, 48) := by kernel_rfl
  obtain ⟨i0, hi, hz0, hz1, hz2⟩ := info_parts hI
  clear hI
  have HF := Lib.hid (filter_walk f w hG)
  rw [hf] at HF
  clear hf
  have hlt := hx.lt
  obtain ⟨hit, hhit⟩ : ∃ hit : ByteArray × MsgR → Bool, hit = fun p => (matchF f p.1).1 := ⟨_, rfl⟩
  rw [← hhit]
  have HH := Lib.hid hhit; clear hhit
  go_enter Tryd.func17, Tryd.ntmps17
  go_wp2_with (go_at_call 37; refine HF.out.mono ?_; rintro e w2 ⟨rfl, hb2⟩; have hx2 := hx.below hb2; have c0 := hx2.c0; obtain ⟨o1, hr1, hg1⟩ := hx2.map.range (P := Tryd.prog) Tryd.underlying72)
  have hs2 := hb2.size
  have hb1 : Below w.heap.size w (w2.alloc o1) := hb2.alloc hb2.size _
  have hmlt := hx2.lt
  go_loopg [7] l.length (fun gk out wx => ∃ (left done : KeptL), left.length = gk ∧ (done ++ left).Perm l ∧ Ranges strV msgV wx w2.heap.size m l left ∧ wx.ownsRow w.heap.size 33 4 out ((done.filter hit).map (·.2)).length (((done.filter hit).map (·.2)).flatMap msgE) ∧ Below w.heap.size w wx)
  case atStart => exact ⟨l, [], rfl, List.Perm.refl _, hg1, World.ownsRow_nil _ _ _ _, hb1⟩
  case round =>
    obtain ⟨left, done, hlen, hperm, hrg, hown, hnx⟩ := hrel
    have hdl : ((done.filter hit).map (·.2)).length ≤ 65536 := by
      have := hperm.length_eq
      have := List.length_filter_le hit done
      simp at *; omega
    rcases hrg.next (P := Tryd.prog) 0 with ⟨rfl, hrun⟩ | ⟨a, ⟨k, ⟨x0, x1, x2, x3⟩⟩, b, w5, hle, hrun, hent, hrg5, hg5⟩
    · have hpd : (done.filter hit).Perm (l.filter hit) := by
        have : done.Perm l := by simpa using hperm
        exact this.filter _
      have hnod : ((l.filter hit).map (·.1)).Nodup := (List.filter_sublist.map _).nodup hx.map.nodup
      have htf : ∀ p ∈ l.filter hit, p.2.topic = p.1 := fun p hp => ht p (List.mem_filter.1 hp).1
      have HS := Lib.hid (sort_kfind _ _ _ _ hown (by omega))
      have HSO := Lib.hid (fun ys h => msgs_sorted (ys := ys) hnod htf hpd h)
      clear hrg
      go_wp2_with (go_at_call 34; refine HS.out.mono ?_; rintro e w9 ⟨rfl, ys, hsd, hown9, hg9⟩)
      go_ret2
      exact ⟨⟨_, ys, rfl, HSO.out ys hsd, hown9⟩, below_own hnx hnx.size hown hg9 (Nat.le_refl _)⟩
    · simp only [strV, msgV] at hrun hent
      have hnr := (hrg.ne_own hown).1
      have hown5 := hown.kept hg5 (.inr hnr)
      have hrl := hrg.lt
      have hB5 : Below w.heap.size w w5 := hnx.grown hg5 hnx.size (fun k e => by cases e; omega)
      have hll : left.length = (a ++ b).length + 1 := by rw [hle]; simp; omega
      rw [hle] at hperm
      have HP := Lib.hid (perm_step hperm); clear hperm
      have hb6 : Below w5.heap.size w5 (w5.alloc (.cells #[.string x0, .string x1, .int .i64 x2, .bool x3] 33)) := (Below.refl _ _).alloc (Nat.le_refl _) _
      have hnx6 := hnx.size |> fun _ => hB5.trans (hb6.mono hB5.size)
      have HM := Lib.hid (matches_walk f k _ (hG.below' hnx6))
      obtain ⟨tk, htk⟩ : ∃ tk, tk = (matchF f k).1 := ⟨_, rfl⟩
      rw [← htk] at HM
      have hhit : hit (k, ⟨x0, x1, x2, x3⟩) = tk := by rw [HH.out, htk]
      have hks : ((done ++ [(k, (⟨x0, x1, x2, x3⟩ : MsgR))]).filter hit).map (·.2) = (done.filter hit).map (·.2) ++ if tk = true then [(⟨x0, x1, x2, x3⟩ : MsgR)] else [] := by
        rw [List.filter_append, List.filter_cons, hhit, List.map_append]
        cases tk <;> rfl
      obtain ⟨zs, hzs⟩ : ∃ zs, zs = (done.filter hit).map (·.2) := ⟨_, rfl⟩
      rw [← hzs] at hks hown5 hdl
      have HK := Lib.hid hks; clear hks hhit htk hzs hown
      have e0 := cells_new w5 [.string x0, .string x1, .int .i64 x2, .bool x3] 33 0 _ rfl
      have e1 := cells_new w5 [.string x0, .string x1, .int .i64 x2, .bool x3] 33 1 _ rfl
      have e2 := cells_new w5 [.string x0, .string x1, .int .i64 x2, .bool x3] 33 2 _ rfl
      have e3 := cells_new w5 [.string x0, .string x1, .int .i64 x2, .bool x3] 33 3 _ rfl
      have hz6 : w5.heap.size < (w5.alloc (.cells #[.string x0, .string x1, .int .i64 x2, .bool x3] 33)).heap.size := by simp
      have hrg6 := hrg5.below hb6
      have hown6 := owns_below hown5 hb6
      have hbs := hB5.size
      cases tk
      · go_wp2_with (go_at_call 38; refine HM.out.mono ?_; rintro e w7 ⟨rfl, hb7⟩; clear HM)
        go_roundg (a ++ b).length
        case measure => omega
        case rel => exact ⟨a ++ b, _, rfl, HP.out, hrg6.below hb7, by rw [HK.out]; simp only [Bool.false_eq_true, if_false, List.append_nil]; exact owns_below hown6 hb7, hnx6.trans (hb7.mono hnx6.size)⟩
      · go_wp2_with (first
          | (go_at_call 38; refine HM.out.mono ?_; rintro e w7 ⟨rfl, hb7⟩; clear HM; have f0 := ((bcell hb7).1 _ 0 hz6).trans e0; have f1 := ((bcell hb7).1 _ 1 hz6).trans e1; have f2 := ((bcell hb7).1 _ 2 hz6).trans e2; have f3 := ((bcell hb7).1 _ 3 hz6).trans e3; have hown7 := owns_below hown6 hb7; have hB7 := hnx6.trans (hb7.mono hnx6.size); have hs7 := hB7.size)
          | (at_builtin; refine wpList_append_own _ rfl _ _ 22 rfl w.heap.size 33 i0 (.agg #[.string ⟨#[]⟩, .string ⟨#[]⟩, .int .i64 0, .bool false]) 4 48 Tryd.underlying22 hi hz0 hz1 hz2 rfl (by decide) _ _ _ rfl (hown7.alloc _) ⟨w7.heap.size, 0, none⟩ 1 1 [.string x0, .string x1, .int .i64 x2, .bool x3] rfl rfl (cells_new _ _ _) ?c2 ?c3 ?c4 ?c5 ?_))
        case c2 => first | exact ⟨rfl, rfl, rfl, rfl⟩ | (intro u hu; simp at hu; rcases hu with rfl | rfl | rfl | rfl <;> rfl)
        case c3 => unfold maxLen; omega
        case c4 => omega
        case c5 => first | omega | (simp; omega)
        intro v' w8 hown8 hgrow8 _
        have hrg7 := (hrg6.below hb7).below ((Below.refl _ _).alloc (Nat.le_refl _) (.cells #[.string x0, .string x1, .int .i64 x2, .bool x3] 33))
        have hn8 := hrg7.ne_own (hown7.alloc _)
        have hrg8 := hrg7.grown hgrow8 hn8.1 hn8.2
        have hB8 := below_own (hB7.alloc hB7.size (.cells #[.string x0, .string x1, .int .i64 x2, .bool x3] 33)) (by simp; omega) (hown7.alloc _) hgrow8 (Nat.le_refl _)
        go_wp2
        go_roundg (a ++ b).length
        case measure => omega
        case rel => exact ⟨a ++ b, _, rfl, HP.out, hrg8, by rw [HK.out]; simp only [if_true, List.length_append, List.flatMap_append]; exact hown8, hB8⟩

end Go.Proofs.YtaaaifeommdblaaDoor

/- subs.Index.Of: the walk. -/
import Derived.Test.YtaaaifeommdblaaDoorSubsFind
import Derived.Deep.Onto
import Derived.Deep.RegionHeld3
import Derived.Deep.AppendLies
namespace Go.Proofs.YtaaaifeommdblaaDoor
open Go.RowKit Go.Sort

def keyE (k : ByteArray × ByteArray) : List Value := [.string k.1, .string k.2]
def subE (x : ByteArray × Int) : List Value := [.string x.1, .int .i64 x.2]

/-- The place of a key. -/
def placeOf (l : SubL) (k : ByteArray × ByteArray) : Int := ((at_ l k).map (·.2)).getD 0

/-- Blocks of the index, and the cell that holds its pointer. -/
structure OfAt (w : World) (cb g m : Nat) (l : SubL) : Prop where
  p : w.cell? ⟨cb, 0, none⟩ = some (.pointer (some ⟨g, 0, none⟩))
  c0 : w.cell? ⟨g, 0, none⟩ = some (.map (some m))
  map : MapIs keyV entV w m l

theorem OfAt.same {w w' : World} {cb g m : Nat} {l : SubL} (h : OfAt w cb g m l) (h1 : w'.heap[cb]? = w.heap[cb]?) (h2 : w'.heap[g]? = w.heap[g]?) (h3 : w'.heap[m]? = w.heap[m]?) : OfAt w' cb g m l :=
  ⟨(cell_congr (a := ⟨cb, 0, none⟩) h1).trans h.p, (cell_congr (a := ⟨g, 0, none⟩) h2).trans h.c0, h.map.same h3⟩
theorem OfAt.lt {w : World} {cb g m : Nat} {l : SubL} (h : OfAt w cb g m l) : cb < w.heap.size ∧ g < w.heap.size ∧ m < w.heap.size := ⟨lt_of_cell h.p, lt_of_cell h.c0, h.map.lt⟩
theorem OfAt.below {w w' : World} {cb g m : Nat} {l : SubL} (h : OfAt w cb g m l) (hb : Below w.heap.size w w') : OfAt w' cb g m l :=
  h.same (hb.block _ h.lt.1) (hb.block _ h.lt.2.1) (hb.block _ h.lt.2.2)

theorem look_place (l : SubL) (k : ByteArray × ByteArray) : ∃ q, ((at_ l k).map entV).getD (entV (0, 0)) = .agg #[.int .i64 q, .int .i64 (placeOf l k)] := by
  unfold placeOf
  cases at_ l k with
  | none => exact ⟨0, rfl⟩
  | some e => exact ⟨e.1, rfl⟩

set_option maxHeartbeats 1000000 in
theorem closure_of (cb g m : Nat) (l : SubL) (x y : ByteArray × ByteArray) (W : World) (h : OfAt W cb g m l) :
    Calls Tryd.prog 44 #[.agg #[.string x.1, .string x.2], .agg #[.string y.1, .string y.2], .pointer (some ⟨cb, 0, none⟩)] W fun e w' => e = .returned (.int .i64 (Lib.compareInt (placeOf l x) (placeOf l y))) ∧ ∃ q os', w' = grow (W.drewN q) os' := by
  obtain ⟨x1, x2⟩ := x
  obtain ⟨y1, y2⟩ := y
  have hb : Below W.heap.size W ((W.alloc (.cells #[.string x1, .string x2] 86)).alloc (.cells #[.string y1, .string y2] 86)) := ((Below.refl _ _).alloc (Nat.le_refl _) _).alloc (by simp) _
  have h2 := h.below hb
  have p := h2.p; have c0 := h2.c0
  obtain ⟨q1, hq1⟩ := look_place l (x1, x2)
  obtain ⟨q2, hq2⟩ := look_place l (y1, y2)
  have L1 := fun nq => (h2.map.same (w' := ((W.alloc (.cells #[.string x1, .string x2] 86)).alloc (.cells #[.string y1, .string y2] 86)).drewN nq) rfl).look subKeys Tryd.underlying82 (entV (0, 0)) zeroEnt (x1, x2) false
  have L2 := fun nq => (h2.map.same (w' := ((W.alloc (.cells #[.string x1, .string x2] 86)).alloc (.cells #[.string y1, .string y2] 86)).drewN nq) rfl).look subKeys Tryd.underlying82 (entV (0, 0)) zeroEnt (y1, y2) false
  simp only [Bool.false_eq_true, if_false] at L1 L2
  simp only [hq1, keyV] at L1
  simp only [hq2, keyV] at L2
  generalize placeOf l (x1, x2) = a at *
  generalize placeOf l (y1, y2) = b at *
  have hcon := fun W' => Tryd.cmp_Compare_int a b W'
  generalize Lib.compareInt a b = r at hcon ⊢
  have HC := Lib.hid hcon; clear hcon hq1 hq2 h hb h2
  have F1 : ∀ w, (Instr.field 88 (.agg #[.int .i64 q1, .int .i64 a]) 1).run Tryd.prog w = .ok (.int .i64 a) w := fun _ => by kernel_rfl
  have F2 : ∀ w, (Instr.field 88 (.agg #[.int .i64 q2, .int .i64 b]) 1).run Tryd.prog w = .ok (.int .i64 b) w := fun _ => by kernel_rfl
  go_enter Tryd.func44, Tryd.ntmps44
  go_wp2
  go_quiet ((go_at_call 45; exact Calls.quiet_of_same (HC.out _)))
  go_wp2
  go_ret
  exact ⟨rfl, _, #[_, _], by rw [alloc_eq_grow, alloc_eq_grow, grow_grow]; rfl⟩

theorem aggKey : ∀ w, (isAgg (Tryd.sortKey_ren.t 24)).run Tryd.prog w = .ok true w := fun _ => by kernel_rfl
theorem sizeKey : ∀ w, (Go.sizeOf (Tryd.sortKey_ren.t 24)).run Tryd.prog w = .ok 2 w := fun _ => by kernel_rfl

theorem ltOf_place (l : SubL) (x y : ByteArray × ByteArray) : ltOf (fun x y => Lib.compareInt (placeOf l x) (placeOf l y)) x y = decide (placeOf l x < placeOf l y) := by
  unfold ltOf Lib.compareInt
  by_cases h1 : placeOf l x < placeOf l y
  · simp [h1]
  · by_cases h2 : placeOf l y < placeOf l x <;> simp [h1, h2]

theorem swo_place (l : SubL) : SWO (ltOf fun x y => Lib.compareInt (placeOf l x) (placeOf l y)) where
  irrefl x := by rw [ltOf_place]; simp
  trans x y z h1 h2 := by rw [ltOf_place] at *; simp at *; omega
  ntrans x y z h1 h2 := by rw [ltOf_place] at *; simp at *; omega

/-- The sort of a client's keys. -/
theorem sort_keys (w : World) (base cb g m : Nat) (l : SubL) (v : Value) (zs : List (ByteArray × ByteArray)) (h : OfAt w cb g m l) (h1 : cb < base) (h2 : g < base) (h3 : m < base)
    (hown : w.ownsRow base 86 2 v zs.length (zs.flatMap keyE)) (hsz : zs.length < 4611686018427387904) :
    Calls Tryd.prog 43 #[v, .func (.func 44) #[] #[.pointer (some ⟨cb, 0, none⟩)]] w fun e' w' => e' = .returned (.tuple #[]) ∧ ∃ ys, Sorted (ltOf fun x y => Lib.compareInt (placeOf l x) (placeOf l y)) zs ys ∧ w'.ownsRow base 86 2 v ys.length (ys.flatMap keyE) ∧ w.grownBy w' v.ownBlock :=
  sort_row Tryd.sortKey keyE 2 (fun _ => rfl) (by decide) (fun x u hu => by simp [keyE] at hu; rcases hu with rfl | rfl <;> rfl) aggKey sizeKey (fun x y => Lib.compareInt (placeOf l x) (placeOf l y)) (swo_place l) _ #[.pointer (some ⟨cb, 0, none⟩)]
    (enters_of Tryd.func44 (by kernel_rfl) rfl) w base _ v zs (fun blk off hblk m' os dk _ x y => by
      have hg := grown_sorted keyE 2 w blk off m' dk os
      have hl := h.lt
      exact closure_of cb g m l x y _ (h.same (hg.block _ hl.1 (fun e => by cases e; omega)) (hg.block _ hl.2.1 (fun e => by cases e; omega)) (hg.block _ hl.2.2 (fun e => by cases e; omega)))) hown hsz

theorem of_nil (c : ByteArray) (w : World) :
    Calls Tryd.prog 24 #[.pointer none, .string c] w fun e w' => e = .returned (.tuple #[.slice none 0 0, .int .i64 3]) ∧ Below w.heap.size w w' := by
  go_enter Tryd.func24, Tryd.ntmps24
  go_wp2
  go_ret2
  exact ⟨rfl, (Below.refl _ _).alloc (Nat.le_refl _) _⟩

/-- What a client wants, in its order. -/
def ofL (l : SubL) (c : ByteArray) : List (ByteArray × Int) := (l.filter (fun p => decide (p.1.1 = c))).map (fun p => (p.1.2, p.2.1))
def keysOf (l : SubL) (c : ByteArray) : List (ByteArray × ByteArray) := (l.filter (fun p => decide (p.1.1 = c))).map (·.1)

theorem run_eql_key (w : World) (a b c d : ByteArray) : (binOp .eql 86 (.agg #[.string a, .string b]) (.agg #[.string c, .string d])).run Tryd.prog w = .ok (.bool (a.toList == c.toList && (b.toList == d.toList))) w := by
  have h := eqKey 9998 w a c b d
  simp only [binOp]
  simp [Op.equal, Op.maxDepth, h]

def subOf (l : SubL) (k : ByteArray × ByteArray) : ByteArray × Int := (k.2, ((at_ l k).map (·.1)).getD 0)

theorem look_qos (l : SubL) (k : ByteArray × ByteArray) : ∃ p, ((at_ l k).map entV).getD (entV (0, 0)) = .agg #[.int .i64 (subOf l k).2, .int .i64 p] := by
  unfold subOf
  cases at_ l k with
  | none => exact ⟨0, rfl⟩
  | some e => exact ⟨e.2, rfl⟩

theorem keys_sorted {l done : SubL} {c : ByteArray} {ys : List (ByteArray × ByteArray)} (hp : done.Perm l) (hn : (l.map (·.1)).Nodup) (hs : l.Pairwise (fun a b => a.2.2 < b.2.2))
    (hy : Sorted (ltOf fun x y => Lib.compareInt (placeOf l x) (placeOf l y)) (keysOf done c) ys) : ys = keysOf l c := by
  have hpl : ∀ p ∈ l, placeOf l p.1 = p.2.2 := fun p hp => by
    have := (at_mem hn p.1 p.2).1 hp
    unfold placeOf; rw [this]; rfl
  have hperm : ys.Perm (keysOf l c) := hy.1.trans ((hp.filter _).map _)
  have hks : (keysOf l c).Pairwise (fun a b => placeOf l a < placeOf l b) := by
    unfold keysOf
    rw [List.pairwise_map]
    refine (hs.sublist List.filter_sublist).imp_of_mem ?_
    intro a b ha hb hab
    rw [hpl a (List.mem_filter.1 ha).1, hpl b (List.mem_filter.1 hb).1]
    exact hab
  have hys : ys.Pairwise (fun a b => placeOf l a ≤ placeOf l b) := by
    refine hy.2.imp ?_
    intro a b h
    rw [ltOf_place] at h
    simpa using h
  refine List.Perm.eq_of_pairwise (le := fun a b => placeOf l a ≤ placeOf l b) ?_ hys (hks.imp fun h => Int.le_of_lt h) hperm
  intro a b ha hb h1 h2
  have ha' : a ∈ keysOf l c := hperm.mem_iff.1 ha
  obtain ⟨i, hi, rfl⟩ := List.getElem_of_mem ha'
  obtain ⟨j, hj, rfl⟩ := List.getElem_of_mem hb
  rw [List.pairwise_iff_getElem] at hks
  rcases Nat.lt_trichotomy i j with h | h | h
  · have := hks i j hi hj h; omega
  · subst h; rfl
  · have := hks j i hj hi h; omega

theorem subs_of_keys {l : SubL} (hn : (l.map (·.1)).Nodup) (c : ByteArray) : (keysOf l c).map (subOf l) = ofL l c := by
  unfold keysOf ofL
  rw [List.map_map]
  apply List.map_congr_left
  intro p hp
  have := (at_mem hn p.1 p.2).1 (List.mem_filter.1 hp).1
  simp only [Function.comp, subOf]
  rw [this]; rfl

/-- The index, and a boxed key. -/
structure OfKey (w : World) (cb g m : Nat) (l : SubL) (b : Nat) (k : ByteArray × ByteArray) : Prop where
  of : OfAt w cb g m l
  e0 : w.cell? ⟨b, 0, none⟩ = some (.string k.1)
  e1 : w.cell? ⟨b, 1, none⟩ = some (.string k.2)
theorem OfKey.same {w w' : World} {cb g m : Nat} {l : SubL} {b : Nat} {k : ByteArray × ByteArray} (h : OfKey w cb g m l b k) (h1 : w'.heap[cb]? = w.heap[cb]?) (h2 : w'.heap[g]? = w.heap[g]?) (h3 : w'.heap[m]? = w.heap[m]?) (h4 : w'.heap[b]? = w.heap[b]?) : OfKey w' cb g m l b k :=
  ⟨h.of.same h1 h2 h3, (cell_congr (a := ⟨b, 0, none⟩) h4).trans h.e0, (cell_congr (a := ⟨b, 1, none⟩) h4).trans h.e1⟩
theorem OfKey.alloc {w : World} {cb g m : Nat} {l : SubL} {b : Nat} {k : ByteArray × ByteArray} (h : OfKey w cb g m l b k) (o : Obj) : OfKey (w.alloc o).drew cb g m l b k := by
  have hb : Below w.heap.size w (w.alloc o) := (Below.refl _ _).alloc (Nat.le_refl _) _
  have hl := h.of.lt
  exact h.same (hb.block _ hl.1) (hb.block _ hl.2.1) (hb.block _ hl.2.2) (hb.block _ (lt_of_cell h.e0))
theorem OfKey.all {w : World} {cb g m : Nat} {l : SubL} {b : Nat} {k1 k2 : ByteArray} (h : OfKey w cb g m l b (k1, k2)) {qv pp : Int} (hq : ((at_ l (k1, k2)).map entV).getD (entV (0, 0)) = .agg #[.int .i64 qv, .int .i64 pp]) :
    w.cell? ⟨cb, 0, none⟩ = some (.pointer (some ⟨g, 0, none⟩)) ∧ w.cell? ⟨g, 0, none⟩ = some (.map (some m)) ∧ w.cell? ⟨b, 0, none⟩ = some (.string k1) ∧ w.cell? ⟨b, 1, none⟩ = some (.string k2) ∧ (Instr.lookup 82 (.map (some m)) (.agg #[.string k1, .string k2]) false).run Tryd.prog w = .ok (.agg #[.int .i64 qv, .int .i64 pp]) w := by
  have L := h.of.map.look subKeys Tryd.underlying82 (entV (0, 0)) zeroEnt (k1, k2) false
  simp only [Bool.false_eq_true, if_false, hq, keyV] at L
  exact ⟨h.of.p, h.of.c0, h.e0, h.e1, L⟩

set_option maxHeartbeats 2000000 in
set_option maxRecDepth 100000 in
theorem of_walk (g m : Nat) (l : SubL) (n : Int) (c : ByteArray) (w : World) (hx : IdxAt w g m l n) (hl : l.length ≤ 65536) (hs : l.Pairwise (fun a b => a.2.2 < b.2.2)) :
    Calls Tryd.prog 24 #[.pointer (some ⟨g, 0, none⟩), .string c] w fun e w' =>
      (∃ v, e = .returned (.tuple #[v, .int .i64 0]) ∧ w'.ownsRow w.heap.size 53 2 v (ofL l c).length ((ofL l c).flatMap subE)) ∧ Below w.heap.size w w' := by
  have hI : (Tryd.prog.info? 86).map (fun i => (i.zero, i.size, i.bytes)) = some (some (.agg #[.string ⟨#[]⟩, .string ⟨#[]⟩]), 2, 32) := by kernel_rfl
  obtain ⟨i0, hi, hz0, hz1, hz2⟩ := info_parts hI
  have hI2 : (Tryd.prog.info? 53).map (fun i => (i.zero, i.size, i.bytes)) = some (some (.agg #[.string ⟨#[]⟩, .int .i64 0]), 2, 24) := by kernel_rfl
  obtain ⟨j0, hj, hy0, hy1, hy2⟩ := info_parts hI2
  clear hI hI2
  have hb1 : Below w.heap.size w (w.alloc (.cells #[.pointer (some ⟨g, 0, none⟩)] 47)) := (Below.refl _ _).alloc (Nat.le_refl _) _
  have hx1 := hx.below hb1
  have p1 : (w.alloc (.cells #[.pointer (some ⟨g, 0, none⟩)] 47)).cell? ⟨w.heap.size, 0, none⟩ = some (.pointer (some ⟨g, 0, none⟩)) := by rw [World.cell?_alloc_at _ _ _ _ rfl]; rfl
  have hof : OfAt (w.alloc (.cells #[.pointer (some ⟨g, 0, none⟩)] 47)) w.heap.size g m l := ⟨p1, hx1.c0, hx1.map⟩
  have hlt := hx.lt
  have c0 := hx1.c0
  obtain ⟨o1, hr1, hg1⟩ := hx1.map.range (P := Tryd.prog) Tryd.underlying82
  have hs1 : (w.alloc (.cells #[.pointer (some ⟨g, 0, none⟩)] 47)).heap.size = w.heap.size + 1 := by simp
  rw [hs1] at hg1
  have hB0 := hb1.alloc (by rw [hs1]; omega) o1
  have hof0 := hof.below ((Below.refl _ _).alloc (Nat.le_refl _) o1)
  clear hs1 hb1 hx1
  go_enter Tryd.func24, Tryd.ntmps24
  go_wp2
  go_loopg [6] l.length (fun gk out wx => ∃ (left done : SubL), left.length = gk ∧ (done ++ left).Perm l ∧ Ranges keyV entV wx (w.heap.size + 1) m l left ∧ OfAt wx w.heap.size g m l ∧
      wx.ownsRow (w.heap.size + 1) 86 2 out (keysOf done c).length ((keysOf done c).flatMap keyE) ∧ Below w.heap.size w wx)
  case atStart => exact ⟨l, [], rfl, List.Perm.refl _, hg1, hof0, World.ownsRow_nil _ _ _ _, hB0⟩
  case round =>
    obtain ⟨left, done, hlen, hperm, hrg, hofr, hown, hnx⟩ := hrel
    have hdl : (keysOf done c).length ≤ 65536 := by
      have h1 := hperm.length_eq
      simp at h1
      have h2 : (keysOf done c).length ≤ done.length := by unfold keysOf; rw [List.length_map]; exact List.length_filter_le _ _
      omega
    have hol := hofr.lt
    rcases hrg.next (P := Tryd.prog) 0 with ⟨rfl, hrun⟩ | ⟨a, ⟨⟨c', f⟩, ⟨q, pl⟩⟩, b, w5, hle, hrun, hent, hrg5, hg5⟩
    · have hpd : done.Perm l := by simpa using hperm
      have hmf : ∀ (fn : Fn) (first cap : Array Value) (w : World), (Instr.makeFunc fn first cap).run Tryd.prog w = .ok (.func fn first cap) w := fun _ _ _ _ => rfl
      have hnod := hofr.map.nodup
      obtain ⟨ad, cap, hv, had⟩ := owns_form hown
      have hoge := hown.lt
      subst hv
      have HS := Lib.hid (sort_keys wr (w.heap.size + 1) w.heap.size g m l _ _ hofr (by omega) (by omega) (by omega) hown (by omega))
      clear hrg
      go_wp2_with (go_at_call 43; refine HS.out.mono ?_; rintro e w9 ⟨rfl, ys, hsd, hown9, hg9⟩; have hyl : ys.length = (keysOf done c).length := hsd.1.length_eq)
      have hof9 := hofr.same (hg9.block _ hol.1 (fun e => by have := (hoge _ e.symm).1; omega)) (hg9.block _ hol.2.1 (fun e => by have := (hoge _ e.symm).1; omega)) (hg9.block _ hol.2.2 (fun e => by have := (hoge _ e.symm).1; omega))
      have hB9 := below_own hnx hnx.size hown hg9 (Nat.le_succ _)
      have hys := keys_sorted hpd hnod hs hsd
      rw [← hyl] at had hdl ⊢
      rw [← hyl] at hown9
      have HRES := Lib.hid ((congrArg (List.map (subOf l)) hys).trans (subs_of_keys hnod c))
      clear hys hsd hpd hown hg9 hyl hoge HS hnod
      go_loopg [8, 37] ys.length (fun gk out2 i wx => ∃ k : Nat, k + gk = ys.length ∧ i = .int .i64 k ∧ OfAt wx w.heap.size g m l ∧ wx.ownsRow (w.heap.size + 1) 86 2 (.slice ad ys.length cap) ys.length (ys.flatMap keyE) ∧
          wx.ownsRow (w.heap.size + 1) 53 2 out2 k (((ys.take k).map (subOf l)).flatMap subE) ∧ Below w.heap.size w wx)
      case atStart => exact ⟨0, by omega, rfl, hof9, hown9, World.ownsRow_nil _ _ _ _, hB9⟩
      case round =>
        obtain ⟨k, hkg, rfl, hof, hkeys, hown2, hnx2⟩ := hrel
        by_cases hk : k < ys.length
        · obtain ⟨g', rfl⟩ := had (by omega)
          have hk' : decide (k < ys.length) = true := decide_eq_true hk
          obtain ⟨⟨k1, k2⟩, hkk⟩ : ∃ x, ys[k]! = x := ⟨_, rfl⟩
          have hget : ys[k]'hk = (k1, k2) := by rw [← hkk, getElem!_pos ys k hk]
          have e0 := hkeys.cellAt (k * 2) (by omega)
          have e1 := hkeys.cellAt (k * 2 + 1) (by omega)
          rw [flat_get (enc := keyE) (k := 2) (fun _ => rfl) (by decide) ys _ (by omega), show (k * 2) / 2 = k by omega, show (k * 2) % 2 = 0 by omega, hkk] at e0
          rw [flat_get (enc := keyE) (k := 2) (fun _ => rfl) (by decide) ys _ (by omega), show (k * 2 + 1) / 2 = k by omega, show (k * 2 + 1) % 2 = 1 by omega, hkk] at e1
          simp [keyE] at e0 e1
          have hb7 : Below wr.heap.size wr (wr.alloc (.cells #[.string k1, .string k2] 86)) := (Below.refl _ _).alloc (Nat.le_refl _) _
          have hof7 := hof.below hb7
          have p7 := hof7.p; have q7 := hof7.c0
          obtain ⟨pp, hq⟩ := look_qos l (k1, k2)
          have F1 : ∀ w, (Instr.field 88 (.agg #[.int .i64 (subOf l (k1, k2)).2, .int .i64 pp]) 0).run Tryd.prog w = .ok (.int .i64 (subOf l (k1, k2)).2) w := fun _ => by kernel_rfl
          have HOK : OfKey (wr.alloc (.cells #[.string k1, .string k2] 86)) w.heap.size g m l wr.heap.size (k1, k2) := ⟨hof7.same rfl rfl rfl, cells_new wr [.string k1, .string k2] 86 0 _ rfl, cells_new wr [.string k1, .string k2] 86 1 _ rfl⟩
          have hlt7 := hof.lt
          have hge2 := hown2.lt
          have hgek := hkeys.lt
          have hss : wr.heap.size ≥ w.heap.size + 2 := by have := hgek g' rfl; omega
          have hkn : ys.length ≤ 65536 := by
            have h1 := congrArg List.length HRES.out
            have h2 : (ofL l c).length ≤ l.length := by unfold ofL; rw [List.length_map]; exact List.length_filter_le _ _
            rw [List.length_map] at h1
            omega
          have hte : (((ys.take (k + 1)).map (subOf l)).flatMap subE) = (((ys.take k).map (subOf l)).flatMap subE) ++ [.string k2, .int .i64 (subOf l (k1, k2)).2] := by
            rw [List.take_succ_eq_append_getElem hk, hget]; simp [subE, subOf]
          rw [show (subOf l (k1, k2)) = (k2, (subOf l (k1, k2)).2) from rfl] at hte
          obtain ⟨qv, hqv⟩ : ∃ r, r = (subOf l (k1, k2)).2 := ⟨_, rfl⟩
          rw [← hqv] at hq F1 hte
          have HQ := Lib.hid hq
          have HT := Lib.hid hte
          clear hq hqv hte hkk hget
          have HNW : ∀ j u, ([.string k2, .int .i64 qv] : List Value)[j]? = some u → (((wr.alloc (.cells #[.string k1, .string k2] 86)).alloc (.cells #[.string k2, .int .i64 qv] 53)).drew).cell? ((⟨wr.heap.size + 1, 0, none⟩ : Addr).add j) = some u := by
            have := cells_new (wr.alloc (.cells #[.string k1, .string k2] 86)) [.string k2, .int .i64 qv] 53
            rw [World.size_alloc] at this
            exact this
          go_wp2
          go_region_held3 (fun w' => w'.cell? ⟨w.heap.size, 0, none⟩ = some (.pointer (some ⟨g, 0, none⟩)) ∧ w'.cell? ⟨g, 0, none⟩ = some (.map (some m)) ∧ w'.cell? ⟨wr.heap.size, 0, none⟩ = some (.string k1) ∧ w'.cell? ⟨wr.heap.size, 1, none⟩ = some (.string k2) ∧ (Instr.lookup 82 (.map (some m)) (.agg #[.string k1, .string k2]) false).run Tryd.prog w' = .ok (.agg #[.int .i64 qv, .int .i64 pp]) w')
            (first
              | exact (HOK.same (w' := World.drew _) rfl rfl rfl rfl).all HQ.out
              | exact (HOK.alloc _).all HQ.out
              | exact ((HOK.alloc _).same (hgrow.block _ (by simp; omega) (fun e => by have := (hge2 _ e.symm).1; omega)) (hgrow.block _ (by simp; omega) (fun e => by have := (hge2 _ e.symm).1; omega)) (hgrow.block _ (by simp; omega) (fun e => by have := (hge2 _ e.symm).1; omega)) (hgrow.block _ (by simp; omega) (fun e => by have := (hge2 _ e.symm).2; omega))).all HQ.out)
            ((refine step_append_lies _ (by rfl) _ _ _ (by rfl) (w.heap.size + 1) 53 j0 _ 2 24 Tryd.underlying54 hj hy0 hy1 hy2 rfl (by omega) u8 k _ (by rfl) (((owns_below hown2 hb7).alloc _).drew)
                ⟨wr.heap.size + 1, 0, none⟩ 1 1 [.string k2, .int .i64 qv] (by rfl) (by rfl) HNW (by simp [Value.oneCell'])
                (by omega) (by unfold maxLen; omega) (by omega) (by simp; omega) (wr.heap.size + 2) (by simp) ?_; intro gg cap2 w1 hown1 hgrow hat hlt))
          have hB8 : Below w.heap.size w (wr.alloc (.cells #[.string k1, .string k2] 86)).drew := (hnx2.trans (hb7.mono (by omega))).drew
          have hB9 := below_own (hB8.alloc (by simp; omega) (.cells #[.string k2, .int .i64 qv] 53)) (by simp; omega) (((owns_below hown2 hb7).alloc _).drew) hgrow (Nat.le_succ _)
          have hK9 : w1.ownsRow (w.heap.size + 1) 86 2 (.slice (some ⟨g', 0, none⟩) ys.length cap) ys.length (ys.flatMap keyE) :=
            (((owns_below hkeys hb7).alloc _).drew).kept hgrow (owns_apart (owns_below hkeys hb7) (owns_below hown2 hb7) (by decide))
          have hof9 := ((HOK.alloc (.cells #[.string k2, .int .i64 qv] 53)).same (hgrow.block _ (by simp; omega) (fun e => by have := (hge2 _ e.symm).1; omega)) (hgrow.block _ (by simp; omega) (fun e => by have := (hge2 _ e.symm).1; omega)) (hgrow.block _ (by simp; omega) (fun e => by have := (hge2 _ e.symm).1; omega)) (hgrow.block _ (by simp; omega) (fun e => by have := (hge2 _ e.symm).2; omega))).of
          go_wp2
          go_roundg (gk - 1)
          case measure => omega
          case rel => exact ⟨k + 1, by omega, by simp, hof9, hK9, by rw [HT.out]; exact hown1, hB9⟩
        · have hk' : decide (k < ys.length) = false := decide_eq_false hk
          obtain rfl : k = ys.length := by omega
          rw [List.take_length, HRES.out] at hown2
          have hln : ys.length = (ofL l c).length := by rw [← HRES.out]; simp
          have HLN := Lib.hid hln; clear hln
          go_wp2
          go_ret2
          exact ⟨⟨_, rfl, by rw [← HLN.out]; exact hown2.mono (Nat.le_succ _)⟩, hnx2⟩
    · simp only [keyV, entV] at hrun hent
      have hrl := hrg.lt
      have hnr := hrg.ne_own hown
      have hown5 := hown.kept hg5 (.inr hnr.1)
      have hof5 := hofr.same (hg5.block _ hol.1 (fun e => by have := Option.some.inj e; omega)) (hg5.block _ hol.2.1 (fun e => by have := Option.some.inj e; omega)) (hg5.block _ hol.2.2 (fun e => by have := Option.some.inj e; omega))
      have hB5 : Below w.heap.size w w5 := hnx.grown hg5 hnx.size (fun k e => by have := Option.some.inj e; omega)
      have hb6 : Below w5.heap.size w5 (w5.alloc (.cells #[.string c', .string f] 86)) := (Below.refl _ _).alloc (Nat.le_refl _) _
      have hll : left.length = (a ++ b).length + 1 := by rw [hle]; simp; omega
      rw [hle] at hperm
      have HP := Lib.hid (perm_step hperm); clear hperm
      have E1 := run_eql_key (w5.alloc (.cells #[.string c', .string f] 86)) c' f c f
      by_cases hc : c' = c
      · subst hc
        have hks : keysOf (done ++ [((c', f), (q, pl))]) c' = keysOf done c' ++ [(c', f)] := by unfold keysOf; simp [List.filter_append]
        have HK := Lib.hid hks; clear hks
        simp only [beq_self_eq_true, Bool.and_self] at E1
        have hrg6 := (hrg5.below hb6).below ((Below.refl _ _).alloc (Nat.le_refl _) (.cells #[.string c', .string f] 86))
        have hof6 := (hof5.below hb6).below ((Below.refl _ _).alloc (Nat.le_refl _) (.cells #[.string c', .string f] 86))
        go_wp2_with (at_builtin; refine wpList_append_own _ rfl _ _ 90 rfl (w.heap.size + 1) 86 i0 (.agg #[.string ⟨#[]⟩, .string ⟨#[]⟩]) 2 32 Tryd.underlying90 hi hz0 hz1 hz2 rfl (by decide) _ _ _ rfl ((owns_below hown5 hb6).alloc _) ⟨w5.heap.size + 1, 0, none⟩ 1 1 [.string c', .string f] rfl rfl ?c1 ?c2 ?c3 ?c4 ?c5 ?_)
        case c1 =>
          have := cells_new (w5.alloc (.cells #[.string c', .string f] 86)) [.string c', .string f] 86
          rwa [World.size_alloc] at this
        case c2 => intro u hu; simp at hu; rcases hu with rfl | rfl <;> rfl
        case c3 => unfold maxLen; omega
        case c4 => omega
        case c5 => have := hB5.size; simp; omega
        intro v' w6 hown6 hgrow6 _
        have ho7 := (owns_below hown5 hb6).alloc (.cells #[.string c', .string f] 86)
        have hn6 := hrg6.ne_own ho7
        have hrg7 := hrg6.grown hgrow6 hn6.1 hn6.2
        have hol6 := hof6.lt
        have hge := ho7.lt
        have hof7 := hof6.same (hgrow6.block _ hol6.1 (fun e => by have := (hge _ e.symm).1; omega)) (hgrow6.block _ hol6.2.1 (fun e => by have := (hge _ e.symm).1; omega)) (hgrow6.block _ hol6.2.2 (fun e => by have := (hge _ e.symm).1; omega))
        have hB6 := below_own ((hB5.trans (hb6.mono hB5.size)).alloc (by have := hB5.size; simp; omega) _) (by have := hB5.size; simp; omega) ho7 hgrow6 (Nat.le_succ _)
        go_wp2
        go_roundg (a ++ b).length
        case measure => omega
        case rel => exact ⟨a ++ b, _, rfl, HP.out, hrg7, hof7, by rw [HK.out, List.length_append, List.flatMap_append]; exact hown6, hB6⟩
      · have hks : keysOf (done ++ [((c', f), (q, pl))]) c = keysOf done c := by unfold keysOf; simp [List.filter_append, hc]
        have HK := Lib.hid hks; clear hks
        have hne : (c'.toList == c.toList) = false := by
          have : ¬ c'.toList = c.toList := fun e => hc (toList_inj e)
          simpa using this
        rw [hne] at E1
        simp only [Bool.false_and] at E1
        go_wp2
        go_roundg (a ++ b).length
        case measure => omega
        case rel => exact ⟨a ++ b, _, rfl, HP.out, hrg5.below hb6, hof5.below hb6, by rw [HK.out]; exact owns_below hown5 hb6, hB5.trans (hb6.mono hB5.size)⟩

end Go.Proofs.YtaaaifeommdblaaDoor

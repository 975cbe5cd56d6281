import Derived.Test.YtadiocpcpjbjpaaAa
namespace Go.Proofs.Ytadiocpcpjbjpaa
open Go.RowKit

/-! ### The neighbours in another order, one of them twice -/
def turnL (near : List Nr) (k : Nat) (x : Nr) : List Nr := near.drop k ++ near.take k ++ [x]

theorem any_mem_eq {α : Type} {p : α → Bool} {l l' : List α} (h : ∀ x, x ∈ l ↔ x ∈ l') : l.any p = l'.any p := by
  rw [Bool.eq_iff_iff, List.any_eq_true, List.any_eq_true]
  exact ⟨fun ⟨x, h1, h2⟩ => ⟨x, (h x).1 h1, h2⟩, fun ⟨x, h1, h2⟩ => ⟨x, (h x).2 h1, h2⟩⟩
theorem turn_mem {near : List Nr} {k : Nat} {x : Nr} (hx : near[k]? = some x) : ∀ y, y ∈ turnL near k x ↔ y ∈ near := by
  intro y
  have h := List.take_append_drop k near
  simp only [turnL, List.mem_append, List.mem_singleton]
  constructor
  · rintro ((h1 | h1) | rfl)
    · exact List.mem_of_mem_drop h1
    · exact List.mem_of_mem_take h1
    · exact List.mem_of_getElem? hx
  · intro h1
    rw [← h] at h1
    rcases List.mem_append.1 h1 with h2 | h2
    · exact .inl (.inr h2)
    · exact .inl (.inl h2)
theorem keepU_turn {fr me : Int} {near : List Nr} {k : Nat} {x : Nr} (hx : near[k]? = some x) : keepU fr me (turnL near k x) = keepU fr me near := by
  funext u
  unfold keepU
  congr 1
  exact any_mem_eq fun y => ⟨toldL_sub _ _ _ (fun z hz => (turn_mem hx z).1 hz) y, toldL_sub _ _ _ (fun z hz => (turn_mem hx z).2 hz) y⟩
theorem keepG_turn {fr : Int} {near : List Nr} {k : Nat} {x : Nr} (hx : near[k]? = some x) : keepG fr (turnL near k x) = keepG fr near := by
  funext u
  unfold keepG
  congr 1
  exact any_mem_eq fun y => ⟨toldL_sub _ _ _ (fun z hz => (turn_mem hx z).1 hz) y, toldL_sub _ _ _ (fun z hz => (turn_mem hx z).2 hz) y⟩
theorem filter_idem {α : Type} (p : α → Bool) (l : List α) : (l.filter p).filter p = l.filter p := by
  rw [List.filter_filter]
  congr 1
  funext x
  exact Bool.and_self _

/-! ### The region that turns the neighbours -/
def slA : List Nat := [54, 55, 56, 57, 58, 59, 60, 61, 62, 63, 64, 65, 66, 67, 68, 14]
def dA (j : Nat) : Nat := slA.getD j 0
def eatA : Nat → Nat
  | 0 => 4
  | 4 => 8
  | 8 => 14
  | 14 => 15
  | _ => 99
def partL (near : List Nr) (i m : Nat) : List Value := (((near.drop i).take m).map nrV).flatten

/-- What each operation leaves. -/
def pvA (M b off bx ox n cap k : Nat) (near : List Nr) (x : Nr) : Nat → Value → World → Prop
  | 0, v, w => w.ownsRow M 71 31 v 0 []
  | 1, v, _ => v = .slice (some ⟨b, off, none⟩) n cap
  | 2, v, _ => v = .int .i64 k
  | 3, v, _ => v = .slice (some ⟨b, off + k * 31, none⟩) (n - k) (cap - k)
  | 4, v, w => w.ownsRow M 71 31 v (0 + (n - k)) ([] ++ partL near k (n - k))
  | 5, v, _ => v = .slice (some ⟨b, off, none⟩) n cap
  | 6, v, _ => v = .int .i64 k
  | 7, v, _ => v = .slice (some ⟨b, off, none⟩) k cap
  | 8, v, w => w.ownsRow M 71 31 v (0 + (n - k) + k) ([] ++ partL near k (n - k) ++ partL near 0 k)
  | 9, v, _ => v = .slice (some ⟨b, off, none⟩) n cap
  | 10, v, _ => v = .int .i64 k
  | 11, v, _ => v = .pointer (some ⟨bx, ox, none⟩)
  | 12, v, _ => v = .agg (nrV x).toArray
  | 13, v, w => ∃ g, v = .slice (some ⟨g, 0, none⟩) 1 1 ∧ ∀ j u, (nrV x)[j]? = some u → w.cell? ((⟨g, 0, none⟩ : Addr).add j) = some u
  | 14, v, w => w.ownsRow M 71 31 v (0 + (n - k) + k + 1) ([] ++ partL near k (n - k) ++ partL near 0 k ++ nrV x)
  | 15, v, w => w.ownsRow M 71 31 v (0 + (n - k) + k + 1) ([] ++ partL near k (n - k) ++ partL near 0 k ++ nrV x)
  | _, _, _ => True

theorem pvA_below {M b off bx ox n cap k : Nat} {near : List Nr} {x : Nr} {j : Nat} {v : Value} {w w' : World} (hb : Below w.heap.size w w') (h : pvA M b off bx ox n cap k near x j v w) : pvA M b off bx ox n cap k near x j v w' := by
  rcases j with _ | _ | _ | _ | _ | _ | _ | _ | _ | _ | _ | _ | _ | _ | _ | _ | j
  all_goals simp only [pvA] at h ⊢
  all_goals first
    | exact h
    | exact owns_below h hb (Nat.le_refl _)
    | (obtain ⟨g, h1, h2⟩ := h; exact ⟨g, h1, fun j u hj => cell_on hb (h2 j u hj)⟩)
    | trivial

theorem pvA_grow {M b off bx ox n cap k : Nat} {near : List Nr} {x : Nr} {j : Nat} {v : Value} {w w' : World} {row : Option Nat} (hg : w.grownBy w' row) (hj : j ≠ 0 ∧ j ≠ 4 ∧ j ≠ 8 ∧ j ≠ 14 ∧ j ≠ 15) (hr : j = 13 → ∀ g, row = some g → v.ownBlock ≠ some g)
    (h : pvA M b off bx ox n cap k near x j v w) : pvA M b off bx ox n cap k near x j v w' := by
  rcases j with _ | _ | _ | _ | _ | _ | _ | _ | _ | _ | _ | _ | _ | _ | _ | _ | j
  all_goals simp only [pvA] at h ⊢
  all_goals first
    | exact h
    | omega
    | (obtain ⟨g, rfl, h2⟩ := h; refine ⟨g, rfl, fun j u hj => ?_⟩; have h3 := h2 j u hj; rw [Addr.add_mid] at h3 ⊢; exact hg.cell h3 (fun e => hr rfl g e.symm rfl))

structure SA (W0 : World) (f : Nat → Value) (w : World) : Prop where
  below : Below W0.heap.size W0 w
  lt : ∀ d, d ∈ [54, 58, 62, 67] → ∀ g, (f d).ownBlock = some g → g < w.heap.size
  apart : ∀ d, d ∈ [54, 58, 62] → ∀ g, (f d).ownBlock = some g → (f 67).ownBlock ≠ some g

theorem up_same {d : Nat} {v : Value} {f : Nat → Value} : up (some d) v f d = v := if_pos rfl
theorem up_other {d d' : Nat} {v : Value} {f : Nat → Value} (h : d' ≠ d) : up (some d) v f d' = f d' := if_neg h

theorem SA.pure {W0 : World} {f : Nat → Value} {w : World} (h : SA W0 f w) (d : Nat) (v : Value) (hd : d ∉ [54, 58, 62, 67]) : SA W0 (up (some d) v f) w := by
  refine ⟨h.below, fun d' h1 => ?_, fun d' h1 => ?_⟩
  · rw [up_other (by rintro rfl; exact hd h1)]
    exact h.lt d' h1
  · rw [up_other (by rintro rfl; apply hd; simp only [List.mem_cons, List.not_mem_nil, or_false] at h1 ⊢; omega), up_other (by rintro rfl; apply hd; simp)]
    exact h.apart d' h1
theorem SA.grow {W0 : World} {f : Nat → Value} {w w' : World} (h : SA W0 f w) (hb : Below W0.heap.size W0 w') (hs : w.heap.size ≤ w'.heap.size) : SA W0 f w' :=
  ⟨hb, fun d h1 g h2 => Nat.lt_of_lt_of_le (h.lt d h1 g h2) hs, h.apart⟩
theorem SA.row {W0 : World} {f : Nat → Value} {w : World} (h : SA W0 f w) (d : Nat) (v : Value) (hd : d ∈ [54, 58, 62]) (hv : ∀ g, v.ownBlock = some g → g < w.heap.size ∧ (f 67).ownBlock ≠ some g) : SA W0 (up (some d) v f) w := by
  have h67 : d ≠ 67 := by rintro rfl; simp at hd
  refine ⟨h.below, fun d' h1 g hg => ?_, fun d' h1 g hg => ?_⟩
  · by_cases e : d' = d
    · subst e
      rw [up_same] at hg
      exact (hv g hg).1
    · rw [up_other e] at hg
      exact h.lt d' h1 g hg
  · rw [up_other h67.symm]
    by_cases e : d' = d
    · subst e
      rw [up_same] at hg
      exact (hv g hg).2
    · rw [up_other e] at hg
      exact h.apart d' h1 g hg
theorem SA.one {W0 : World} {f : Nat → Value} {w : World} (h : SA W0 f w) (v : Value) (hv : ∀ g, v.ownBlock = some g → g < w.heap.size ∧ ∀ d, d ∈ [54, 58, 62] → (f d).ownBlock ≠ some g) : SA W0 (up (some 67) v f) w := by
  refine ⟨h.below, fun d' h1 g hg => ?_, fun d' h1 g hg e => ?_⟩
  · by_cases e : d' = 67
    · subst e
      rw [up_same] at hg
      exact (hv g hg).1
    · rw [up_other e] at hg
      exact h.lt d' h1 g hg
  · have : d' ≠ 67 := by rintro rfl; simp at h1
    rw [up_other this] at hg
    rw [up_same] at e
    exact (hv g e).2 d' h1 hg

theorem same_kept2 (s t : Tb) {b : Nat} {A W : World} (hs : TbOk W s) (ht : TbOk A t) (h : TS b t A W) (he : s.same t = true) :
    Calls Try.prog 18 #[.agg #[.slice s.uA s.uL s.uC, .slice s.gA s.gL s.gC, .slice s.kA s.kL s.kC], .agg #[.slice t.uA t.uL t.uC, .slice t.gA t.gL t.gC, .slice t.kA t.kL t.kC]] W fun e w' => e = .returned (.bool true) ∧ TS b t A w' :=
  (same_any s t W hs (ht.below h.2.2.2 (Nat.le_refl _))).mono fun _ _ ⟨h1, h2⟩ => ⟨by rw [h1, he], h.on h2⟩

/-- Two tables' cells, and all that was there. -/
abbrev TT (b : Nat) (t : Tb) (b1 : Nat) (t1 : Tb) (A W : World) : Prop :=
  W.cell? ⟨b, 0, none⟩ = some (.slice t.uA t.uL t.uC) ∧ W.cell? ⟨b, 1, none⟩ = some (.slice t.gA t.gL t.gC) ∧ W.cell? ⟨b, 2, none⟩ = some (.slice t.kA t.kL t.kC) ∧
  W.cell? ⟨b1, 0, none⟩ = some (.slice t1.uA t1.uL t1.uC) ∧ W.cell? ⟨b1, 1, none⟩ = some (.slice t1.gA t1.gL t1.gC) ∧ W.cell? ⟨b1, 2, none⟩ = some (.slice t1.kA t1.kL t1.kC) ∧ Below A.heap.size A W
theorem TT.on {b b1 : Nat} {t t1 : Tb} {A W W' : World} (h : TT b t b1 t1 A W) (hb : Below W.heap.size W W') : TT b t b1 t1 A W' :=
  ⟨cell_on hb h.1, cell_on hb h.2.1, cell_on hb h.2.2.1, cell_on hb h.2.2.2.1, cell_on hb h.2.2.2.2.1, cell_on hb h.2.2.2.2.2.1, h.2.2.2.2.2.2.trans (hb.mono h.2.2.2.2.2.2.size)⟩
theorem yield_keptT (t : Tb) (me fr : Int) (a : Option Addr) (n cap : Nat) (near : List Nr) {b b1 : Nat} {t1 : Tb} {A W : World} (ht : TbOk A t) (hnear : NearOk A (.slice a n cap) near) (hu : t.uL ≤ 40) (hg : t.gL ≤ 40) (h : TT b t b1 t1 A W) :
    Calls Try.prog 13 #[.agg #[.slice t.uA t.uL t.uC, .slice t.gA t.gL t.gC, .slice t.kA t.kL t.kC], .int .i64 me, .slice a n cap, .int .i64 fr] W fun e w' =>
      ∃ t' : Tb, e = .returned (.agg #[.slice t'.uA t'.uL t'.uC, .slice t'.gA t'.gL t'.gC, .slice t'.kA t'.kL t'.kC]) ∧ (TbOk w' t' ∧ t'.us = t.us.filter (keepU fr me near) ∧ t'.gs = t.gs.filter (keepG fr near) ∧ t'.ks = t.ks) ∧ TT b t b1 t1 A w' := by
  have hl := hnear.1.length
  simp only [List.length_map] at hl
  refine (yield_any t me fr a n cap near W hl.2 hl.1 (ht.below h.2.2.2.2.2.2 (Nat.le_refl _)) (hnear.below h.2.2.2.2.2.2 (Nat.le_refl _)) (by omega) (by omega)).mono ?_
  rintro e w' ⟨t', h1, h2, h3, h4, h5, h6⟩
  exact ⟨t', h1, ⟨h2, h3, h4, h5⟩, h.on h6⟩
theorem same_keptT (s : Tb) {t t1 : Tb} {b b1 : Nat} {A W : World} (hs : TbOk W s) (ht : TbOk A t1) (h : TT b t b1 t1 A W) (he : s.same t1 = true) :
    Calls Try.prog 18 #[.agg #[.slice s.uA s.uL s.uC, .slice s.gA s.gL s.gC, .slice s.kA s.kL s.kC], .agg #[.slice t1.uA t1.uL t1.uC, .slice t1.gA t1.gL t1.gC, .slice t1.kA t1.kL t1.kC]] W fun e w' => e = .returned (.bool true) ∧ TT b t b1 t1 A w' :=
  (same_any s t1 W hs (ht.below h.2.2.2.2.2.2 (Nat.le_refl _))).mono fun _ _ ⟨h1, h2⟩ => ⟨by rw [h1, he], h.on h2⟩

set_option maxRecDepth 100000 in
set_option maxHeartbeats 1000000 in
theorem ClaimsAgain_walk (t : Tb) (me : Int) (a : Option Addr) (n cap : Nat) (near : List Nr) (fr turn : Int) (w : World) (ht : TbOk w t) (hnear : NearOk w (.slice a n cap) near) (hturn : 0 ≤ turn ∧ turn ≤ 255) :
    Calls Try.prog 8 #[.agg #[.slice t.uA t.uL t.uC, .slice t.gA t.gL t.gC, .slice t.kA t.kL t.kC], .int .i64 me, .slice a n cap, .int .i64 fr, .int .u8 turn] w fun e w' => e = .returned (.bool true) ∧ Below w.heap.size w w' := by
  have hlen := hnear.1.length
  simp only [List.length_map] at hlen
  obtain ⟨hn, hm⟩ := hlen
  unfold maxLen at hm
  have HN := Lib.hid hn
  clear hn
  go_enter Try.func8, Try.ntmps8
  go_wp2_with fail
  refine (head_any _).mono ?_
  rintro e w1 ⟨rfl, hb1⟩
  obtain ⟨hc1, _⟩ := bcell hb1
  have c0 : w1.cell? ⟨w.heap.size, 0, none⟩ = some (.slice t.uA t.uL t.uC) := by rw [hc1 _ _ (by simp)]; go_simp
  have c1 : w1.cell? ⟨w.heap.size, 1, none⟩ = some (.slice t.gA t.gL t.gC) := by rw [hc1 _ _ (by simp)]; go_simp
  have c2 : w1.cell? ⟨w.heap.size, 2, none⟩ = some (.slice t.kA t.kL t.kC) := by rw [hc1 _ _ (by simp)]; go_simp
  have hB1 : Below w.heap.size w w1 := ((Below.refl _ w).alloc (Nat.le_refl _) _).trans (hb1.mono (by simp))
  have z1 : w.heap.size < w1.heap.size := cell_block c0
  clear hb1 hc1
  go_wp2_with fail
  refine (few_any t w1).mono ?_
  rintro e w2 ⟨rfl, hb2⟩
  have hB2 := hB1.trans (hb2.mono hB1.size)
  obtain ⟨hc2, _⟩ := bcell hb2
  have c0' := (hc2 w.heap.size 0 z1).trans c0
  have c1' := (hc2 w.heap.size 1 z1).trans c1
  have c2' := (hc2 w.heap.size 2 z1).trans c2
  clear hb2 hc2 hB1 c0 c1 c2
  by_cases hfew : t.uL ≤ 40 ∧ t.gL ≤ 40 ∧ t.kL ≤ 40
  case neg =>
    have hd : decide (t.uL ≤ 40 ∧ t.gL ≤ 40 ∧ t.kL ≤ 40) = false := decide_eq_false hfew
    simp only [hd]
    clear hd hfew
    go_wp2_with fail
    go_ret
    exact ⟨rfl, hB2⟩
  have hd : decide (t.uL ≤ 40 ∧ t.gL ≤ 40 ∧ t.kL ≤ 40) = true := decide_eq_true hfew
  simp only [hd]
  clear hd
  go_wp2_with fail
  refine (fewNear_any a n cap near w2 (hnear.below hB2 (Nat.le_refl _))).mono ?_
  rintro e w3 ⟨rfl, hb3⟩
  have hB3 := hB2.trans (hb3.mono hB2.size)
  have z2 : w.heap.size < w2.heap.size := cell_block c0'
  obtain ⟨hc3, _⟩ := bcell hb3
  have c0 := (hc3 w.heap.size 0 z2).trans c0'
  have c1 := (hc3 w.heap.size 1 z2).trans c1'
  have c2 := (hc3 w.heap.size 2 z2).trans c2'
  clear hb3 hc3 hB2 c0' c1' c2' z1 z2
  cases hfn : (near.all fewB && decide (n ≤ 70)) with
  | false =>
    clear hfn
    go_wp2_with fail
    go_ret
    exact ⟨rfl, hB3⟩
  | true =>
    have h70 : n ≤ 70 := by
      simp only [Bool.and_eq_true, decide_eq_true_eq] at hfn
      exact hfn.2
    clear hfn
    have hnear3 := hnear.below hB3 (Nat.le_refl _)
    have z3 : w.heap.size < w3.heap.size := cell_block c0
    have hu40 := hfew.1
    have hg40 := hfew.2.1
    have ht3 := ht.below hB3 (Nat.le_refl _)
    go_wp2_with fail
    refine (yield_any t me fr a n cap near w3 hnear3.1.length.2 (by simpa using hnear3.1.length.1) ht3 hnear3 (by omega) (by omega)).mono ?_
    rintro e w4 ⟨t1, rfl, ok1, u1, g1, k1, hb4⟩
    have hl1 : t1.uL ≤ 40 ∧ t1.gL ≤ 40 := by
      have h1 := ok1.1.length.1
      have h2 := ht.1.length.1
      have h3 := List.length_filter_le (keepU fr me near) t.us
      have h4 := ok1.2.1.length.1
      have h5 := ht.2.1.length.1
      have h6 := List.length_filter_le (keepG fr near) t.gs
      rw [← u1] at h3
      rw [← g1] at h6
      simp only [List.length_map] at h1 h2 h4 h5
      omega
    have d0 := cell_on hb4 c0
    have d1 := cell_on hb4 c1
    have d2 := cell_on hb4 c2
    have hB4 := hB3.trans (hb4.mono hB3.size)
    have U1 := Lib.hid u1
    have G1 := Lib.hid g1
    have K1 := Lib.hid k1
    clear u1 g1 k1 hb4 hB3 c0 c1 c2 hnear3 ht3 hfew z3
    go_wp2_with fail
    refine wp_name ?_
    intro W5 hW5
    have hB5w : Below w4.heap.size w4 W5 := by rw [hW5]; first | exact ((Below.refl _ _).alloc (Nat.le_refl _) _) | exact (((Below.refl _ _).alloc (Nat.le_refl _) _).setCell (by simp) _)
    have q0 : W5.cell? ⟨w4.heap.size, 0, none⟩ = some (.slice t1.uA t1.uL t1.uC) := by rw [hW5]; go_simp
    have q1 : W5.cell? ⟨w4.heap.size, 1, none⟩ = some (.slice t1.gA t1.gL t1.gC) := by rw [hW5]; go_simp
    have q2 : W5.cell? ⟨w4.heap.size, 2, none⟩ = some (.slice t1.kA t1.kL t1.kC) := by rw [hW5]; go_simp
    clear hW5
    have d0' := cell_on hB5w d0
    have d1' := cell_on hB5w d1
    have d2' := cell_on hB5w d2
    have z4 : w.heap.size < w4.heap.size := cell_block d0
    have hB5 := hB4.trans (hB5w.mono hB4.size)
    have ok1' := ok1.below hB5w (Nat.le_refl _)
    have hnear5 := hnear.below hB5 (Nat.le_refl _)
    obtain ⟨b1, hb1⟩ : ∃ b1, w4.heap.size = b1 := ⟨_, rfl⟩
    rw [hb1] at q0 q1 q2 z4 ⊢
    have hT5 : TS b1 t1 W5 W5 := ⟨q0, q1, q2, Below.refl _ _⟩
    clear hb1 hB5w d0 d1 d2 hB4 ok1
    have same12 : ∀ t2 : Tb, t2.us = t1.us.filter (keepU fr me near) ∧ t2.gs = t1.gs.filter (keepG fr near) ∧ t2.ks = t1.ks → t2.same t1 = true := fun t2 h =>
      same_of (by rw [h.1, U1.out, filter_idem]) (by rw [h.2.1, G1.out, filter_idem]) h.2.2
    by_cases h0 : n = 0
    · have e0 : ((n : Int) == 0) = true := by simp [h0]
      have H0 := Lib.hid h0
      clear h0
      go_region_held3 (fun W' => W'.cell? ⟨b1, 0, none⟩ = some (.slice t1.uA t1.uL t1.uC) ∧ W'.cell? ⟨b1, 1, none⟩ = some (.slice t1.gA t1.gL t1.gC) ∧ W'.cell? ⟨b1, 2, none⟩ = some (.slice t1.kA t1.kL t1.kC) ∧ Below W5.heap.size W5 W')
        (first | with_reducible assumption | with_reducible exact TS.on hT5 ((Below.refl _ _).drew))
        (first
          | (go_at_call 13; with_reducible refine (yield_kept t1 me fr a n cap near ok1' hnear5 hl1.1 hl1.2 (by with_reducible assumption)).mono ?_; rintro e w' ⟨t2, rfl, ht2, hS⟩)
          | (go_at_call 18; with_reducible refine (same_kept2 t2 t1 ht2.1 ok1' (by with_reducible assumption) (same12 t2 ht2.2)).mono ?_; rintro e w' ⟨rfl, hS⟩))
      have hB6 := hB5.trans (hS.2.2.2.mono hB5.size)
      clear hS
      go_wp2_with fail
      go_ret
      exact ⟨rfl, hB6⟩
    have e0 : ((n : Int) == 0) = false := by simpa using h0
    go_region_held3 (fun W' => W'.cell? ⟨b1, 0, none⟩ = some (.slice t1.uA t1.uL t1.uC) ∧ W'.cell? ⟨b1, 1, none⟩ = some (.slice t1.gA t1.gL t1.gC) ∧ W'.cell? ⟨b1, 2, none⟩ = some (.slice t1.kA t1.kL t1.kC) ∧ Below W5.heap.size W5 W')
      (first | with_reducible assumption | with_reducible exact TS.on hT5 ((Below.refl _ _).drew))
      (first
        | (go_at_call 13; with_reducible refine (yield_kept t1 me fr a n cap near ok1' hnear5 hl1.1 hl1.2 (by with_reducible assumption)).mono ?_; rintro e w' ⟨t2, rfl, ht2, hS⟩)
        | (go_at_call 18; with_reducible refine (same_kept2 t2 t1 ht2.1 ok1' (by with_reducible assumption) (same12 t2 ht2.2)).mono ?_; rintro e w' ⟨rfl, hS⟩))
    obtain ⟨W6, hW6⟩ : ∃ W : World, W = w' := ⟨_, rfl⟩
    subst hW6
    have hB6 := hB5.trans (hS.2.2.2.mono hB5.size)
    have hnear6 := hnear.below hB6 (Nat.le_refl _)
    have p0 := cell_on hS.2.2.2 d0'
    have p1 := cell_on hS.2.2.2 d1'
    have p2 := cell_on hS.2.2.2 d2'
    have hS6 : TS b1 t1 W6 W6 := ⟨hS.1, hS.2.1, hS.2.2.1, Below.refl _ _⟩
    have ok6 := ok1'.below hS.2.2.2 (Nat.le_refl _)
    clear ht2 hS same12 hT5 q0 q1 q2 hB5 hnear5 ok1' d0' d1' d2'
    go_wp2_with fail
    obtain ⟨k, hk, hkn⟩ : ∃ k : Nat, turn % (n : Int) = (k : Int) ∧ k < n := ⟨(turn % (n : Int)).toNat, by
      have := Int.emod_nonneg turn (b := (n : Int)) (by omega)
      omega, by
      have := Int.emod_nonneg turn (b := (n : Int)) (by omega)
      have := Int.emod_lt_of_pos turn (b := (n : Int)) (by omega)
      omega⟩
    obtain ⟨b, off, rfl⟩ : ∃ b off, a = some ⟨b, off, none⟩ := by
      obtain ⟨⟨a', cap', e, _, _, _, h4⟩, _⟩ := hnear
      simp only [Value.slice.injEq] at e
      obtain ⟨b, off, e2, _⟩ := h4 (by intro e0; have := congrArg List.length e0; rw [List.length_map, List.length_nil] at this; have := HN.out; omega)
      exact ⟨b, off, e.1.trans e2⟩
    have hcap : n ≤ cap ∧ cap ≤ maxLen := by
      obtain ⟨⟨a', cap', e, h1, h2, _⟩, _⟩ := hnear
      simp only [Value.slice.injEq] at e
      omega
    have hs1 : ∀ W, (Instr.slice 27 (.slice (some ⟨b, off, none⟩) n cap) none (some (.int .i64 (k : Int))) none).run Try.prog W = .ok (.slice (some ⟨b, off, none⟩) k cap) W := by
      intro W
      have h0 : (0 : Int) ≤ (k : Int) := by omega
      have h1 : (k : Int) ≤ (cap : Int) := by omega
      go_simp
    have hs2 : ∀ W, (Instr.slice 27 (.slice (some ⟨b, off, none⟩) n cap) (some (.int .i64 (k : Int))) none none).run Try.prog W = .ok (.slice (some ⟨b, off + k * 31, none⟩) (n - k) (cap - k)) W := by
      intro W
      have h0 : (0 : Int) ≤ (k : Int) := by omega
      have h1 : (k : Int) ≤ (n : Int) := by omega
      have hck : ¬ cap = k := by omega
      rw [run_slice_l W 27 _ _ _ Try.underlying27 .i64 _ h0 h1, show Try.prog.elem 27 = 71 from rfl, sz71 W]
      simp [hck, sliced, Result.andThen, Addr.add_mid]
    simp only [hk]
    obtain ⟨x, hxk⟩ : ∃ x, near[k]? = some x := ⟨near[k]'(by have := HN.out; omega), List.getElem?_eq_getElem _⟩
    obtain ⟨i0, Z, hi, hz0, hz1, hz2, hzs⟩ := info71_parts
    have hL1 : ((near.drop 0).take k).length = k := by have := HN.out; rw [List.length_take, List.length_drop]; omega
    have hL2 : ((near.drop k).take (n - k)).length = n - k := by have := HN.out; rw [List.length_take, List.length_drop]; omega
    have hP1 := near_part hnear6 0 k
    rw [Nat.zero_mul, Nat.add_zero] at hP1
    have hP2 := near_part hnear6 k (n - k)
    obtain ⟨bx, ox0, hix, hrg⟩ := nr_at hnear6.1 hxk
    obtain ⟨ox, hox⟩ : ∃ ox, ox0 + k * 31 = ox := ⟨_, rfl⟩
    rw [hox] at hrg
    simp only [hox] at hix
    clear hox
    refine region_posts (ops := _) rfl (SA W6) (fun j f w => pvA W6.heap.size b off bx ox n cap k near x j (f (dA j)) w) (fun j => [dA j]) eatA slA (by kernel_rfl) (by kernel_rfl) (by kernel_rfl) (by kernel_rfl) (fun j f g w h hp => by rw [← h _ List.mem_cons_self]; exact hp) ?_ ?_ ?_
    · refine ⟨(Below.refl _ _).drew, fun d hd g hg => ?_, fun d hd g hg => ?_⟩
      · simp only [List.mem_cons, List.not_mem_nil, or_false] at hd
        rcases hd with rfl | rfl | rfl | rfl <;> cases hg
      · simp only [List.mem_cons, List.not_mem_nil, or_false] at hd
        rcases hd with rfl | rfl | rfl <;> cases hg
    · intro i hi' K a' w' done hO hS hcl hnd hout hdep hP hk'
      have o2 : a'.tmps[2]?.getD undef = .slice (some ⟨b, off, none⟩) n cap := hO 2 (by kernel_rfl)
      have o13 : a'.tmps[13]?.getD undef = .int .i64 k := hO 13 (by kernel_rfl)
      have h99 : done 99 = false := hout 99 (by decide)
      have hP' : ∀ j, done j = true → done (eatA j) = false → pvA W6.heap.size b off bx ox n cap k near x j (slot a'.tmps (dA j)) w' := hP
      clear hP
      have hlt16 : i < 16 := hi'
      have hup : w'.heap.size ≤ w'.heap.size := Nat.le_refl _
      have hsz := hS.below.size
      rcases i with _ | _ | _ | _ | _ | _ | _ | _ | _ | _ | _ | _ | _ | _ | _ | _ | i
      · refine wpOp_val (v := .slice (some ⟨w'.heap.size, 0, none⟩) 0 0) (w' := w'.alloc (.cells #[] 71)) rfl rfl (by go_simp) ?_
        have hb : Below w'.heap.size w' (w'.alloc (.cells #[] 71)) := (Below.refl _ _).alloc (Nat.le_refl _) _
        refine hk' _ _ ?_ ?_ (fun j _ _ _ _ h => pvA_below hb h)
        · refine SA.row (hS.grow (hS.below.alloc hsz _) hb.size) 54 _ (by decide) (fun g hg => ?_)
          obtain rfl : w'.heap.size = g := Option.some.inj hg
          exact ⟨by simp, fun e => by have := hS.lt 67 (by decide) _ e; omega⟩
        · exact World.ownsRow_made _ #[] 0 hsz (Nat.zero_le _) rfl
      · exact wpOp_val (v := .slice (some ⟨b, off, none⟩) n cap) (w' := w') rfl rfl (by go_simp) (hk' _ _ (hS.pure 55 _ (by decide)) rfl (fun _ _ _ _ _ h => h))
      · exact wpOp_val (v := .int .i64 k) (w' := w') rfl rfl (by go_simp) (hk' _ _ (hS.pure 56 _ (by decide)) rfl (fun _ _ _ _ _ h => h))
      · have p1 : a'.tmps[55]?.getD undef = .slice (some ⟨b, off, none⟩) n cap := hP' 1 (hdep 1 (by kernel_rfl)) h99
        have p2 : a'.tmps[56]?.getD undef = .int .i64 k := hP' 2 (hdep 2 (by kernel_rfl)) h99
        exact wpOp_val (v := .slice (some ⟨b, off + k * 31, none⟩) (n - k) (cap - k)) (w' := w') rfl rfl (by go_simp) (hk' _ _ (hS.pure 57 _ (by decide)) rfl (fun _ _ _ _ _ h => h))
      · have p0 := hP' 0 (hdep 0 (by kernel_rfl)) hnd
        have p3 : a'.tmps[57]?.getD undef = .slice (some ⟨b, off + k * 31, none⟩) (n - k) (cap - k) := hP' 3 (hdep 3 (by kernel_rfl)) h99
        refine wpOp_append rfl rfl _ _ 27 rfl W6.heap.size 71 i0 Z 31 392 Try.underlying27 hi hz0 hz1 hz2 hzs (by decide) (slot a'.tmps 54) 0 [] (eval_slot a' 54) p0 ⟨b, off + k * 31, none⟩ (n - k) (cap - k) (partL near k (n - k)) ((eval_slot a' 57).trans p3) (by rw [partL, near_len, hL2]) (fun j u h => cell_on hS.below (hP2 j u h)) (near_flat_one _) (by unfold maxLen; omega) (by omega) hsz ?_
        intro v' w'' hown hg hwh
        have hB2 : Below W6.heap.size W6 w'' := hS.below.grown hg hsz (fun g e => (p0.lt g e).1)
        refine hk' _ _ ?_ hown ?_
        · refine SA.row (hS.grow hB2 hg.size) 58 _ (by decide) (fun g e => ⟨(hown.lt g e).2, ?_⟩)
          rcases hwh with h1 | h1
          · rw [h1] at e
            exact hS.apart 54 (by decide) g e
          · rw [h1] at e
            cases e
            exact fun e => by have := hS.lt 67 (by decide) _ e; omega
        · intro j hj h1 h2 h3 h4
          refine pvA_grow hg ⟨?_, ?_, ?_, ?_, ?_⟩ ?_ h4
          · rintro rfl; exact h3 rfl
          · rintro rfl; rw [hnd] at h1; cases h1
          · rintro rfl; have := hcl 8 4 h1 (by kernel_rfl); rw [hnd] at this; cases this
          · rintro rfl; have := hcl 8 4 (hcl 14 8 h1 (by kernel_rfl)) (by kernel_rfl); rw [hnd] at this; cases this
          · rintro rfl; have := hcl 15 4 h1 (by kernel_rfl); rw [hnd] at this; cases this
          · rintro rfl g e; exact hS.apart 54 (by decide) g e
      · exact wpOp_val (v := .slice (some ⟨b, off, none⟩) n cap) (w' := w') rfl rfl (by go_simp) (hk' _ _ (hS.pure 59 _ (by decide)) rfl (fun _ _ _ _ _ h => h))
      · exact wpOp_val (v := .int .i64 k) (w' := w') rfl rfl (by go_simp) (hk' _ _ (hS.pure 60 _ (by decide)) rfl (fun _ _ _ _ _ h => h))
      · have p1 : a'.tmps[59]?.getD undef = .slice (some ⟨b, off, none⟩) n cap := hP' 5 (hdep 5 (by kernel_rfl)) h99
        have p2 : a'.tmps[60]?.getD undef = .int .i64 k := hP' 6 (hdep 6 (by kernel_rfl)) h99
        exact wpOp_val (v := .slice (some ⟨b, off, none⟩) k cap) (w' := w') rfl rfl (by go_simp) (hk' _ _ (hS.pure 61 _ (by decide)) rfl (fun _ _ _ _ _ h => h))
      · have p0 := hP' 4 (hdep 4 (by kernel_rfl)) hnd
        have p3 : a'.tmps[61]?.getD undef = .slice (some ⟨b, off, none⟩) k cap := hP' 7 (hdep 7 (by kernel_rfl)) h99
        refine wpOp_append rfl rfl _ _ 27 rfl W6.heap.size 71 i0 Z 31 392 Try.underlying27 hi hz0 hz1 hz2 hzs (by decide) (slot a'.tmps 58) (0 + (n - k)) _ (eval_slot a' 58) p0 ⟨b, off, none⟩ k cap (partL near 0 k) ((eval_slot a' 61).trans p3) (by rw [partL, near_len, hL1]) (fun j u h => cell_on hS.below (hP1 j u h)) (near_flat_one _) (by unfold maxLen; omega) (by omega) hsz ?_
        intro v' w'' hown hg hwh
        have hB2 : Below W6.heap.size W6 w'' := hS.below.grown hg hsz (fun g e => (p0.lt g e).1)
        refine hk' _ _ ?_ hown ?_
        · refine SA.row (hS.grow hB2 hg.size) 62 _ (by decide) (fun g e => ⟨(hown.lt g e).2, ?_⟩)
          rcases hwh with h1 | h1
          · rw [h1] at e
            exact hS.apart 58 (by decide) g e
          · rw [h1] at e
            cases e
            exact fun e => by have := hS.lt 67 (by decide) _ e; omega
        · intro j hj h1 h2 h3 h4
          refine pvA_grow hg ⟨?_, ?_, ?_, ?_, ?_⟩ ?_ h4
          · rintro rfl; rw [show eatA 0 = 4 from rfl, hdep 4 (by kernel_rfl)] at h2; cases h2
          · rintro rfl; exact h3 rfl
          · rintro rfl; rw [hnd] at h1; cases h1
          · rintro rfl; have := hcl 14 8 h1 (by kernel_rfl); rw [hnd] at this; cases this
          · rintro rfl; have := hcl 15 8 h1 (by kernel_rfl); rw [hnd] at this; cases this
          · rintro rfl g e; exact hS.apart 58 (by decide) g e
      · exact wpOp_val (v := .slice (some ⟨b, off, none⟩) n cap) (w' := w') rfl rfl (by go_simp) (hk' _ _ (hS.pure 63 _ (by decide)) rfl (fun _ _ _ _ _ h => h))
      · exact wpOp_val (v := .int .i64 k) (w' := w') rfl rfl (by go_simp) (hk' _ _ (hS.pure 64 _ (by decide)) rfl (fun _ _ _ _ _ h => h))
      · have p1 : a'.tmps[63]?.getD undef = .slice (some ⟨b, off, none⟩) n cap := hP' 9 (hdep 9 (by kernel_rfl)) h99
        have p2 : a'.tmps[64]?.getD undef = .int .i64 k := hP' 10 (hdep 10 (by kernel_rfl)) h99
        exact wpOp_val (v := .pointer (some ⟨bx, ox, none⟩)) (w' := w') rfl rfl (by go_simp) (hk' _ _ (hS.pure 65 _ (by decide)) rfl (fun _ _ _ _ _ h => h))
      · have p1 : a'.tmps[65]?.getD undef = .pointer (some ⟨bx, ox, none⟩) := hP' 11 (hdep 11 (by kernel_rfl)) h99
        exact wpOp_load71 rfl rfl (.tmp 65) rfl x bx ox ((eval_slot a' 65).trans p1) (fun j u h => cell_on hS.below (hrg j u h)) (hk' _ _ (hS.pure 66 _ (by decide)) rfl (fun _ _ _ _ _ h => h))
      · have p1 : a'.tmps[66]?.getD undef = .agg (nrV x).toArray := hP' 12 (hdep 12 (by kernel_rfl)) h99
        refine wpOp_build71 rfl rfl (.tmp 66) rfl x ((eval_slot a' 66).trans p1) ?_
        have hb : Below w'.heap.size w' (w'.alloc (.cells (nrV x).toArray 71)) := (Below.refl _ _).alloc (Nat.le_refl _) _
        refine hk' _ _ ?_ ?_ (fun j _ _ _ _ h => pvA_below hb h)
        · refine SA.one (hS.grow (hS.below.alloc hsz _) hb.size) _ (fun g hg => ?_)
          obtain rfl : w'.heap.size = g := Option.some.inj hg
          exact ⟨by simp, fun d hd e => by have := hS.lt d (by revert hd; simp; omega) _ e; omega⟩
        · refine ⟨w'.heap.size, rfl, fun j u hj => ?_⟩
          rw [Addr.add_mid]
          exact rangeAt_new w' (nrV x) 71 0 (nrV x) (fun j v h => by rw [Nat.zero_add]; exact h) j u hj
      · have p0 := hP' 8 (hdep 8 (by kernel_rfl)) hnd
        obtain ⟨g7, p3, hcl7⟩ := hP' 13 (hdep 13 (by kernel_rfl)) h99
        have p3' : a'.tmps[67]?.getD undef = .slice (some ⟨g7, 0, none⟩) 1 1 := p3
        refine wpOp_append rfl rfl _ _ 27 rfl W6.heap.size 71 i0 Z 31 392 Try.underlying27 hi hz0 hz1 hz2 hzs (by decide) (slot a'.tmps 62) (0 + (n - k) + k) _ (eval_slot a' 62) p0 ⟨g7, 0, none⟩ 1 1 (nrV x) ((eval_slot a' 67).trans p3') (nrV_len x) hcl7 (nrV_one x) (by unfold maxLen; omega) (by omega) hsz ?_
        intro v' w'' hown hg hwh
        have hB2 : Below W6.heap.size W6 w'' := hS.below.grown hg hsz (fun g e => (p0.lt g e).1)
        refine hk' _ _ ((hS.grow hB2 hg.size).pure 68 _ (by decide)) hown ?_
        intro j hj h1 h2 h3 h4
        refine pvA_grow hg ⟨?_, ?_, ?_, ?_, ?_⟩ ?_ h4
        · rintro rfl; rw [show eatA 0 = 4 from rfl, hcl 8 4 (hdep 8 (by kernel_rfl)) (by kernel_rfl)] at h2; cases h2
        · rintro rfl; rw [show eatA 4 = 8 from rfl, hdep 8 (by kernel_rfl)] at h2; cases h2
        · rintro rfl; exact h3 rfl
        · rintro rfl; rw [hnd] at h1; cases h1
        · rintro rfl; have := hcl 15 14 h1 (by kernel_rfl); rw [hnd] at this; cases this
        · rintro rfl g e; exact hS.apart 62 (by decide) g e
      · have p0 := hP' 14 (hdep 14 (by kernel_rfl)) hnd
        obtain ⟨u, hu⟩ : ∃ u, slot a'.tmps 68 = u := ⟨_, rfl⟩
        have hu' : a'.tmps[68]?.getD undef = u := hu
        rw [show dA 14 = 68 from rfl, hu] at p0
        exact wpOp_val (v := u) (w' := w') rfl rfl (by go_simp) (hk' _ _ (hS.pure 14 _ (by decide)) p0 (fun _ _ _ _ _ h => h))
      · omega
    · intro s w7 hS7 hP7
      have hown : w7.ownsRow W6.heap.size 71 31 (slot s 14) (0 + (n - k) + k + 1) ([] ++ partL near k (n - k) ++ partL near 0 k ++ nrV x) := hP7 15 (by decide) (by decide)
      have hF : NearOk w7 (slot s 14) (turnL near k x) := by
        have hd : (near.drop k).take (n - k) = near.drop k := List.take_of_length_le (by rw [List.length_drop]; have := HN.out; omega)
        refine ⟨owns_rows hown _ ?_ ?_ ?_, fun y hy => ?_⟩
        · have := HN.out
          simp only [turnL, List.length_map, List.length_append, List.length_take, List.length_drop, List.length_cons, List.length_nil]; omega
        · rw [partL, partL, hd, List.drop_zero, List.nil_append, turnL, List.map_append, List.map_append, List.flatten_append, List.flatten_append]
          simp
        · intro cs h; obtain ⟨x, _, rfl⟩ := List.mem_map.1 h; rfl
        · exact (hnear6.2 y ((turn_mem hxk y).1 hy)).below hS7.below (Nat.le_refl _)
      obtain ⟨af, cf, hv2, _⟩ := hF.1.len
      obtain ⟨nf, hnf⟩ : ∃ nf, ((turnL near k x).map nrV).length = nf := ⟨_, rfl⟩
      rw [hnf] at hv2
      rw [hv2] at hF
      have e14 : s.getD 14 undef = .slice af nf cf := by rw [← hv2]; simp [slot, Array.getD_eq_getD_getElem?]
      have r0 := cell_on hS7.below p0
      have r1 := cell_on hS7.below p1
      have r2 := cell_on hS7.below p2
      have hS8 : TS b1 t1 W6 w7 := hS6.on hS7.below
      have hB7 := hB6.trans (hS7.below.mono hB6.size)
      have ht7 := ht.below hB7 (Nat.le_refl _)
      have ok7 := ok6.below hS7.below (Nat.le_refl _)
      have hT7 : TS w.heap.size t w7 w7 := ⟨r0, r1, r2, Below.refl _ _⟩
      have hT7' : TS b1 t1 w7 w7 := ⟨hS8.1, hS8.2.1, hS8.2.2.1, Below.refl _ _⟩
      have HXK := Lib.hid hxk
      clear hown hS7 hP7 hv2 hnf p0 p1 p2 hS6 hS8 hB6 hnear6 ok6 hP1 hP2 hL1 hL2 hs1 hs2 hix hrg hi hz0 hz1 hz2 hzs hxk hk e0 hcap
      simp only [puts, slA, List.foldl_cons, List.foldl_nil, e14, List.setIfInBounds_toArray, List.set_cons_zero, List.set_cons_succ]
      go_wp2_with fail
      have same3 : ∀ t3 : Tb, t3.us = t.us.filter (keepU fr me (turnL near k x)) ∧ t3.gs = t.gs.filter (keepG fr (turnL near k x)) ∧ t3.ks = t.ks → t3.same t1 = true := fun t3 h =>
        same_of (by rw [h.1, U1.out, keepU_turn HXK.out]) (by rw [h.2.1, G1.out, keepG_turn HXK.out]) (h.2.2.trans K1.out.symm)
      have hTT : TT w.heap.size t b1 t1 w7 w7 := ⟨r0, r1, r2, hT7'.1, hT7'.2.1, hT7'.2.2.1, Below.refl _ _⟩
      clear hT7 hT7' r0 r1 r2 e14
      go_region_held3 (fun W' => W'.cell? ⟨w.heap.size, 0, none⟩ = some (.slice t.uA t.uL t.uC) ∧ W'.cell? ⟨w.heap.size, 1, none⟩ = some (.slice t.gA t.gL t.gC) ∧ W'.cell? ⟨w.heap.size, 2, none⟩ = some (.slice t.kA t.kL t.kC) ∧
        W'.cell? ⟨b1, 0, none⟩ = some (.slice t1.uA t1.uL t1.uC) ∧ W'.cell? ⟨b1, 1, none⟩ = some (.slice t1.gA t1.gL t1.gC) ∧ W'.cell? ⟨b1, 2, none⟩ = some (.slice t1.kA t1.kL t1.kC) ∧ Below w7.heap.size w7 W')
        (first | with_reducible assumption | with_reducible exact TT.on hTT ((Below.refl _ _).drew))
        (first
          | (go_at_call 13; with_reducible refine (yield_keptT t me fr af nf cf (turnL near k x) ht7 hF hu40 hg40 (by with_reducible assumption)).mono ?_; rintro e w' ⟨t3, rfl, ht3, hS⟩)
          | (go_at_call 18; with_reducible refine (same_keptT t3 ht3.1 ok7 (by with_reducible assumption) (same3 t3 ht3.2)).mono ?_; rintro e w' ⟨rfl, hS⟩))
      have hB8 := hB7.trans (hS.2.2.2.2.2.2.mono hB7.size)
      clear hS
      go_wp2_with fail
      go_ret
      exact ⟨rfl, hB8⟩

end Go.Proofs.Ytadiocpcpjbjpaa

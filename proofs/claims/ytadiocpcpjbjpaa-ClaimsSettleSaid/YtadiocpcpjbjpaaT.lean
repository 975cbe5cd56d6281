import Derived.Test.YtadiocpcpjbjpaaR
namespace Go.Proofs.Ytadiocpcpjbjpaa
open Go.RowKit

/-! ### The tables of the fixed example -/
def tabZ : Tb := { uA := none, uL := 0, uC := 0, gA := none, gL := 0, gC := 0, kA := none, kL := 0, kC := 0, us := [], gs := [], ks := [] }
def tabA (n : Nat) : Tb := { tabZ with uA := some ⟨n + 1, 0, none⟩, uL := 1, uC := 1, us := [((2, 5), 0, 7)] }
def tabB (n : Nat) : Tb := { tabZ with gA := some ⟨n + 1 + 1 + 1, 0, none⟩, gL := 1, gC := 1, gs := [((2, 5), 4, 6, 14)] }
def tabD (n : Nat) : Tb := { tabZ with gA := some ⟨n + 1 + 1 + 1 + 1 + 1, 0, none⟩, gL := 1, gC := 1, gs := [((2, 5), 4, 7, 15)] }

theorem rows_nil (k : Nat) (w : World) : Rows k w (.slice none 0 0) [] := ⟨none, 0, rfl, by simp, by simp, by simp, by simp⟩
theorem rows_one {k : Nat} {w : World} {b : Nat} {cs : List Value} {T : TypeId} (hb : Blk w b cs.toArray T) (hk : cs.length = k) : Rows k w (.slice (some ⟨b, 0, none⟩) 1 1) [cs] := by
  refine ⟨_, 1, rfl, by simp, by unfold maxLen; omega, by simpa using hk, fun _ => ⟨b, 0, rfl, fun i ds hi j x hj => ?_⟩⟩
  cases i with
  | succ i => simp at hi
  | zero =>
    simp only [List.getElem?_cons_zero, Option.some.injEq] at hi
    subst hi
    rw [show 0 + 0 * k + j = j by omega, hb.cell]
    simpa using hj

/-- What the example's first operations have laid. -/
def HeadAt (w : World) (n : Nat) : Prop :=
  Blk w n #[.int .i64 2, .int .i64 5] 33 ∧ Blk w (n + 1) (usV ((2, 5), 0, 7)).toArray 35 ∧ Blk w (n + 1 + 1) (tbV (tabA n)).toArray 26 ∧ Blk w (n + 1 + 1 + 1) (grV ((2, 5), 4, 6, 14)).toArray 38 ∧
  Blk w (n + 1 + 1 + 1 + 1) (tbV (tabB n)).toArray 26 ∧ Blk w (n + 1 + 1 + 1 + 1 + 1) (grV ((2, 5), 4, 7, 15)).toArray 38 ∧ Blk w (n + 1 + 1 + 1 + 1 + 1 + 1) (tbV (tabD n)).toArray 26

theorem HeadAt.below {w w' : World} {n : Nat} (h : HeadAt w n) (hb : Below w.heap.size w w') : HeadAt w' n := by
  obtain ⟨h0, h1, h2, h3, h4, h5, h6⟩ := h
  exact ⟨h0.below hb h0.lt, h1.below hb h1.lt, h2.below hb h2.lt, h3.below hb h3.lt, h4.below hb h4.lt, h5.below hb h5.lt, h6.below hb h6.lt⟩

theorem tabZ_ok (w : World) : TbOk w tabZ := ⟨rows_nil _ _, rows_nil _ _, rows_nil _ _⟩
theorem HeadAt.a {w : World} {n : Nat} (h : HeadAt w n) : TbOk w (tabA n) := ⟨rows_one h.2.1 rfl, rows_nil _ _, rows_nil _ _⟩
theorem HeadAt.b {w : World} {n : Nat} (h : HeadAt w n) : TbOk w (tabB n) := ⟨rows_nil _ _, rows_one h.2.2.2.1 rfl, rows_nil _ _⟩
theorem HeadAt.d {w : World} {n : Nat} (h : HeadAt w n) : TbOk w (tabD n) := ⟨rows_nil _ _, rows_one h.2.2.2.2.2.1 rfl, rows_nil _ _⟩

/-- The five tables. -/
def headT (n : Nat) : List Tb := [tabZ, tabA n, tabZ, tabB n, tabZ]

theorem head_clashes (n : Nat) : clashesL headH (headT n) 9 = [((2, 5), 3, 4, 1)] := by
  rfl

theorem headT_ok {w : World} {n : Nat} {cs : Array Value} {T : TypeId} (h : HeadAt w n) (hcs : cs = ((headT n).flatMap tbV).toArray) :
    TabsOk (w.alloc (.cells cs T)) (.slice (some ⟨w.heap.size, 0, none⟩) 5 5) (headT n) := by
  subst hcs
  have hB : Below w.heap.size w (w.alloc (.cells ((headT n).flatMap tbV).toArray T)) := (Below.refl _ _).alloc (Nat.le_refl _) _
  have h' := h.below hB
  have hb := Blk.new w ((headT n).flatMap tbV).toArray T
  refine ⟨⟨_, 5, rfl, by simp [headT], by unfold maxLen; omega, by simp [headT, tbV], fun _ => ⟨_, 0, rfl, fun i ds hi j x hj => ?_⟩⟩, ?_⟩
  · rw [hb.cell, Nat.zero_add]
    rcases i with _ | _ | _ | _ | _ | i
    · simp [headT] at hi; subst hi; rcases j with _ | _ | _ | j <;> simp [tbV] at hj <;> simp [headT, tbV, hj]
    · simp [headT] at hi; subst hi; rcases j with _ | _ | _ | j <;> simp [tbV] at hj <;> simp [headT, tbV, hj]
    · simp [headT] at hi; subst hi; rcases j with _ | _ | _ | j <;> simp [tbV] at hj <;> simp [headT, tbV, hj]
    · simp [headT] at hi; subst hi; rcases j with _ | _ | _ | j <;> simp [tbV] at hj <;> simp [headT, tbV, hj]
    · simp [headT] at hi; subst hi; rcases j with _ | _ | _ | j <;> simp [tbV] at hj <;> simp [headT, tbV, hj]
    · simp [headT] at hi
  · intro t ht
    simp only [headT, List.mem_cons, List.not_mem_nil, or_false] at ht
    rcases ht with rfl | rfl | rfl | rfl | rfl
    · exact tabZ_ok _
    · exact h'.a
    · exact tabZ_ok _
    · exact h'.b
    · exact tabZ_ok _

/-- What the tests of the example keep: the three tables' cells, and all that was laid. -/
abbrev HS (n : Nat) (A W : World) : Prop :=
  W.cell? ⟨n + 1 + 1, 0, none⟩ = some (.slice (some ⟨n + 1, 0, none⟩) 1 1) ∧ W.cell? ⟨n + 1 + 1, 1, none⟩ = some (.slice none 0 0) ∧ W.cell? ⟨n + 1 + 1, 2, none⟩ = some (.slice none 0 0) ∧
  W.cell? ⟨n + 1 + 1 + 1 + 1, 0, none⟩ = some (.slice none 0 0) ∧ W.cell? ⟨n + 1 + 1 + 1 + 1, 1, none⟩ = some (.slice (some ⟨n + 1 + 1 + 1, 0, none⟩) 1 1) ∧ W.cell? ⟨n + 1 + 1 + 1 + 1, 2, none⟩ = some (.slice none 0 0) ∧
  W.cell? ⟨n + 1 + 1 + 1 + 1 + 1 + 1, 0, none⟩ = some (.slice none 0 0) ∧ W.cell? ⟨n + 1 + 1 + 1 + 1 + 1 + 1, 1, none⟩ = some (.slice (some ⟨n + 1 + 1 + 1 + 1 + 1, 0, none⟩) 1 1) ∧ W.cell? ⟨n + 1 + 1 + 1 + 1 + 1 + 1, 2, none⟩ = some (.slice none 0 0) ∧
  HeadAt W n ∧ Below A.heap.size A W

theorem HS.of {n : Nat} {A W : World} (h : HeadAt W n) (hb : Below A.heap.size A W) : HS n A W :=
  ⟨(h.2.2.1.cell 0), (h.2.2.1.cell 1), (h.2.2.1.cell 2), (h.2.2.2.2.1.cell 0), (h.2.2.2.2.1.cell 1), (h.2.2.2.2.1.cell 2), (h.2.2.2.2.2.2.cell 0), (h.2.2.2.2.2.2.cell 1), (h.2.2.2.2.2.2.cell 2), h, hb⟩

theorem HS.on {n : Nat} {A W W' : World} (h : HS n A W) (hb : Below W.heap.size W W') : HS n A W' :=
  HS.of (h.2.2.2.2.2.2.2.2.2.1.below hb) (h.2.2.2.2.2.2.2.2.2.2.trans (hb.mono h.2.2.2.2.2.2.2.2.2.2.size))

theorem beacon_kept (src fr : Int) (t : Tb) {n : Nat} {A W : World} (h : HS n A W) :
    Calls Try.prog 24 #[.int .i64 src, .int .i64 fr, .agg #[.slice t.uA t.uL t.uC, .slice t.gA t.gL t.gC, .slice t.kA t.kL t.kC]] W fun e w' => e = .returned (.agg #[.int .i64 fr, .int .i64 src, .int .i64 0, .int .i64 0, .int .i64 0, .int .i64 0, .int .i64 0, .int .i64 0, .int .i64 0, .int .i64 0, .int .i64 0, .int .i64 0, .slice t.uA t.uL t.uC, .slice t.gA t.gL t.gC, .slice t.kA t.kL t.kC, .slice none 0 0, .bool false, .slice none 0 0, .slice none 0 0, .slice none 0 0, .int .i64 0, .int .i64 0, .int .u64 0, .int .i64 0, .int .i64 0, .int .i64 0, .int .i64 0, .int .i64 0, .slice none 0 0, .slice none 0 0, .bool false]) ∧ HS n A w' :=
  (beacon_any src fr t W).mono fun _ _ ⟨h1, h2⟩ => ⟨h1, h.on h2⟩

/-- A list of one neighbour. -/
theorem near_one {W : World} {src fr : Int} {nb : Tb} {T : TypeId} (h : TbOk W nb) : NearOk (W.alloc (.cells (nrV (beaconN src fr nb)).toArray T)) (.slice (some ⟨W.heap.size, 0, none⟩) 1 1) [beaconN src fr nb] := by
  have hB : Below W.heap.size W (W.alloc (.cells (nrV (beaconN src fr nb)).toArray T)) := (Below.refl _ _).alloc (Nat.le_refl _) _
  have h' := h.below hB (Nat.le_refl _)
  refine ⟨rows_one (Blk.new W _ T) rfl, fun x hx => ?_⟩
  simp only [List.mem_cons, List.not_mem_nil, or_false] at hx
  subst hx
  exact ⟨h'.1, h'.2.1⟩

theorem yield_head (t nb : Tb) (me src fr : Int) {n : Nat} {A W : World} {T : TypeId} (us : List Us) (gs : List Gr) (hu : t.us.filter (keepU 9 me [beaconN src fr nb]) = us) (hg : t.gs.filter (keepG 9 [beaconN src fr nb]) = gs) (hk : t.ks = [])
    (ht : TbOk W t) (hnb : TbOk W nb) (hl : t.uL ≤ 40 ∧ t.gL ≤ 40) (h : HS n A W) :
    Calls Try.prog 13 #[.agg #[.slice t.uA t.uL t.uC, .slice t.gA t.gL t.gC, .slice t.kA t.kL t.kC], .int .i64 me, .slice (some ⟨W.heap.size, 0, none⟩) 1 1, .int .i64 9] (W.alloc (.cells (nrV (beaconN src fr nb)).toArray T)) fun e w' =>
      ∃ t' : Tb, e = .returned (.agg #[.slice t'.uA t'.uL t'.uC, .slice t'.gA t'.gL t'.gC, .slice t'.kA t'.kL t'.kC]) ∧ (TbOk w' t' ∧ t'.us = us ∧ t'.gs = gs ∧ t'.ks = []) ∧ HS n A w' := by
  have hB : Below W.heap.size W (W.alloc (.cells (nrV (beaconN src fr nb)).toArray T)) := (Below.refl _ _).alloc (Nat.le_refl _) _
  refine (yield_any t me 9 (some ⟨W.heap.size, 0, none⟩) 1 1 [beaconN src fr nb] _ (by unfold maxLen; omega) rfl (ht.below hB (Nat.le_refl _)) (near_one hnb) (by omega) (by omega)).mono ?_
  rintro e w' ⟨t', h1, h2, h3, h4, h5, h6⟩
  exact ⟨t', h1, ⟨h2, h3.trans hu, h4.trans hg, h5.trans hk⟩, (h.on hB).on h6⟩

theorem same_kept (s t : Tb) {n : Nat} {A W : World} (hs : TbOk W s) (ht : TbOk W t) (h : HS n A W) (he : s.same t = true) :
    Calls Try.prog 18 #[.agg #[.slice s.uA s.uL s.uC, .slice s.gA s.gL s.gC, .slice s.kA s.kL s.kC], .agg #[.slice t.uA t.uL t.uC, .slice t.gA t.gL t.gC, .slice t.kA t.kL t.kC]] W fun e w' => e = .returned (.bool true) ∧ HS n A w' :=
  (same_any s t W hs ht).mono fun _ _ ⟨h1, h2⟩ => ⟨by rw [h1, he], h.on h2⟩

theorem same_of {s t : Tb} (h1 : s.us = t.us) (h2 : s.gs = t.gs) (h3 : s.ks = t.ks) : s.same t = true := by simp [Tb.same, h1, h2, h3]

/-- The five answers. -/
theorem head1 (n : Nat) : (tabA n).us.filter (keepU 9 1 [beaconN 3 9 (tabB n)]) = [] ∧ (tabA n).gs.filter (keepG 9 [beaconN 3 9 (tabB n)]) = [] := ⟨by rfl, by rfl⟩
theorem head2 (n : Nat) : (tabB n).us.filter (keepU 9 3 [beaconN 1 9 (tabA n)]) = [] ∧ (tabB n).gs.filter (keepG 9 [beaconN 1 9 (tabA n)]) = [((2, 5), 4, 6, 14)] := ⟨by rfl, by rfl⟩
theorem head3 (n : Nat) : (tabA n).us.filter (keepU 9 1 [beaconN 3 9 (tabD n)]) = [((2, 5), 0, 7)] ∧ (tabA n).gs.filter (keepG 9 [beaconN 3 9 (tabD n)]) = [] := ⟨by rfl, by rfl⟩
theorem head4 (n : Nat) : (tabD n).us.filter (keepU 9 3 [beaconN 1 9 (tabA n)]) = [] ∧ (tabD n).gs.filter (keepG 9 [beaconN 1 9 (tabA n)]) = [] := ⟨by rfl, by rfl⟩
theorem head5 (n : Nat) : (tabA n).us.filter (keepU 9 1 [beaconN 3 7 (tabB n)]) = [((2, 5), 0, 7)] ∧ (tabA n).gs.filter (keepG 9 [beaconN 3 7 (tabB n)]) = [] := ⟨by kernel_rfl, by rfl⟩

theorem HS.tabs {n : Nat} {A W : World} (h : HS n A W) : HeadAt W n := h.2.2.2.2.2.2.2.2.2.1

theorem beacon1 {n : Nat} {A W : World} (h : HS n A W) :
    Calls Try.prog 24 #[.int .i64 3, .int .i64 9, .agg #[.slice none 0 0, .slice (some ⟨n + 1 + 1 + 1, 0, none⟩) 1 1, .slice none 0 0]] W fun e w' => e = .returned (.agg #[.int .i64 9, .int .i64 3, .int .i64 0, .int .i64 0, .int .i64 0, .int .i64 0, .int .i64 0, .int .i64 0, .int .i64 0, .int .i64 0, .int .i64 0, .int .i64 0, .slice none 0 0, .slice (some ⟨n + 1 + 1 + 1, 0, none⟩) 1 1, .slice none 0 0, .slice none 0 0, .bool false, .slice none 0 0, .slice none 0 0, .slice none 0 0, .int .i64 0, .int .i64 0, .int .u64 0, .int .i64 0, .int .i64 0, .int .i64 0, .int .i64 0, .int .i64 0, .slice none 0 0, .slice none 0 0, .bool false]) ∧ HS n A w' :=
  beacon_kept 3 9 (tabB n) h

theorem yield1 {n : Nat} {A W : World} (h : HS n A W) :
    Calls Try.prog 13 #[.agg #[.slice (some ⟨n + 1, 0, none⟩) 1 1, .slice none 0 0, .slice none 0 0], .int .i64 1, .slice (some ⟨W.heap.size, 0, none⟩) 1 1, .int .i64 9] (W.alloc (.cells #[.int .i64 9, .int .i64 3, .int .i64 0, .int .i64 0, .int .i64 0, .int .i64 0, .int .i64 0, .int .i64 0, .int .i64 0, .int .i64 0, .int .i64 0, .int .i64 0, .slice none 0 0, .slice (some ⟨n + 1 + 1 + 1, 0, none⟩) 1 1, .slice none 0 0, .slice none 0 0, .bool false, .slice none 0 0, .slice none 0 0, .slice none 0 0, .int .i64 0, .int .i64 0, .int .u64 0, .int .i64 0, .int .i64 0, .int .i64 0, .int .i64 0, .int .i64 0, .slice none 0 0, .slice none 0 0, .bool false] 71)) fun e w' =>
      ∃ t' : Tb, e = .returned (.agg #[.slice t'.uA t'.uL t'.uC, .slice t'.gA t'.gL t'.gC, .slice t'.kA t'.kL t'.kC]) ∧ (TbOk w' t' ∧ t'.us = [] ∧ t'.gs = [] ∧ t'.ks = []) ∧ HS n A w' :=
  yield_head (tabA n) (tabB n) 1 3 9 [] [] (head1 n).1 (head1 n).2 rfl h.tabs.a h.tabs.b (by simp [tabA, tabZ]) h

theorem beacon2 {n : Nat} {A W : World} (h : HS n A W) :
    Calls Try.prog 24 #[.int .i64 1, .int .i64 9, .agg #[.slice (some ⟨n + 1, 0, none⟩) 1 1, .slice none 0 0, .slice none 0 0]] W fun e w' => e = .returned (.agg #[.int .i64 9, .int .i64 1, .int .i64 0, .int .i64 0, .int .i64 0, .int .i64 0, .int .i64 0, .int .i64 0, .int .i64 0, .int .i64 0, .int .i64 0, .int .i64 0, .slice (some ⟨n + 1, 0, none⟩) 1 1, .slice none 0 0, .slice none 0 0, .slice none 0 0, .bool false, .slice none 0 0, .slice none 0 0, .slice none 0 0, .int .i64 0, .int .i64 0, .int .u64 0, .int .i64 0, .int .i64 0, .int .i64 0, .int .i64 0, .int .i64 0, .slice none 0 0, .slice none 0 0, .bool false]) ∧ HS n A w' :=
  beacon_kept 1 9 (tabA n) h

theorem yield2 {n : Nat} {A W : World} (h : HS n A W) :
    Calls Try.prog 13 #[.agg #[.slice none 0 0, .slice (some ⟨n + 1 + 1 + 1, 0, none⟩) 1 1, .slice none 0 0], .int .i64 3, .slice (some ⟨W.heap.size, 0, none⟩) 1 1, .int .i64 9] (W.alloc (.cells #[.int .i64 9, .int .i64 1, .int .i64 0, .int .i64 0, .int .i64 0, .int .i64 0, .int .i64 0, .int .i64 0, .int .i64 0, .int .i64 0, .int .i64 0, .int .i64 0, .slice (some ⟨n + 1, 0, none⟩) 1 1, .slice none 0 0, .slice none 0 0, .slice none 0 0, .bool false, .slice none 0 0, .slice none 0 0, .slice none 0 0, .int .i64 0, .int .i64 0, .int .u64 0, .int .i64 0, .int .i64 0, .int .i64 0, .int .i64 0, .int .i64 0, .slice none 0 0, .slice none 0 0, .bool false] 71)) fun e w' =>
      ∃ t' : Tb, e = .returned (.agg #[.slice t'.uA t'.uL t'.uC, .slice t'.gA t'.gL t'.gC, .slice t'.kA t'.kL t'.kC]) ∧ (TbOk w' t' ∧ t'.us = [] ∧ t'.gs = [((2, 5), 4, 6, 14)] ∧ t'.ks = []) ∧ HS n A w' :=
  yield_head (tabB n) (tabA n) 3 1 9 [] [((2, 5), 4, 6, 14)] (head2 n).1 (head2 n).2 rfl h.tabs.b h.tabs.a (by simp [tabB, tabZ]) h

theorem beacon3 {n : Nat} {A W : World} (h : HS n A W) :
    Calls Try.prog 24 #[.int .i64 3, .int .i64 9, .agg #[.slice none 0 0, .slice (some ⟨n + 1 + 1 + 1 + 1 + 1, 0, none⟩) 1 1, .slice none 0 0]] W fun e w' => e = .returned (.agg #[.int .i64 9, .int .i64 3, .int .i64 0, .int .i64 0, .int .i64 0, .int .i64 0, .int .i64 0, .int .i64 0, .int .i64 0, .int .i64 0, .int .i64 0, .int .i64 0, .slice none 0 0, .slice (some ⟨n + 1 + 1 + 1 + 1 + 1, 0, none⟩) 1 1, .slice none 0 0, .slice none 0 0, .bool false, .slice none 0 0, .slice none 0 0, .slice none 0 0, .int .i64 0, .int .i64 0, .int .u64 0, .int .i64 0, .int .i64 0, .int .i64 0, .int .i64 0, .int .i64 0, .slice none 0 0, .slice none 0 0, .bool false]) ∧ HS n A w' :=
  beacon_kept 3 9 (tabD n) h

theorem yield3 {n : Nat} {A W : World} (h : HS n A W) :
    Calls Try.prog 13 #[.agg #[.slice (some ⟨n + 1, 0, none⟩) 1 1, .slice none 0 0, .slice none 0 0], .int .i64 1, .slice (some ⟨W.heap.size, 0, none⟩) 1 1, .int .i64 9] (W.alloc (.cells #[.int .i64 9, .int .i64 3, .int .i64 0, .int .i64 0, .int .i64 0, .int .i64 0, .int .i64 0, .int .i64 0, .int .i64 0, .int .i64 0, .int .i64 0, .int .i64 0, .slice none 0 0, .slice (some ⟨n + 1 + 1 + 1 + 1 + 1, 0, none⟩) 1 1, .slice none 0 0, .slice none 0 0, .bool false, .slice none 0 0, .slice none 0 0, .slice none 0 0, .int .i64 0, .int .i64 0, .int .u64 0, .int .i64 0, .int .i64 0, .int .i64 0, .int .i64 0, .int .i64 0, .slice none 0 0, .slice none 0 0, .bool false] 71)) fun e w' =>
      ∃ t' : Tb, e = .returned (.agg #[.slice t'.uA t'.uL t'.uC, .slice t'.gA t'.gL t'.gC, .slice t'.kA t'.kL t'.kC]) ∧ (TbOk w' t' ∧ t'.us = [((2, 5), 0, 7)] ∧ t'.gs = [] ∧ t'.ks = []) ∧ HS n A w' :=
  yield_head (tabA n) (tabD n) 1 3 9 [((2, 5), 0, 7)] [] (head3 n).1 (head3 n).2 rfl h.tabs.a h.tabs.d (by simp [tabA, tabZ]) h

theorem beacon4 {n : Nat} {A W : World} (h : HS n A W) :
    Calls Try.prog 24 #[.int .i64 1, .int .i64 9, .agg #[.slice (some ⟨n + 1, 0, none⟩) 1 1, .slice none 0 0, .slice none 0 0]] W fun e w' => e = .returned (.agg #[.int .i64 9, .int .i64 1, .int .i64 0, .int .i64 0, .int .i64 0, .int .i64 0, .int .i64 0, .int .i64 0, .int .i64 0, .int .i64 0, .int .i64 0, .int .i64 0, .slice (some ⟨n + 1, 0, none⟩) 1 1, .slice none 0 0, .slice none 0 0, .slice none 0 0, .bool false, .slice none 0 0, .slice none 0 0, .slice none 0 0, .int .i64 0, .int .i64 0, .int .u64 0, .int .i64 0, .int .i64 0, .int .i64 0, .int .i64 0, .int .i64 0, .slice none 0 0, .slice none 0 0, .bool false]) ∧ HS n A w' :=
  beacon_kept 1 9 (tabA n) h

theorem yield4 {n : Nat} {A W : World} (h : HS n A W) :
    Calls Try.prog 13 #[.agg #[.slice none 0 0, .slice (some ⟨n + 1 + 1 + 1 + 1 + 1, 0, none⟩) 1 1, .slice none 0 0], .int .i64 3, .slice (some ⟨W.heap.size, 0, none⟩) 1 1, .int .i64 9] (W.alloc (.cells #[.int .i64 9, .int .i64 1, .int .i64 0, .int .i64 0, .int .i64 0, .int .i64 0, .int .i64 0, .int .i64 0, .int .i64 0, .int .i64 0, .int .i64 0, .int .i64 0, .slice (some ⟨n + 1, 0, none⟩) 1 1, .slice none 0 0, .slice none 0 0, .slice none 0 0, .bool false, .slice none 0 0, .slice none 0 0, .slice none 0 0, .int .i64 0, .int .i64 0, .int .u64 0, .int .i64 0, .int .i64 0, .int .i64 0, .int .i64 0, .int .i64 0, .slice none 0 0, .slice none 0 0, .bool false] 71)) fun e w' =>
      ∃ t' : Tb, e = .returned (.agg #[.slice t'.uA t'.uL t'.uC, .slice t'.gA t'.gL t'.gC, .slice t'.kA t'.kL t'.kC]) ∧ (TbOk w' t' ∧ t'.us = [] ∧ t'.gs = [] ∧ t'.ks = []) ∧ HS n A w' :=
  yield_head (tabD n) (tabA n) 3 1 9 [] [] (head4 n).1 (head4 n).2 rfl h.tabs.d h.tabs.a (by simp [tabD, tabZ]) h

theorem beacon5 {n : Nat} {A W : World} (h : HS n A W) :
    Calls Try.prog 24 #[.int .i64 3, .int .i64 7, .agg #[.slice none 0 0, .slice (some ⟨n + 1 + 1 + 1, 0, none⟩) 1 1, .slice none 0 0]] W fun e w' => e = .returned (.agg #[.int .i64 7, .int .i64 3, .int .i64 0, .int .i64 0, .int .i64 0, .int .i64 0, .int .i64 0, .int .i64 0, .int .i64 0, .int .i64 0, .int .i64 0, .int .i64 0, .slice none 0 0, .slice (some ⟨n + 1 + 1 + 1, 0, none⟩) 1 1, .slice none 0 0, .slice none 0 0, .bool false, .slice none 0 0, .slice none 0 0, .slice none 0 0, .int .i64 0, .int .i64 0, .int .u64 0, .int .i64 0, .int .i64 0, .int .i64 0, .int .i64 0, .int .i64 0, .slice none 0 0, .slice none 0 0, .bool false]) ∧ HS n A w' :=
  beacon_kept 3 7 (tabB n) h

theorem yield5 {n : Nat} {A W : World} (h : HS n A W) :
    Calls Try.prog 13 #[.agg #[.slice (some ⟨n + 1, 0, none⟩) 1 1, .slice none 0 0, .slice none 0 0], .int .i64 1, .slice (some ⟨W.heap.size, 0, none⟩) 1 1, .int .i64 9] (W.alloc (.cells #[.int .i64 7, .int .i64 3, .int .i64 0, .int .i64 0, .int .i64 0, .int .i64 0, .int .i64 0, .int .i64 0, .int .i64 0, .int .i64 0, .int .i64 0, .int .i64 0, .slice none 0 0, .slice (some ⟨n + 1 + 1 + 1, 0, none⟩) 1 1, .slice none 0 0, .slice none 0 0, .bool false, .slice none 0 0, .slice none 0 0, .slice none 0 0, .int .i64 0, .int .i64 0, .int .u64 0, .int .i64 0, .int .i64 0, .int .i64 0, .int .i64 0, .int .i64 0, .slice none 0 0, .slice none 0 0, .bool false] 71)) fun e w' =>
      ∃ t' : Tb, e = .returned (.agg #[.slice t'.uA t'.uL t'.uC, .slice t'.gA t'.gL t'.gC, .slice t'.kA t'.kL t'.kC]) ∧ (TbOk w' t' ∧ t'.us = [((2, 5), 0, 7)] ∧ t'.gs = [] ∧ t'.ks = []) ∧ HS n A w' :=
  yield_head (tabA n) (tabB n) 1 3 7 [((2, 5), 0, 7)] [] (head5 n).1 (head5 n).2 rfl h.tabs.a h.tabs.b (by simp [tabA, tabZ]) h

theorem sameZ (s : Tb) {n : Nat} {A W : World} (hs : TbOk W s ∧ s.us = (tabZ).us ∧ s.gs = (tabZ).gs ∧ s.ks = []) (h : HS n A W) :
    Calls Try.prog 18 #[.agg #[.slice s.uA s.uL s.uC, .slice s.gA s.gL s.gC, .slice s.kA s.kL s.kC], .agg #[.slice none 0 0, .slice none 0 0, .slice none 0 0]] W fun e w' => e = .returned (.bool true) ∧ HS n A w' :=
  same_kept s tabZ hs.1 (tabZ_ok _) h (same_of hs.2.1 hs.2.2.1 hs.2.2.2)

theorem sameA (s : Tb) {n : Nat} {A W : World} (hs : TbOk W s ∧ s.us = ((tabA n)).us ∧ s.gs = ((tabA n)).gs ∧ s.ks = []) (h : HS n A W) :
    Calls Try.prog 18 #[.agg #[.slice s.uA s.uL s.uC, .slice s.gA s.gL s.gC, .slice s.kA s.kL s.kC], .agg #[.slice (some ⟨n + 1, 0, none⟩) 1 1, .slice none 0 0, .slice none 0 0]] W fun e w' => e = .returned (.bool true) ∧ HS n A w' :=
  same_kept s (tabA n) hs.1 (h.tabs.a) h (same_of hs.2.1 hs.2.2.1 hs.2.2.2)

theorem sameB (s : Tb) {n : Nat} {A W : World} (hs : TbOk W s ∧ s.us = ((tabB n)).us ∧ s.gs = ((tabB n)).gs ∧ s.ks = []) (h : HS n A W) :
    Calls Try.prog 18 #[.agg #[.slice s.uA s.uL s.uC, .slice s.gA s.gL s.gC, .slice s.kA s.kL s.kC], .agg #[.slice none 0 0, .slice (some ⟨n + 1 + 1 + 1, 0, none⟩) 1 1, .slice none 0 0]] W fun e w' => e = .returned (.bool true) ∧ HS n A w' :=
  same_kept s (tabB n) hs.1 (h.tabs.b) h (same_of hs.2.1 hs.2.2.1 hs.2.2.2)

theorem sameD (s : Tb) {n : Nat} {A W : World} (hs : TbOk W s ∧ s.us = ((tabD n)).us ∧ s.gs = ((tabD n)).gs ∧ s.ks = []) (h : HS n A W) :
    Calls Try.prog 18 #[.agg #[.slice s.uA s.uL s.uC, .slice s.gA s.gL s.gC, .slice s.kA s.kL s.kC], .agg #[.slice none 0 0, .slice (some ⟨n + 1 + 1 + 1 + 1 + 1, 0, none⟩) 1 1, .slice none 0 0]] W fun e w' => e = .returned (.bool true) ∧ HS n A w' :=
  same_kept s (tabD n) hs.1 (h.tabs.d) h (same_of hs.2.1 hs.2.2.1 hs.2.2.2)

end Go.Proofs.Ytadiocpcpjbjpaa

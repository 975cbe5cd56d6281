import Derived.Test.YtadiocpcpjbjpaaL
namespace Go.Proofs.Ytadiocpcpjbjpaa
open Go.RowKit
attribute [local go_sem] Oper.semAt_some

/-- A beacon, as it lies in thirty cells; 'us' and 'gs' are what its uses and grants read as. -/
structure Bc where
  src : Int
  asn : Int
  boot : Int
  hops : Int
  bound : Int
  fresh : Int
  r0 : Int
  r1 : Int
  parent : Int
  g0 : Int
  g1 : Int
  usesA : Option Addr
  usesL : Nat
  usesC : Nat
  grantsA : Option Addr
  grantsL : Nat
  grantsC : Nat
  asksA : Option Addr
  asksL : Nat
  asksC : Nat
  belowA : Option Addr
  belowL : Nat
  belowC : Nat
  full : Bool
  wordsA : Option Addr
  wordsL : Nat
  wordsC : Nat
  mailA : Option Addr
  mailL : Nat
  mailC : Nat
  gotA : Option Addr
  gotL : Nat
  gotC : Nat
  n0 : Int
  n1 : Int
  n2 : Int
  n3 : Int
  pages : Int
  version : Int
  b0 : Int
  b1 : Int
  b2A : Option Addr
  b2L : Nat
  b2C : Nat
  b3A : Option Addr
  b3L : Nat
  b3C : Nat
  has : Bool
  us : List Us
  gs : List Gr

/-- A neighbour: the frame and the beacon. -/
structure Nr where
  frame : Int
  told : Bc

def bcV (b : Bc) : List Value := [.int .i64 b.src, .int .i64 b.asn, .int .i64 b.boot, .int .i64 b.hops, .int .i64 b.bound, .int .i64 b.fresh, .int .i64 b.r0, .int .i64 b.r1, .int .i64 b.parent, .int .i64 b.g0, .int .i64 b.g1, .slice b.usesA b.usesL b.usesC, .slice b.grantsA b.grantsL b.grantsC, .slice b.asksA b.asksL b.asksC, .slice b.belowA b.belowL b.belowC, .bool b.full, .slice b.wordsA b.wordsL b.wordsC, .slice b.mailA b.mailL b.mailC, .slice b.gotA b.gotL b.gotC, .int .i64 b.n0, .int .i64 b.n1, .int .u64 b.n2, .int .i64 b.n3, .int .i64 b.pages, .int .i64 b.version, .int .i64 b.b0, .int .i64 b.b1, .slice b.b2A b.b2L b.b2C, .slice b.b3A b.b3L b.b3C, .bool b.has]
def nrV (n : Nr) : List Value := .int .i64 n.frame :: bcV n.told

/-- The beacon's slices lie in memory. -/
def BcOk (w : World) (b : Bc) : Prop := Rows 4 w (.slice b.usesA b.usesL b.usesC) (b.us.map usV) ∧ Rows 5 w (.slice b.grantsA b.grantsL b.grantsC) (b.gs.map grV)

theorem BcOk.below {n : Nat} {w w' : World} {b : Bc} (h : BcOk w b) (hb : Below n w w') (hn : w.heap.size ≤ n) : BcOk w' b := ⟨h.1.below hb hn, h.2.below hb hn⟩

/-- The neighbours lie in memory. -/
def NearOk (w : World) (v : Value) (l : List Nr) : Prop := Rows 31 w v (l.map nrV) ∧ ∀ n ∈ l, BcOk w n.told

theorem NearOk.below {n : Nat} {w w' : World} {v : Value} {l : List Nr} (h : NearOk w v l) (hb : Below n w w') (hn : w.heap.size ≤ n) : NearOk w' v l := ⟨h.1.below hb hn, fun x hx => (h.2 x hx).below hb hn⟩

/-- A neighbour in a slice: where it lies, and its cells. -/
theorem nr_at {w : World} {a : Option Addr} {n cap : Nat} {l : List Nr} (h : Rows 31 w (.slice a n cap) (l.map nrV)) {i : Nat} {u : Nr} (hi : l[i]? = some u) :
    ∃ b off, (∀ W, (Instr.indexAt 27 (.slice a n cap) (.int .i64 (i : Int))).run Try.prog W = .ok (.pointer (some ⟨b, off + i * 31, none⟩)) W) ∧
      w.rangeAt b (off + i * 31) (nrV u) := by
  obtain ⟨b, off, h1, h2⟩ := h.at (T := 27) (e := 71) Try.underlying27 rfl sz71 (i := i) (cs := nrV u) (by simp [hi])
  exact ⟨b, off, h1, h2⟩

theorem nrV_len (n : Nr) : (nrV n).length = 31 := rfl
theorem bcV_len (b : Bc) : (bcV b).length = 30 := rfl
theorem nrV_one (n : Nr) : ∀ c ∈ nrV n, c.oneCell' = true := by
  intro c hc
  simp only [nrV, bcV, List.mem_cons, List.not_mem_nil, or_false] at hc
  rcases hc with rfl | rfl | rfl | rfl | rfl | rfl | rfl | rfl | rfl | rfl | rfl | rfl | rfl | rfl | rfl | rfl | rfl | rfl | rfl | rfl | rfl | rfl | rfl | rfl | rfl | rfl | rfl | rfl | rfl | rfl | rfl <;> rfl
theorem bcV_one (b : Bc) : ∀ c ∈ bcV b, c.oneCell' = true := by
  intro c hc
  simp only [bcV, List.mem_cons, List.not_mem_nil, or_false] at hc
  rcases hc with rfl | rfl | rfl | rfl | rfl | rfl | rfl | rfl | rfl | rfl | rfl | rfl | rfl | rfl | rfl | rfl | rfl | rfl | rfl | rfl | rfl | rfl | rfl | rfl | rfl | rfl | rfl | rfl | rfl | rfl <;> rfl
theorem info71 (x : Nr) : (Try.prog.info? 71).map (·.size) = some (nrV x).length := by rw [nrV_len]; kernel_rfl
theorem info69 (x : Bc) : (Try.prog.info? 69).map (·.size) = some (bcV x).length := by rw [bcV_len]; kernel_rfl

/-- A neighbour in a block of its own: the frame, and the beacon behind it. -/
theorem nr_new (W : World) (u : Nr) : (W.alloc (.cells (nrV u).toArray 71)).cell? ⟨W.heap.size, 0, none⟩ = some (.int .i64 u.frame) ∧ (W.alloc (.cells (nrV u).toArray 71)).rangeAt W.heap.size 1 (bcV u.told) :=
  ⟨rangeAt_new W (nrV u) 71 0 [.int .i64 u.frame] (fun j v h => by
      cases j with
      | zero => simpa [nrV] using h
      | succ j => simp at h) 0 _ rfl,
   rangeAt_new W (nrV u) 71 1 (bcV u.told) (fun j v h => by rw [Nat.add_comm]; exact h)⟩

/-- Heard in the frame or in the one before (as Go reckons it). -/
def lateB (fr : Int) (n : Nr) : Bool := n.frame == fr || n.frame == wrap64 (fr - 1)
def latelyL (fr : Int) (l : List Nr) : List Bc := (l.filter (lateB fr)).map (·.told)

theorem latelyL_snoc (fr : Int) (l : List Nr) (n : Nr) : latelyL fr (l ++ [n]) = latelyL fr l ++ (if lateB fr n then [n.told] else []) := by
  unfold latelyL
  rw [List.filter_append, List.map_append]
  by_cases h : lateB fr n <;> simp [h]

theorem latelyL_take {fr : Int} {l : List Nr} {k : Nat} {x : Nr} (hx : l[k]? = some x) : latelyL fr (l.take (k + 1)) = latelyL fr (l.take k) ++ (if lateB fr x then [x.told] else []) := by
  rw [List.take_add_one, hx, Option.toList_some, latelyL_snoc]

theorem mem_lately {fr : Int} {l : List Nr} {k : Nat} {x : Nr} (hx : l[k]? = some x) (h : lateB fr x = true) : x.told ∈ latelyL fr l := by
  unfold latelyL
  exact List.mem_map.2 ⟨x, List.mem_filter.2 ⟨List.mem_of_getElem? hx, h⟩, rfl⟩

theorem lately_step {fr : Int} {l : List Nr} {k : Nat} {x : Nr} (hx : l[k]? = some x) (stop : Bc → Bool) (h : (latelyL fr (l.take k)).any stop = false) (hl : lateB fr x = true) (hs : stop x.told = false) :
    (latelyL fr (l.take (k + 1))).any stop = false := by
  rw [latelyL_take hx, hl, List.any_append, h]
  simp [hs]

theorem lately_skip {fr : Int} {l : List Nr} {k : Nat} {x : Nr} (hx : l[k]? = some x) (stop : Bc → Bool) (h : (latelyL fr (l.take k)).any stop = false) (hl : lateB fr x = false) :
    (latelyL fr (l.take (k + 1))).any stop = false := by
  rw [latelyL_take hx, hl, List.any_append, h]
  simp

theorem lately_stop {fr : Int} {l : List Nr} {k : Nat} {x : Nr} (hx : l[k]? = some x) (stop : Bc → Bool) (hl : lateB fr x = true) (hs : stop x.told = true) : (latelyL fr l).any stop = true :=
  List.any_eq_true.2 ⟨_, mem_lately hx hl, hs⟩

theorem lately_in (l : Nat) (stop : Bc → Bool) (Jx : World → Prop) (w0 W : World) (Bn Bf : Nat) (a : Option Addr) (n cap : Nat) (near : List Nr) (fr : Int) (hn : n = near.length) (hm : n ≤ maxLen)
    (hcn : w0.cell? ⟨Bn, 0, none⟩ = some (.slice a n cap)) (hcf : w0.cell? ⟨Bf, 0, none⟩ = some (.int .i64 fr)) (hrows : Rows 31 w0 (.slice a n cap) (near.map nrV))
    (hW : Below w0.heap.size w0 W) (hJx : ∀ A A', Jx A → Below W.heap.size A A' → Jx A')
    (hY : ∀ x W1, x ∈ latelyL fr near → Below W.heap.size W W1 → YieldAt Fence.wide 0 Try.prog l #[.agg (bcV x).toArray] W1 fun e W' =>
      (stop x = false ∧ e = .returned (.bool true) ∧ Below W1.heap.size W1 W') ∨ (stop x = true ∧ e = .returned (.bool false) ∧ Above W.heap.size W1 W' ∧ Jx W')) :
    Calls Try.prog 35 #[.func (.yield l) #[] #[], .pointer (some ⟨Bn, 0, none⟩), .pointer (some ⟨Bf, 0, none⟩)] W fun e W' => (∃ v, e = .returned v) ∧
      (((latelyL fr near).any stop = false ∧ Below W.heap.size W W') ∨ ((latelyL fr near).any stop = true ∧ Jx W')) := by
  have hBn := cell_block hcn
  have hBf := cell_block hcf
  have hcn1 : W.cell? ⟨Bn, 0, none⟩ = some (.slice a n cap) := (hW.cell (p := ⟨Bn, 0, none⟩) hBn).trans hcn
  have hcf1 : W.cell? ⟨Bf, 0, none⟩ = some (.int .i64 fr) := (hW.cell (p := ⟨Bf, 0, none⟩) hBf).trans hcf
  have hrows1 := hrows.below hW (Nat.le_refl _)
  have hBn1 := cell_block hcn1
  have hBf1 := cell_block hcf1
  have HN := Lib.hid hn
  have HY := Lib.hid hY
  have HJ := Lib.hid hJx
  clear hn hY hJx hcn hcf hrows hBn hBf hW
  unfold maxLen at hm
  refine (callsIn_wide (n := 0)).1 ?_
  refine callsIn_of_wp Try.func35 rfl trivial ?_ rfl
  simp only [Try.ntmps35, List.size_toArray, List.length_cons, List.length_nil, Nat.reduceAdd, Nat.reduceSub, Array.replicate_succ, Array.replicate_zero, List.push_toArray, List.append_toArray, List.nil_append, List.cons_append]
  gi_wp2_with fail
  gi_loopw [8] (fun i wr => ∃ k : Nat, i = .int .i64 k ∧ k ≤ n ∧ (latelyL fr (near.take k)).any stop = false ∧ Below W.heap.size W wr) (fun i _ => n - (intOf i).toNat)
  case atStart => exact ⟨0, rfl, by omega, by simp [latelyL], Below.refl _ _⟩
  case round =>
    obtain ⟨k, rfl, hk, hx, hb⟩ := hrel
    obtain ⟨hc, hf⟩ := bcell hb
    by_cases hlt : k < n
    · obtain ⟨x, hxk⟩ : ∃ x, near[k]? = some x := ⟨near[k]'(by rw [← HN.out]; exact hlt), List.getElem?_eq_getElem _⟩
      obtain ⟨b, off, hix, hrg⟩ := nr_at (hrows1.below hb (Nat.le_refl _)) hxk
      obtain ⟨q0, q1⟩ := nr_new wr x
      have Q1 := Lib.hid q1
      have HR := Lib.hid hrg
      clear q1 hrg
      have hz1 : Bn < wr.heap.size := by have := hb.size; omega
      have hz2 : Bf < wr.heap.size := by have := hb.size; omega
      by_cases h1 : x.frame = fr
      · have h1' : (x.frame == fr) = true := by simp [h1]
        have hlate : lateB fr x = true := by simp [lateB, h1]
        obtain ⟨fn, tmps, assign, body, hy, hR⟩ := HY.out x.told (wr.alloc (.cells (nrV x).toArray 71)) (mem_lately hxk hlate) (hb.alloc hb.size _)
        have HS := Lib.hid (lately_step hxk stop hx hlate)
        have HS' := Lib.hid (lately_stop hxk stop hlate)
        clear hx hxk hlate h1
        gi_wp2_with (first
          | ((with_reducible refine wpListIn_load_row ?_ 71 (.tmp 10) ?_ b (off + k * 31) ?_ (nrV x) _ HR.out Try.underlying71 ?_ (info71 x) ?_); rfl; rfl; rfl; rfl)
          | ((with_reducible refine wpListIn_store_new ?_ 71 (.tmp 5) (.tmp 11) ?_ wr 71 (nrV x) ?_ ?_ ?_ (nrV_one x) (info71 x) ?_); rfl; rfl; exact ⟨_, rfl, rfl⟩; rfl; rfl)
          | ((with_reducible refine wpListIn_load_row ?_ 69 (.tmp 25) ?_ wr.heap.size 1 ?_ (bcV x.told) _ Q1.out Try.underlying69 ?_ (info69 x.told) ?_); rfl; rfl; rfl; rfl))
        refine ⟨rfl, hR.mono ?_⟩
        rintro e W2 (⟨hst, rfl, hb2⟩ | ⟨hst, rfl, ha2, hj⟩)
        · have HS2 := Lib.hid (HS.out hst)
          have HB2 := Lib.hid ((hb.alloc hb.size (.cells (nrV x).toArray 71)).trans (hb2.mono (by simp; have := hb.size; omega)))
          clear hst hb2
          gi_wp2_with fail
          go_roundw
          case rel => exact ⟨k + 1, rfl, by omega, HS2.out, HB2.out⟩
          case measure => simp [intOf]; omega
        · have HS2 := Lib.hid (HS'.out hst)
          clear hst ha2
          gi_wp2_with fail
          refine bodyPost_ret (results_none rfl _ _ _) rfl ?_
          exact ⟨⟨_, rfl⟩, .inr ⟨HS2.out, hj⟩⟩
      · have h1' : (x.frame == fr) = false := by simp [h1]
        by_cases h2 : x.frame = wrap64 (fr - 1)
        · have h2' : (x.frame == wrap64 (fr - 1)) = true := by rw [beq_iff_eq]; exact h2
          have hlate : lateB fr x = true := by simp [lateB, h2]
          obtain ⟨fn, tmps, assign, body, hy, hR⟩ := HY.out x.told (wr.alloc (.cells (nrV x).toArray 71)) (mem_lately hxk hlate) (hb.alloc hb.size _)
          have HS := Lib.hid (lately_step hxk stop hx hlate)
          have HS' := Lib.hid (lately_stop hxk stop hlate)
          clear hx hxk hlate h1 h2
          gi_wp2_with (first
              | ((with_reducible refine wpListIn_load_row ?_ 71 (.tmp 10) ?_ b (off + k * 31) ?_ (nrV x) _ HR.out Try.underlying71 ?_ (info71 x) ?_); rfl; rfl; rfl; rfl)
              | ((with_reducible refine wpListIn_store_new ?_ 71 (.tmp 5) (.tmp 11) ?_ wr 71 (nrV x) ?_ ?_ ?_ (nrV_one x) (info71 x) ?_); rfl; rfl; exact ⟨_, rfl, rfl⟩; rfl; rfl)
              | ((with_reducible refine wpListIn_load_row ?_ 69 (.tmp 25) ?_ wr.heap.size 1 ?_ (bcV x.told) _ Q1.out Try.underlying69 ?_ (info69 x.told) ?_); rfl; rfl; rfl; rfl))
          refine ⟨rfl, hR.mono ?_⟩
          rintro e W2 (⟨hst, rfl, hb2⟩ | ⟨hst, rfl, ha2, hj⟩)
          · have HS2 := Lib.hid (HS.out hst)
            have HB2 := Lib.hid ((hb.alloc hb.size (.cells (nrV x).toArray 71)).trans (hb2.mono (by simp; have := hb.size; omega)))
            clear hst hb2
            gi_wp2_with fail
            go_roundw
            case rel => exact ⟨k + 1, rfl, by omega, HS2.out, HB2.out⟩
            case measure => simp [intOf]; omega
          · have HS2 := Lib.hid (HS'.out hst)
            clear hst ha2
            gi_wp2_with fail
            refine bodyPost_ret (results_none rfl _ _ _) rfl ?_
            exact ⟨⟨_, rfl⟩, .inr ⟨HS2.out, hj⟩⟩
        · have h2' : (x.frame == wrap64 (fr - 1)) = false := by rw [beq_eq_false_iff_ne]; exact h2
          have hlate : lateB fr x = false := by simp [lateB, h1, h2]
          have HS := Lib.hid (lately_skip hxk stop hx hlate)
          clear hx hxk hlate h1 h2
          gi_wp2_with (first
              | ((with_reducible refine wpListIn_load_row ?_ 71 (.tmp 10) ?_ b (off + k * 31) ?_ (nrV x) _ HR.out Try.underlying71 ?_ (info71 x) ?_); rfl; rfl; rfl; rfl)
              | ((with_reducible refine wpListIn_store_new ?_ 71 (.tmp 5) (.tmp 11) ?_ wr 71 (nrV x) ?_ ?_ ?_ (nrV_one x) (info71 x) ?_); rfl; rfl; exact ⟨_, rfl, rfl⟩; rfl; rfl)
              | ((with_reducible refine wpListIn_load_row ?_ 69 (.tmp 25) ?_ wr.heap.size 1 ?_ (bcV x.told) _ Q1.out Try.underlying69 ?_ (info69 x.told) ?_); rfl; rfl; rfl; rfl))
          refine ⟨fun _ h => (by cases h), ?_⟩
          gi_wp2_with fail
          go_roundw
          case rel => exact ⟨k + 1, rfl, by omega, HS.out, hb.alloc hb.size _⟩
          case measure => simp [intOf]; omega
    · have HX : Hid ((latelyL fr near).any stop = false) := by
        rw [List.take_of_length_le (by have := HN.out; omega)] at hx
        exact hx
      clear hx
      gi_wp2_with fail
      go_end0
      exact ⟨⟨_, rfl⟩, .inl ⟨HX.out, hb⟩⟩

end Go.Proofs.Ytadiocpcpjbjpaa

import Derived.Test.YtadiocpcpjbjpaaYb
namespace Go.Proofs.Ytadiocpcpjbjpaa
open Go.RowKit

theorem any_sub {α : Type} {p : α → Bool} {l l' : List α} (h : ∀ x ∈ l', x ∈ l) (h0 : l.any p = false) : l'.any p = false := by
  rw [List.any_eq_false] at h0 ⊢
  exact fun x hx => h0 x (h x hx)
theorem fewer_sub (near : List Nr) (k : Nat) : ∀ x ∈ fewerL near k, x ∈ near := fun x hx => by
  rcases List.mem_append.1 hx with h | h
  · exact List.mem_of_mem_take h
  · exact List.mem_of_mem_drop h
theorem toldL_sub (fr : Int) (c : Cl) (g : Bool) {l l' : List Nr} (h : ∀ x ∈ l', x ∈ l) : ∀ x ∈ toldL fr c g l', x ∈ toldL fr c g l := by
  intro x hx
  obtain ⟨b, hb, hx⟩ := List.mem_flatMap.1 hx
  refine List.mem_flatMap.2 ⟨b, ?_, hx⟩
  obtain ⟨n, hn, rfl⟩ := List.mem_map.1 hb
  obtain ⟨h1, h2⟩ := List.mem_filter.1 hn
  exact List.mem_map.2 ⟨n, List.mem_filter.2 ⟨h n h1, h2⟩, rfl⟩
theorem keepU_fewer {fr me : Int} {near : List Nr} {k : Nat} {u : Us} (h : keepU fr me near u = true) : keepU fr me (fewerL near k) u = true := by
  unfold keepU at h ⊢
  rw [Bool.not_eq_true'] at h ⊢
  exact any_sub (toldL_sub _ _ _ (fewer_sub near k)) h
theorem keepG_fewer {fr : Int} {near : List Nr} {k : Nat} {u : Gr} (h : keepG fr near u = true) : keepG fr (fewerL near k) u = true := by
  unfold keepG at h ⊢
  rw [Bool.not_eq_true'] at h ⊢
  exact any_sub (toldL_sub _ _ _ (fewer_sub near k)) h

theorem wpOp_store {P : Program} {ops : Array Oper} {Q : Exit → Act → World → Prop} {i : Nat} {o : Oper} {a : Act} {w : World} {K : Act → World → Prop} (hoi : ops[i]? = some o) (hg : o.guard = none) (ty : TypeId) (x y : Operand) (ho : o.op = .store ty x y) (hd : o.dst = none)
    (b : Nat) (hx : a.eval x = .pointer (some ⟨b, 0, none⟩)) (cs ds : Array Value) (T : TypeId) (hy : a.eval y = .agg ds) (hb : w.heap[b]? = some (.cells cs T (0, 0))) (hi : (P.info? ty).map (·.size) = some ds.size) (hs : cs.size = ds.size) (h1 : ds.all (·.oneCell') = true)
    (h : K a (w.setRow b ds)) : wpOp P ops Q i K a w := by
  have hr := run_storeVar_row (P := P) w b T ty cs ds hb hi hs h1
  have hw : Region.wanted o (yielded ops a.tmps) = true := by simp [Region.wanted, hg]
  simp only [wpOp, hoi, hw, if_true]
  refine Or.inl ?_
  unfold Oper.wp execOp
  simp only [ho, hx, hy, Instr.storeAt, Instr.sureAddr, Sem.run_bind, Sem.run_pure, Result.andThen_ok, hr]
  have h2 : K (a.put o.dst undef) (w.setRow b ds) := by rw [hd]; exact h
  exact h2

theorem wpOp_call {P : Program} {ops : Array Oper} {Q : Exit → Act → World → Prop} {i : Nat} {o : Oper} {a : Act} {w w' : World} {f : FuncId} {args : Array Value} {K : Act → World → Prop} (ho : ops[i]? = some o) (hg : o.guard = none)
    (hr : (execOp a.eval o).run P w = .ok (.enter f args) w') (h : Calls P f args w' fun
      | .returned v, w'' => K (a.put o.dst v) w''
      | .panicked chain, w'' => Q (.panic chain) a w''
      | .outgrown, _ => LetsOut Q) : wpOp P ops Q i K a w := by
  have hw : Region.wanted o (yielded ops a.tmps) = true := by simp [Region.wanted, hg]
  simp only [wpOp, ho, hw, if_true]
  refine Or.inl ?_
  unfold Oper.wp
  rw [hr]
  exact h

set_option maxRecDepth 100000 in
set_option maxHeartbeats 1000000 in
theorem ClaimsMore_walk (t : Tb) (me : Int) (a : Option Addr) (n cap : Nat) (near : List Nr) (fr left : Int) (w : World) (ht : TbOk w t) (hnear : NearOk w (.slice a n cap) near) (hleft : 0 ≤ left ∧ left ≤ 255) :
    Calls Try.prog 3 #[.agg #[.slice t.uA t.uL t.uC, .slice t.gA t.gL t.gC, .slice t.kA t.kL t.kC], .int .i64 me, .slice a n cap, .int .i64 fr, .int .u8 left] w fun e w' => e = .returned (.bool true) ∧ Below w.heap.size w w' := by
  have hlen := hnear.1.length
  simp only [List.length_map] at hlen
  obtain ⟨hn, hm⟩ := hlen
  unfold maxLen at hm
  have HN := Lib.hid hn
  clear hn
  go_enter Try.func3, Try.ntmps3
  go_wp2_with fail
  refine (head_any _).mono ?_
  rintro e w1 ⟨rfl, hb1⟩
  obtain ⟨hc1, _⟩ := bcell hb1
  have c0 : w1.cell? ⟨w.heap.size, 0, none⟩ = some (.slice t.uA t.uL t.uC) := by rw [hc1 _ _ (by simp)]; go_simp
  have c1 : w1.cell? ⟨w.heap.size, 1, none⟩ = some (.slice t.gA t.gL t.gC) := by rw [hc1 _ _ (by simp)]; go_simp
  have c2 : w1.cell? ⟨w.heap.size, 2, none⟩ = some (.slice t.kA t.kL t.kC) := by rw [hc1 _ _ (by simp)]; go_simp
  have hB1 : Below w.heap.size w w1 := ((Below.refl _ w).alloc (Nat.le_refl _) _).trans (hb1.mono (by simp))
  have z1 : w.heap.size < w1.heap.size := cell_block c0
  clear hb1 hc1
  go_wp2_with fail
  refine (few_any t w1).mono ?_
  rintro e w2 ⟨rfl, hb2⟩
  have hB2 := hB1.trans (hb2.mono hB1.size)
  obtain ⟨hc2, _⟩ := bcell hb2
  have c0' := (hc2 w.heap.size 0 z1).trans c0
  have c1' := (hc2 w.heap.size 1 z1).trans c1
  have c2' := (hc2 w.heap.size 2 z1).trans c2
  clear hb2 hc2 hB1 c0 c1 c2
  by_cases hfew : t.uL ≤ 40 ∧ t.gL ≤ 40 ∧ t.kL ≤ 40
  case neg =>
    have hd : decide (t.uL ≤ 40 ∧ t.gL ≤ 40 ∧ t.kL ≤ 40) = false := decide_eq_false hfew
    simp only [hd]
    clear hd hfew
    go_wp2_with fail
    go_ret
    exact ⟨rfl, hB2⟩
  have hd : decide (t.uL ≤ 40 ∧ t.gL ≤ 40 ∧ t.kL ≤ 40) = true := decide_eq_true hfew
  simp only [hd]
  clear hd
  go_wp2_with fail
  refine (fewNear_any a n cap near w2 (hnear.below hB2 (Nat.le_refl _))).mono ?_
  rintro e w3 ⟨rfl, hb3⟩
  have hB3 := hB2.trans (hb3.mono hB2.size)
  have z2 : w.heap.size < w2.heap.size := cell_block c0'
  obtain ⟨hc3, _⟩ := bcell hb3
  have c0 := (hc3 w.heap.size 0 z2).trans c0'
  have c1 := (hc3 w.heap.size 1 z2).trans c1'
  have c2 := (hc3 w.heap.size 2 z2).trans c2'
  clear hb3 hc3 hB2 c0' c1' c2' z1 z2
  cases hfn : (near.all fewB && decide (n ≤ 70)) with
  | false =>
    clear hfn
    go_wp2_with fail
    go_ret
    exact ⟨rfl, hB3⟩
  | true =>
    have h70 : n ≤ 70 := by
      simp only [Bool.and_eq_true, decide_eq_true_eq] at hfn
      exact hfn.2
    clear hfn
    by_cases h0 : n = 0
    · have e0 : ((n : Int) == 0) = true := by simp [h0]
      subst h0
      go_wp2_with fail
      go_ret
      exact ⟨rfl, hB3⟩
    · have e0 : ((n : Int) == 0) = false := by simpa using h0
      have hk0 : ∃ k : Nat, left % (n : Int) = (k : Int) ∧ k < n := ⟨(left % (n : Int)).toNat, by
        have := Int.emod_nonneg left (b := (n : Int)) (by omega)
        omega, by
        have := Int.emod_nonneg left (b := (n : Int)) (by omega)
        have := Int.emod_lt_of_pos left (b := (n : Int)) (by omega)
        omega⟩
      obtain ⟨k, hk, hkn⟩ := hk0
      have hnear3 := hnear.below hB3 (Nat.le_refl _)
      have z3 : w.heap.size < w3.heap.size := cell_block c0
      obtain ⟨b, off, rfl⟩ : ∃ b off, a = some ⟨b, off, none⟩ := by
        obtain ⟨⟨a', cap', e, _, _, _, h4⟩, _⟩ := hnear
        simp only [Value.slice.injEq] at e
        obtain ⟨b, off, e2, _⟩ := h4 (by intro e0; have := congrArg List.length e0; rw [List.length_map, List.length_nil] at this; have := HN.out; omega)
        exact ⟨b, off, e.1.trans e2⟩
      have hcap : n ≤ cap ∧ cap ≤ maxLen := by
        obtain ⟨⟨a', cap', e, h1, h2, _⟩, _⟩ := hnear
        simp only [Value.slice.injEq] at e
        omega
      have hs1 : ∀ W, (Instr.slice 27 (.slice (some ⟨b, off, none⟩) n cap) none (some (.int .i64 (k : Int))) none).run Try.prog W = .ok (.slice (some ⟨b, off, none⟩) k cap) W := by
        intro W
        have h0 : (0 : Int) ≤ (k : Int) := by omega
        have h1 : (k : Int) ≤ (cap : Int) := by omega
        go_simp
      obtain ⟨o2, ho2, hs2⟩ : ∃ o2 : Nat, (k + 1 < n → o2 = off + (k + 1) * 31) ∧ ∀ W, (Instr.slice 27 (.slice (some ⟨b, off, none⟩) n cap) (some (.int .i64 ((k : Int) + 1))) none none).run Try.prog W = .ok (.slice (some ⟨b, o2, none⟩) (n - (k + 1)) (cap - (k + 1))) W := by
        have h0 : (0 : Int) ≤ (k : Int) + 1 := by omega
        have h1 : (k : Int) + 1 ≤ (n : Int) := by omega
        have e : ((k : Int) + 1).toNat = k + 1 := by omega
        by_cases hck : cap = k + 1
        · refine ⟨off, fun h => by omega, fun W => ?_⟩
          rw [run_slice_l W 27 _ _ _ Try.underlying27 .i64 _ h0 h1, show Try.prog.elem 27 = 71 from rfl, sz71 W]
          simp [e, hck, sliced, Result.andThen]
        · refine ⟨off + (k + 1) * 31, fun _ => rfl, fun W => ?_⟩
          rw [run_slice_l W 27 _ _ _ Try.underlying27 .i64 _ h0 h1, show Try.prog.elem 27 = 71 from rfl, sz71 W]
          simp [e, hck, sliced, Result.andThen, Addr.add_mid]
      go_wp2_with fail
      simp only [hk]
      obtain ⟨i0, Z, hi, hz0, hz1, hz2, hzs⟩ := info71_parts
      have hk64 : (k : Int) + 1 ≤ 71 := by omega
      have hk0 : (0 : Int) ≤ (k : Int) := by omega
      have HC := Lib.hid hcap
      have hL1 : ((near.drop 0).take k).length = k := by have := HN.out; rw [List.length_take, List.length_drop]; omega
      have hL2 : ((near.drop (k + 1)).take (n - (k + 1))).length = n - (k + 1) := by have := HN.out; rw [List.length_take, List.length_drop]; omega
      have hP1 := near_part hnear3 0 k
      rw [Nat.zero_mul, Nat.add_zero] at hP1
      have hP2 : ∀ (j : Nat) (u : Value), (((near.drop (k + 1)).take (n - (k + 1))).map nrV).flatten[j]? = some u → w3.cell? ((⟨b, o2, none⟩ : Addr).add j) = some u := by
        intro j u hj
        by_cases hkn' : k + 1 < n
        · rw [ho2 hkn']
          exact near_part hnear3 (k + 1) (n - (k + 1)) j u hj
        · have : n - (k + 1) = 0 := by omega
          rw [this] at hj
          simp at hj
      have HP1 := Lib.hid hP1
      have HP2 := Lib.hid hP2
      have HL1 := Lib.hid hL1
      have HL2 := Lib.hid hL2
      have HO2 := Lib.hid ho2
      have HK := Lib.hid hk
      clear hP1 hP2 hL1 hL2 ho2 hk hcap
      have hA1 : 0 + k ≤ maxLen := by unfold maxLen; omega
      have hA2 : (0 + k) * 392 ≤ 140737488355328 := by omega
      have hA3 : 0 + k + (n - (k + 1)) ≤ maxLen := by unfold maxLen; omega
      have hA4 : (0 + k + (n - (k + 1))) * 392 ≤ 140737488355328 := by omega
      have h01 : (0 : Int) ≤ (k : Int) + 1 := by omega
      have h02 : (k : Int) + 1 ≤ 1000 := by omega
      have hs2a : ∀ W, (Instr.slice 27 (.slice (some ⟨b, off, none⟩) n cap) (some (.int .i64 (wrap64 ((k : Int) + 1)))) none none).run Try.prog W = .ok (.slice (some ⟨b, o2, none⟩) (n - (k + 1)) (cap - (k + 1))) W := by
        intro W
        rw [wrap64_fit h01 h02]
        exact hs2 W
      have hs2b : ∀ W, (Instr.slice 27 (.slice (some ⟨b, off, none⟩) n cap) (some (.int .i64 (IntKind.i64.wrap ((k : Int) + 1)))) none none).run Try.prog W = .ok (.slice (some ⟨b, o2, none⟩) (n - (k + 1)) (cap - (k + 1))) W := by
        intro W
        rw [wrapi_fit h01 h02]
        exact hs2 W
      go_region_held3 (fun W' => Below w3.heap.size w3 W')
        (first | with_reducible assumption | with_reducible exact (Below.refl _ _).drew | exact ((Below.refl _ _).drew).alloc (Nat.le_refl _) _)
        (first
          | (rw [if_pos (by rfl)]; refine wp_append_own _ _ _ 27 rfl w3.heap.size 71 i0 Z 31 392 Try.underlying27 hi hz0 hz1 hz2 hzs (by decide) (.slice (some ⟨w3.heap.size, 0, none⟩) 0 0) 0 [] rfl (World.ownsRow_made _ #[] 0 (Nat.le_refl _) (Nat.zero_le _) rfl) ⟨b, off, none⟩ k cap (((near.drop 0).take k).map nrV).flatten rfl (by rw [near_len, HL1.out]) (fun j u h => cell_on (((Below.refl _ _).drew).alloc (Nat.le_refl _) _) (HP1.out j u h)) (near_flat_one _) hA1 hA2 (by simp) ?_; intro v1 w4 hown1 hg1 _; have hB4 : Below w3.heap.size w3 w4 := (((Below.refl _ w3).drew).alloc (Nat.le_refl _) _).grown hg1 (by simp) (fun k e => Nat.le_of_eq (Option.some.inj e)))
          | (rw [if_pos (by rfl)]; refine wp_append_own _ _ _ 27 rfl w3.heap.size 71 i0 Z 31 392 Try.underlying27 hi hz0 hz1 hz2 hzs (by decide) v1 (0 + k) _ rfl hown1 ⟨b, o2, none⟩ (n - (k + 1)) (cap - (k + 1)) (((near.drop (k + 1)).take (n - (k + 1))).map nrV).flatten rfl (by rw [near_len, HL2.out]) (fun j u h => cell_on hB4 (HP2.out j u h)) (near_flat_one _) hA3 hA4 hB4.size ?_; intro v2 w5 hown2 hg2 _; have hB5 : Below w3.heap.size w3 w5 := hB4.grown hg2 hB4.size (fun k e => (hown1.lt k e).1)))
      have hF := fewer_ok hnear3 hB5 HN.out hkn hown2
      obtain ⟨af, cf, hv2, _⟩ := hF.1.len
      obtain ⟨nf, hnf⟩ : ∃ nf, ((fewerL near k).map nrV).length = nf := ⟨_, rfl⟩
      rw [hnf] at hv2
      subst hv2
      have hN5 := hnear3.below hB5 (Nat.le_refl _)
      have hB05 := hB3.trans (hB5.mono hB3.size)
      have ht5 := ht.below hB05 (Nat.le_refl _)
      have hS5 : TS w.heap.size t w5 w5 := ⟨cell_on hB5 c0, cell_on hB5 c1, cell_on hB5 c2, Below.refl _ _⟩
      have hu40 := hfew.1
      have hg40 := hfew.2.1
      clear hown2 hown1 hg1 hg2 hB4 hB5 hnear3 c0 c1 c2 hs1 hs2 hs2a hs2b HP1 HP2 HL1 HL2 HO2 HK hA1 hA2 hA3 hA4 hi hz0 hz1 hz2 hzs hB3 hnf z3 h01 h02
      go_wp2_with fail
      have z5 : w.heap.size < w5.heap.size := cell_block hS5.1
      refine region_six (bt := w.heap.size) (t := t) (V := fun i => if i = 0 ∨ i = 5 then tbA t else if i = 1 ∨ i = 6 then .int .i64 me else if i = 2 then .slice (some ⟨b, off, none⟩) n cap else if i = 7 then .slice af nf cf else .int .i64 fr)
        (P1 := fun t1 => t1.us = t.us.filter (keepU fr me near) ∧ t1.gs = t.gs.filter (keepG fr near)) (P2 := fun t1 => t1.us = t.us.filter (keepU fr me (fewerL near k)) ∧ t1.gs = t.gs.filter (keepG fr (fewerL near k)))
        rfl rfl (by simp) z5 hS5 ?_ ?_ ?_ ?_ ?_ ?_ ?_ ?_ ?_ ?_ ?_ ?_ ?_
      · intro i hi K a' w' hT ho h
        simp only [pure8, List.mem_cons, List.not_mem_nil, or_false] at hi
        have o5 : a'.tmps[5]?.getD undef = .pointer (some ⟨w.heap.size, 0, none⟩) := by rw [ho 5 (by decide)]; rfl
        have o1 : a'.tmps[1]?.getD undef = .int .i64 me := by rw [ho 1 (by decide)]; rfl
        have o2 : a'.tmps[2]?.getD undef = .slice (some ⟨b, off, none⟩) n cap := by rw [ho 2 (by decide)]; rfl
        have o3 : a'.tmps[3]?.getD undef = .int .i64 fr := by rw [ho 3 (by decide)]; rfl
        have o13 : a'.tmps[13]?.getD undef = .slice af nf cf := by rw [ho 13 (by decide)]; rfl
        obtain ⟨g0, g1, g2, _⟩ := hT
        rcases hi with rfl | rfl | rfl | rfl | rfl | rfl | rfl | rfl
        · refine wpOp_val (v := tbA t) (w' := w') rfl rfl ?_ h
          unfold tbA
          go_simp
        · refine wpOp_val (v := .int .i64 me) (w' := w') rfl rfl ?_ h
          go_simp
        · refine wpOp_val (v := .slice (some ⟨b, off, none⟩) n cap) (w' := w') rfl rfl ?_ h
          go_simp
        · refine wpOp_val (v := .int .i64 fr) (w' := w') rfl rfl ?_ h
          go_simp
        · refine wpOp_val (v := tbA t) (w' := w') rfl rfl ?_ h
          unfold tbA
          go_simp
        · refine wpOp_val (v := .int .i64 me) (w' := w') rfl rfl ?_ h
          go_simp
        · refine wpOp_val (v := .slice af nf cf) (w' := w') rfl rfl ?_ h
          go_simp
        · refine wpOp_val (v := .int .i64 fr) (w' := w') rfl rfl ?_ h
          go_simp
      · intro K a' w' hT g0 g1 g2 g3 hk
        have g0 : a'.tmps[50]?.getD undef = tbA t := by simpa [Array.getD_eq_getD_getElem?] using g0
        have g1 : a'.tmps[51]?.getD undef = .int .i64 me := by simpa [Array.getD_eq_getD_getElem?] using g1
        have g2 : a'.tmps[52]?.getD undef = .slice (some ⟨b, off, none⟩) n cap := by simpa [Array.getD_eq_getD_getElem?] using g2
        have g3 : a'.tmps[53]?.getD undef = .int .i64 fr := by simpa [Array.getD_eq_getD_getElem?] using g3
        refine wpOp_call (w' := w') (f := 13) (args := #[tbA t, .int .i64 me, .slice (some ⟨b, off, none⟩) n cap, .int .i64 fr]) rfl rfl (by go_simp) ?_
        refine (yield_any t me fr (some ⟨b, off, none⟩) n cap near w' hN5.1.length.2 (by simpa using hN5.1.length.1) (ht5.below hT.2.2.2 (Nat.le_refl _)) (hN5.below hT.2.2.2 (Nat.le_refl _)) (by omega) (by omega)).mono ?_
        rintro e w'' ⟨t1, rfl, q1, q2, q3, _, q5⟩
        exact hk t1 w'' q5 q1 ⟨q2, q3⟩
      · intro K a' w' hT g0 g1 g2 g3 hk
        have g0 : a'.tmps[55]?.getD undef = tbA t := by simpa [Array.getD_eq_getD_getElem?] using g0
        have g1 : a'.tmps[56]?.getD undef = .int .i64 me := by simpa [Array.getD_eq_getD_getElem?] using g1
        have g2 : a'.tmps[57]?.getD undef = .slice af nf cf := by simpa [Array.getD_eq_getD_getElem?] using g2
        have g3 : a'.tmps[58]?.getD undef = .int .i64 fr := by simpa [Array.getD_eq_getD_getElem?] using g3
        refine wpOp_call (w' := w') (f := 13) (args := #[tbA t, .int .i64 me, .slice af nf cf, .int .i64 fr]) rfl rfl (by go_simp) ?_
        refine (yield_any t me fr af nf cf (fewerL near k) w' hF.1.length.2 (by simpa using hF.1.length.1) (ht5.below hT.2.2.2 (Nat.le_refl _)) (hF.below hT.2.2.2 (Nat.le_refl _)) (by omega) (by omega)).mono ?_
        rintro e w'' ⟨t1, rfl, q1, q2, q3, _, q5⟩
        exact hk t1 w'' q5 q1 ⟨q2, q3⟩
      · intro K a' w' h
        refine wpOp_val (v := .pointer (some ⟨w'.heap.size, 0, none⟩)) (w' := w'.alloc (.cells #[.slice none 0 0, .slice none 0 0, .slice none 0 0] 26)) rfl rfl ?_ h
        go_simp
      · intro K a' w' h
        refine wpOp_val (v := .pointer (some ⟨w'.heap.size, 0, none⟩)) (w' := w'.alloc (.cells #[.slice none 0 0, .slice none 0 0, .slice none 0 0] 26)) rfl rfl ?_ h
        go_simp
      · intro K a' w' bb t1 g1 g2 hblk h
        exact wpOp_store rfl rfl 26 (.tmp 14) (.tmp 54) rfl rfl bb g1 nil3 (tbV t1).toArray 26 g2 hblk (by kernel_rfl) rfl (by simp [tbV, Value.oneCell']) h
      · intro K a' w' bb t1 g1 g2 hblk h
        exact wpOp_store rfl rfl 26 (.tmp 15) (.tmp 59) rfl rfl bb g1 nil3 (tbV t1).toArray 26 g2 hblk (by kernel_rfl) rfl (by simp [tbV, Value.oneCell']) h
      · intro l h k hk
        obtain ⟨_, o, ho, he⟩ := mem_ready.1 h
        simp only [List.getElem?_toArray, List.getElem?_cons_succ, List.getElem?_cons_zero, Option.some.injEq] at ho
        subst ho
        rcases k with _ | _ | _ | _ | k
        · exact he ⟨0, .data⟩ (by simp) rfl
        · exact he ⟨1, .data⟩ (by simp) rfl
        · exact he ⟨2, .data⟩ (by simp) rfl
        · exact he ⟨3, .data⟩ (by simp) rfl
        · omega
      · intro l h k hk hk2
        obtain ⟨_, o, ho, he⟩ := mem_ready.1 h
        simp only [List.getElem?_toArray, List.getElem?_cons_succ, List.getElem?_cons_zero, Option.some.injEq] at ho
        subst ho
        have hh : k = 5 ∨ k = 6 ∨ k = 7 ∨ k = 8 := by omega
        rcases hh with rfl | rfl | rfl | rfl
        · exact he ⟨5, .data⟩ (by simp) rfl
        · exact he ⟨6, .data⟩ (by simp) rfl
        · exact he ⟨7, .data⟩ (by simp) rfl
        · exact he ⟨8, .data⟩ (by simp) rfl
      · intro l h
        obtain ⟨_, o, ho, he⟩ := mem_ready.1 h
        simp only [List.getElem?_toArray, List.getElem?_cons_succ, List.getElem?_cons_zero, Option.some.injEq] at ho
        subst ho
        exact ⟨he ⟨4, .data⟩ (by simp) rfl, he ⟨10, .data⟩ (by simp) rfl⟩
      · intro l h
        obtain ⟨_, o, ho, he⟩ := mem_ready.1 h
        simp only [List.getElem?_toArray, List.getElem?_cons_succ, List.getElem?_cons_zero, Option.some.injEq] at ho
        subst ho
        exact ⟨he ⟨9, .data⟩ (by simp) rfl, he ⟨11, .data⟩ (by simp) rfl⟩
      · intro l hl hr k
        induction k using Nat.strongRecOn with
        | ind k ih =>
          intro hk
          cases hlk : l.getD k false with
          | true => rfl
          | false =>
            exfalso
            have hmem : k ∈ ([] : List Nat) := by
              rw [← hr]
              refine mem_ready.2 ⟨?_, ?_⟩
              · have : k < l.size := by omega
                simp only [Array.getD_eq_getD_getElem?, Array.getElem?_eq_getElem this, Option.getD_some] at hlk ⊢
                exact hlk
              · have hlow : ∀ o : Oper, o.after.all (fun e => decide (e.on < k)) = true → ∀ e ∈ o.after, Region.binds .any e = true → l.getD e.on false = true := fun o ho e he _ => by
                  have := (Array.all_eq_true_iff_forall_mem.1 ho) e he
                  have := of_decide_eq_true this
                  exact ih e.on this (by omega)
                rcases k with _ | _ | _ | _ | _ | _ | _ | _ | _ | _ | _ | _ | _ | _ | k
                all_goals first | exact ⟨_, rfl, hlow _ rfl⟩ | exact ⟨_, rfl, hlow _ (by simp)⟩ | (exfalso; omega)
            cases hmem
      · intro s t1 t2 b1 b2 w6 e14 e15 ok1 p1 ok2 p2 bl1 bl2 ge1 ge2 hT6
        have u1 := bl1.cell 0
        have u2 := bl1.cell 1
        have v1 := bl2.cell 0
        have v2 := bl2.cell 1
        have v3 := bl2.cell 2
        simp only [tbV, List.getElem?_toArray, List.getElem?_cons_zero, List.getElem?_cons_succ] at u1 u2 v1 v2 v3
        have y1 := bl1.lt
        have y2 := bl2.lt
        have hB06 := hB05.trans (hT6.2.2.2.mono hB05.size)
        have hin1 : ∀ x, x ∈ t1.us → x ∈ t2.us := fun x hx => by
          rw [p1.1] at hx
          rw [p2.1]
          obtain ⟨h1, h2⟩ := List.mem_filter.1 hx
          exact List.mem_filter.2 ⟨h1, keepU_fewer h2⟩
        have hin2 : ∀ x, x ∈ t1.gs → x ∈ t2.gs := fun x hx => by
          rw [p1.2] at hx
          rw [p2.2]
          obtain ⟨h1, h2⟩ := List.mem_filter.1 hx
          exact List.mem_filter.2 ⟨h1, keepG_fewer h2⟩
        have hu1 : t1.uL ≤ 40 := by
          have h1 := ok1.1.length.1
          have h2 := ht5.1.length.1
          have h3 := List.length_filter_le (keepU fr me near) t.us
          rw [← p1.1] at h3
          simp only [List.length_map] at h1 h2
          omega
        have hg1 : t1.gL ≤ 40 := by
          have h1 := ok1.2.1.length.1
          have h2 := ht5.2.1.length.1
          have h3 := List.length_filter_le (keepG fr near) t.gs
          rw [← p1.2] at h3
          simp only [List.length_map] at h1 h2
          omega
        have HI1 := Lib.hid hin1
        have HI2 := Lib.hid hin2
        clear hin1 hin2 p1 p2 bl1 bl2 hT6 hS5 hF hN5 hB05 hfew ht5
        simp only [puts, slots12, List.foldl_cons, List.foldl_nil, e14, e15, List.setIfInBounds_toArray, List.set_cons_zero, List.set_cons_succ]
        go_wp2_with fail
        have LU := Lib.hid ok1.1.length.1
        have LG := Lib.hid ok1.2.1.length.1
        go_loopw [63] (fun i wr => ∃ j : Nat, i = .int .i64 j ∧ j ≤ t1.uL ∧ Below w6.heap.size w6 wr) (fun i _ => t1.uL - (intOf i).toNat)
        case atStart => exact ⟨0, rfl, by omega, Below.refl _ _⟩
        case round =>
          obtain ⟨j, rfl, hj, hb⟩ := hrel
          have hcc := (bcell hb).1
          have u2' := (hcc b1 1 y1).trans u2
          have v1' := (hcc b2 0 y2).trans v1
          have v2' := (hcc b2 1 y2).trans v2
          have v3' := (hcc b2 2 y2).trans v3
          have y1' : b1 < wr.heap.size := by have := hb.size; omega
          have y2' : b2 < wr.heap.size := by have := hb.size; omega
          clear hcc
          by_cases hlt : j < t1.uL
          · obtain ⟨x, hxk⟩ : ∃ x, t1.us[j]? = some x := ⟨t1.us[j]'(by have := LU.out; simp at this; omega), List.getElem?_eq_getElem _⟩
            obtain ⟨bb, oo, hix, d0, d1, d2, d3⟩ := us_at (ok1.1.below hb (Nat.le_refl _)) hxk
            have HX := Lib.hid (decide_eq_true (HI1.out x (List.mem_of_getElem? hxk)))
            have HO := Lib.hid (ok2.1.below hb (Nat.le_refl _))
            clear hxk
            go_wp2_with fail
            refine (holds_use t2.us x t2.uA t2.uL t2.uC (.slice t2.gA t2.gL t2.gC) (.slice t2.kA t2.kL t2.kC) ((0, 0), 0, 0, 0) _ (by simpa using ok2.1.length.1) ok2.1.length.2 (HO.out.below ((Below.refl _ _).alloc (Nat.le_refl _) _) (Nat.le_refl _))).mono ?_
            rintro e w7 ⟨rfl, hb7⟩
            simp only [HX.out]
            have HB := Lib.hid ((hb.alloc hb.size _).trans (hb7.mono (by simp; have := hb.size; omega)))
            clear hb7
            go_wp2_with fail
            go_roundw
            case rel => exact ⟨j + 1, rfl, by omega, HB.out⟩
            case measure => simp [intOf]; omega
          · go_wp2_with fail
            clear u2' v1' v2' v3' y1' y2'
            obtain ⟨wo, rfl⟩ : ∃ wo : World, wo = wr := ⟨_, rfl⟩
            go_loopw [76] (fun i wr => ∃ j : Nat, i = .int .i64 j ∧ j ≤ t1.gL ∧ Below w6.heap.size w6 wr) (fun i _ => t1.gL - (intOf i).toNat)
            case atStart => exact ⟨0, rfl, by omega, hb⟩
            case round =>
              clear hb
              obtain ⟨j2, rfl, hj2, hb⟩ := hrel
              have hcc := (bcell hb).1
              have v1' := (hcc b2 0 y2).trans v1
              have v2' := (hcc b2 1 y2).trans v2
              have v3' := (hcc b2 2 y2).trans v3
              have y2' : b2 < wr.heap.size := by have := hb.size; omega
              clear hcc
              by_cases hlt2 : j2 < t1.gL
              · obtain ⟨x, hxk⟩ : ∃ x, t1.gs[j2]? = some x := ⟨t1.gs[j2]'(by have := LG.out; simp at this; omega), List.getElem?_eq_getElem _⟩
                obtain ⟨bb, oo, hix, d0, d1, d2, d3, d4⟩ := gr_at (ok1.2.1.below hb (Nat.le_refl _)) hxk
                have HX := Lib.hid (decide_eq_true (HI2.out x (List.mem_of_getElem? hxk)))
                have HO := Lib.hid (ok2.2.1.below hb (Nat.le_refl _))
                clear hxk
                go_wp2_with fail
                refine (holds_grant t2.gs x t2.gA t2.gL t2.gC (.slice t2.uA t2.uL t2.uC) (.slice t2.kA t2.kL t2.kC) ((0, 0), 0, 0) _ (by simpa using ok2.2.1.length.1) ok2.2.1.length.2 (HO.out.below ((Below.refl _ _).alloc (Nat.le_refl _) _) (Nat.le_refl _))).mono ?_
                rintro e w7 ⟨rfl, hb7⟩
                simp only [HX.out]
                have HB := Lib.hid ((hb.alloc hb.size _).trans (hb7.mono (by simp; have := hb.size; omega)))
                clear hb7
                go_wp2_with fail
                go_roundw
                case rel => exact ⟨j2 + 1, rfl, by omega, HB.out⟩
                case measure => simp [intOf]; omega
              · go_wp2_with fail
                go_ret
                exact ⟨rfl, hB06.trans (hb.mono hB06.size)⟩

end Go.Proofs.Ytadiocpcpjbjpaa

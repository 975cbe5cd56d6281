import Derived.Test.YtadiocpcpjbjpaaD
namespace Go.Proofs.Ytadiocpcpjbjpaa
open Go.RowKit
attribute [local go_sem] Oper.semAt_some

theorem lately_calls (a : Option Addr) (n c : Nat) (fr : Int) (w : World) :
    Calls Try.prog 32 #[.slice a n c, .int .i64 fr] w fun e w' => e = .returned (.func (.func 35) #[] #[.pointer (some ⟨w.heap.size, 0, none⟩), .pointer (some ⟨w.heap.size + 1, 0, none⟩)]) ∧
      (w.alloc (.cells #[.slice a n c] 27)).alloc (.cells #[.int .i64 fr] 3) = w' := by
  go_enter Try.func32, Try.ntmps32
  go_wp2_with fail
  go_ret
  exact ⟨rfl, rfl⟩

theorem lately_stops (w0 : World) (Bn Bf : Nat) (a : Option Addr) (n cap : Nat) (near : List Nr) (fr : Int) (hn : n = near.length) (hm : n ≤ maxLen)
    (hcn : w0.cell? ⟨Bn, 0, none⟩ = some (.slice a n cap)) (hcf : w0.cell? ⟨Bf, 0, none⟩ = some (.int .i64 fr)) (hrows : Rows 31 w0 (.slice a n cap) (near.map nrV)) :
    Stops Try.prog 35 #[.pointer (some ⟨Bn, 0, none⟩), .pointer (some ⟨Bf, 0, none⟩)] (fun b : Bc => #[.agg (bcV b).toArray]) (latelyL fr near) w0 :=
  fun l stop Jx W hW hJx hY => lately_in l stop Jx w0 W Bn Bf a n cap near fr hn hm hcn hcf hrows hW hJx hY

def grantsL (fr : Int) (c : Cl) (l : List Gr) : List (Int × Int) := (l.filter fun g => decide (g.1 = c) && decide (fr ≤ g.2.2.2)).map fun g => (g.2.2.1, g.2.1)
def usesL (c : Cl) (src : Int) (l : List Us) : List (Int × Int) := (l.filter fun u => decide (u.1 = c)).map fun u => (u.2.2, src)
/-- The claims to a cell that a beacon tells as grants. -/
def grantsOf (fr : Int) (c : Cl) (b : Bc) : List (Int × Int) := grantsL fr c b.gs
/-- The claims to a cell that a beacon tells as uses. -/
def usesOf (c : Cl) (b : Bc) : List (Int × Int) := usesL c b.src b.us

theorem grantsL_skip {fr : Int} {c : Cl} {l : List Gr} {k : Nat} {x : Gr} (hx : l[k]? = some x) (stop : Int × Int → Bool) (h : (grantsL fr c (l.take k)).any stop = false) (hn : ¬ (x.1 = c ∧ fr ≤ x.2.2.2)) :
    (grantsL fr c (l.take (k + 1))).any stop = false := by
  unfold grantsL at *
  rw [List.take_add_one, hx, Option.toList_some, List.filter_append, List.map_append, List.any_append, h, List.filter_cons_of_neg (by simpa using hn)]
  simp

theorem grantsL_step {fr : Int} {c : Cl} {l : List Gr} {k : Nat} {x : Gr} (hx : l[k]? = some x) (stop : Int × Int → Bool) (h : (grantsL fr c (l.take k)).any stop = false) (hn : x.1 = c ∧ fr ≤ x.2.2.2) (hs : stop (x.2.2.1, x.2.1) = false) :
    (grantsL fr c (l.take (k + 1))).any stop = false := by
  unfold grantsL at *
  rw [List.take_add_one, hx, Option.toList_some, List.filter_append, List.map_append, List.any_append, h, List.filter_cons_of_pos (by simpa using hn)]
  simp [hs]

theorem grantsL_mem {fr : Int} {c : Cl} {l : List Gr} {k : Nat} {x : Gr} (hx : l[k]? = some x) (hn : x.1 = c ∧ fr ≤ x.2.2.2) : (x.2.2.1, x.2.1) ∈ grantsL fr c l :=
  List.mem_map.2 ⟨x, List.mem_filter.2 ⟨List.mem_of_getElem? hx, by simpa using hn⟩, rfl⟩

theorem usesL_skip {src : Int} {c : Cl} {l : List Us} {k : Nat} {x : Us} (hx : l[k]? = some x) (stop : Int × Int → Bool) (h : (usesL c src (l.take k)).any stop = false) (hn : ¬ x.1 = c) :
    (usesL c src (l.take (k + 1))).any stop = false := by
  unfold usesL at *
  rw [List.take_add_one, hx, Option.toList_some, List.filter_append, List.map_append, List.any_append, h, List.filter_cons_of_neg (by simpa using hn)]
  simp

theorem usesL_step {src : Int} {c : Cl} {l : List Us} {k : Nat} {x : Us} (hx : l[k]? = some x) (stop : Int × Int → Bool) (h : (usesL c src (l.take k)).any stop = false) (hn : x.1 = c) (hs : stop (x.2.2, src) = false) :
    (usesL c src (l.take (k + 1))).any stop = false := by
  unfold usesL at *
  rw [List.take_add_one, hx, Option.toList_some, List.filter_append, List.map_append, List.any_append, h, List.filter_cons_of_pos (by simpa using hn)]
  simp [hs]

theorem usesL_mem {src : Int} {c : Cl} {l : List Us} {k : Nat} {x : Us} (hx : l[k]? = some x) (hn : x.1 = c) : (x.2.2, src) ∈ usesL c src l :=
  List.mem_map.2 ⟨x, List.mem_filter.2 ⟨List.mem_of_getElem? hx, by simpa using hn⟩, rfl⟩

theorem Rows.length {k : Nat} {w : World} {a : Option Addr} {n cap : Nat} {css : List (List Value)} (h : Rows k w (.slice a n cap) css) : n = css.length ∧ n ≤ maxLen := by
  obtain ⟨a', cap', hv, hc, hm, _⟩ := h
  simp only [Value.slice.injEq] at hv
  omega

theorem any_flatMap_false {α β : Type} {l : List α} {f : α → List β} {p : β → Bool} (h : l.any (fun x => (f x).any p) = false) : (l.flatMap f).any p = false := by
  rw [List.any_flatMap]; exact h
theorem any_flatMap_true {α β : Type} {l : List α} {f : α → List β} {p : β → Bool} (h : l.any (fun x => (f x).any p) = true) : (l.flatMap f).any p = true := by
  rw [List.any_flatMap]; exact h

theorem near_mem {p : Bc → Prop} {fr : Int} {l : List Nr} {b : Bc} (h : ∀ n ∈ l, p n.told) (hb : b ∈ latelyL fr l) : p b := by
  obtain ⟨x, hx, rfl⟩ := List.mem_map.1 hb
  exact h x (List.mem_filter.1 hx).1

/-- A beacon in a block of its own. -/
theorem bc_new (W : World) (b : Bc) : (W.alloc (.cells (bcV b).toArray 69)).cell? ⟨W.heap.size, 0, none⟩ = some (.int .i64 b.src) ∧
    (W.alloc (.cells (bcV b).toArray 69)).cell? ⟨W.heap.size, 11, none⟩ = some (.slice b.usesA b.usesL b.usesC) ∧ (W.alloc (.cells (bcV b).toArray 69)).cell? ⟨W.heap.size, 12, none⟩ = some (.slice b.grantsA b.grantsL b.grantsC) := by
  have h := rangeAt_new W (bcV b) 69 0 (bcV b) (fun j v h => by rw [Nat.zero_add]; exact h)
  exact ⟨h 0 _ rfl, h 11 _ rfl, h 12 _ rfl⟩

theorem cell_putObj {w : World} {r : Nat} {o : Obj} {p : Addr} (h : p.block ≠ r) : (w.putObj r o).cell? p = w.cell? p := by
  unfold World.cell?
  rw [World.putObj_heap_other h]

theorem wpIn_name {F : Fence} {n : Nat} {P : Program} {c : Code} {Q : Exit → Act → World → Prop} {a : Act} {w : World} (h : ∀ W, W = w → c.wpIn F n P Q a W) : c.wpIn F n P Q a w := h w rfl

theorem RoundIn.inRound' {F : Fence} {n : Nat} {P : Program} {l l' : Nat} {f : FuncId} {tmps : Array Value} {assign body : Code} {w : World} {R : Ending → World → Prop} (h : RoundIn F n P l f tmps assign body w R) : RoundIn (F.inRound l') n P l f tmps assign body w R := h

set_option maxHeartbeats 1000000 in
theorem toldG_in (l : Nat) (stop : Int × Int → Bool) (Jx : World → Prop) (w0 W : World) (Bn Bf Bg Bc' : Nat) (a : Option Addr) (n cap : Nat) (near : List Nr) (fr : Int) (c : Cl) (hn : n = near.length) (hm : n ≤ maxLen)
    (hcn : w0.cell? ⟨Bn, 0, none⟩ = some (.slice a n cap)) (hcf : w0.cell? ⟨Bf, 0, none⟩ = some (.int .i64 fr)) (hcg : w0.cell? ⟨Bg, 0, none⟩ = some (.bool true))
    (hc0 : w0.cell? ⟨Bc', 0, none⟩ = some (.int .i64 c.1)) (hc1 : w0.cell? ⟨Bc', 1, none⟩ = some (.int .i64 c.2)) (hnear : NearOk w0 (.slice a n cap) near)
    (hW : Below w0.heap.size w0 W) (hJx : ∀ A A', Jx A → Below W.heap.size A A' → Jx A')
    (hY : ∀ x W1, x ∈ (latelyL fr near).flatMap (grantsOf fr c) → Below W.heap.size W W1 → YieldAt Fence.wide 0 Try.prog l #[.agg #[.int .i64 x.1, .int .i64 x.2]] W1 fun e W' =>
      (stop x = false ∧ e = .returned (.bool true) ∧ Below W1.heap.size W1 W') ∨ (stop x = true ∧ e = .returned (.bool false) ∧ Above W.heap.size W1 W' ∧ Jx W')) :
    Calls Try.prog 31 #[.func (.yield l) #[] #[], .pointer (some ⟨Bn, 0, none⟩), .pointer (some ⟨Bf, 0, none⟩), .pointer (some ⟨Bg, 0, none⟩), .pointer (some ⟨Bc', 0, none⟩)] W fun e W' => (∃ v, e = .returned v) ∧
      ((((latelyL fr near).flatMap (grantsOf fr c)).any stop = false ∧ Below W.heap.size W W') ∨ (((latelyL fr near).flatMap (grantsOf fr c)).any stop = true ∧ Jx W')) := by
  have gn : W.cell? ⟨Bn, 0, none⟩ = some (.slice a n cap) := (hW.cell (p := ⟨Bn, 0, none⟩) (cell_block hcn)).trans hcn
  have gf : W.cell? ⟨Bf, 0, none⟩ = some (.int .i64 fr) := (hW.cell (p := ⟨Bf, 0, none⟩) (cell_block hcf)).trans hcf
  have gg : W.cell? ⟨Bg, 0, none⟩ = some (.bool true) := (hW.cell (p := ⟨Bg, 0, none⟩) (cell_block hcg)).trans hcg
  have g0 : W.cell? ⟨Bc', 0, none⟩ = some (.int .i64 c.1) := (hW.cell (p := ⟨Bc', 0, none⟩) (cell_block hc0)).trans hc0
  have g1 : W.cell? ⟨Bc', 1, none⟩ = some (.int .i64 c.2) := (hW.cell (p := ⟨Bc', 1, none⟩) (cell_block hc1)).trans hc1
  have hnr := hnear.below hW (Nat.le_refl _)
  have bn := cell_block gn
  have bf := cell_block gf
  have bg := cell_block gg
  have bc := cell_block g0
  dsimp only at bn bf bg bc
  have HN := Lib.hid hn
  have HY := Lib.hid hY
  have HJ := Lib.hid hJx
  clear hn hY hJx hcn hcf hcg hc0 hc1 hnear hW
  refine (callsIn_wide (n := 0)).1 ?_
  refine callsIn_of_wp_marks Try.func31 rfl trivial ?_ rfl
  simp only [Try.ntmps31, List.size_toArray, List.length_cons, List.length_nil, Nat.reduceAdd, Nat.reduceSub, Array.replicate_succ, Array.replicate_zero, List.push_toArray, List.append_toArray, List.nil_append, List.cons_append]
  gi_wp2_with fail
  refine ⟨trivial, rfl, (callsIn_wide.2 (lately_calls _ _ _ _ _)).mono ?_⟩
  rintro e w' ⟨rfl, rfl⟩
  gi_wp2_with fail
  refine wpIn_name ?_
  intro Wl hWl
  have zl : Wl.heap.size = W.heap.size + 3 := by rw [hWl]; simp
  have hBl : Below W.heap.size W Wl := by rw [hWl]; exact (((Below.refl _ W).alloc (Nat.le_refl _) _).alloc (by simp) _).alloc (by simp; omega) _
  have hy0 : Wl.cell? ⟨W.heap.size, 0, none⟩ = some (.func (.yield l) #[] #[]) := by rw [hWl]; go_simp
  have hn0 : Wl.cell? ⟨W.heap.size + 1, 0, none⟩ = some (.slice a n cap) := by rw [hWl]; go_simp
  have hf0 : Wl.cell? ⟨W.heap.size + 1 + 1, 0, none⟩ = some (.int .i64 fr) := by rw [hWl]; go_simp
  clear hWl
  have hnl := hnr.below hBl (Nat.le_refl _)
  refine range_search (gf := 35) (lb := #[.pointer (some ⟨W.heap.size + 1, 0, none⟩), .pointer (some ⟨W.heap.size + 1 + 1, 0, none⟩)]) rfl (enters_of Try.func35 (by kernel_rfl) rfl)
    (lately_stops Wl _ _ a n cap near fr HN.out hm hn0 hf0 hnl.1) (Below.refl _ _) (fun _ => rfl) (fun b => (grantsOf fr c b).any stop) Jx (fun A A' hA hb => HJ.out A A' hA (hb.mono (by omega))) ?round ?done ?stop
  case round =>
    intro b Wr l' hb hbr hl' hlt
    obtain ⟨q0, q1, q2⟩ := bc_new Wr b
    gi_wp2_with ((with_reducible refine wpListIn_store_new ?_ 69 (.tmp 6) (.tmp 14) ?_ Wr 69 (bcV b) ?_ ?_ ?_ (bcV_one b) (info69 b) ?_); rfl; rfl; exact ⟨_, rfl, rfl⟩; rfl; rfl)
    refine ⟨(Below.refl _ _).alloc (Nat.le_refl _) _, fun o => ?_⟩
    refine wpIn_name ?_
    intro Wb hWb
    have sb : Wr.heap.size < Wb.heap.size := by rw [hWb]; simp
    have p0 : Wb.cell? ⟨Wr.heap.size, 0, none⟩ = some (.int .i64 b.src) := by rw [hWb]; exact (cell_putObj (by simp; omega)).trans q0
    have p1 : Wb.cell? ⟨Wr.heap.size, 11, none⟩ = some (.slice b.usesA b.usesL b.usesC) := by rw [hWb]; exact (cell_putObj (by simp; omega)).trans q1
    have p2 : Wb.cell? ⟨Wr.heap.size, 12, none⟩ = some (.slice b.grantsA b.grantsL b.grantsC) := by rw [hWb]; exact (cell_putObj (by simp; omega)).trans q2
    have hBb : Below Wl.heap.size Wl Wb := by rw [hWb]; exact (hbr.alloc (by omega) _).trans (below_putObj _ (by omega))
    have hB : Below W.heap.size W Wb := hBl.trans (hBb.mono (by omega))
    have y0 : Wb.cell? ⟨W.heap.size, 0, none⟩ = some (.func (.yield l) #[] #[]) := ((bcell hBb).1 _ _ (by omega)).trans hy0
    have e1 : Wb.cell? ⟨Bf, 0, none⟩ = some (.int .i64 fr) := ((bcell hB).1 _ _ bf).trans gf
    have e2 : Wb.cell? ⟨Bg, 0, none⟩ = some (.bool true) := ((bcell hB).1 _ _ bg).trans gg
    have e3 : Wb.cell? ⟨Bc', 0, none⟩ = some (.int .i64 c.1) := ((bcell hB).1 _ _ bc).trans g0
    have e4 : Wb.cell? ⟨Bc', 1, none⟩ = some (.int .i64 c.2) := ((bcell hB).1 _ _ bc).trans g1
    have hgb : Rows 5 Wb (.slice b.grantsA b.grantsL b.grantsC) (b.gs.map grV) := (near_mem hnl.2 hb).2.below hBb (Nat.le_refl _)
    have hub : Rows 4 Wb (.slice b.usesA b.usesL b.usesC) (b.us.map usV) := (near_mem hnl.2 hb).1.below hBb (Nat.le_refl _)
    have HWb := Lib.hid hWb
    clear hWb hBb
    obtain ⟨lg, mg⟩ := hgb.length
    obtain ⟨lu, mu⟩ := hub.length
    rw [List.length_map] at lg lu
    unfold maxLen at mg mu
    have LG := Lib.hid lg
    have LU := Lib.hid lu
    have HM := Lib.hid hb
    clear lg lu hb
    gi_wp2_with fail
    gi_loopw [18] (fun i wr => ∃ k : Nat, i = .int .i64 k ∧ k ≤ b.grantsL ∧ (grantsL fr c (b.gs.take k)).any stop = false ∧ Below Wb.heap.size Wb wr) (fun i _ => b.grantsL - (intOf i).toNat)
    case atStart => exact ⟨0, rfl, by omega, by simp [grantsL], Below.refl _ _⟩
    case round =>
      obtain ⟨k, rfl, hk, hx, hbw⟩ := hrel
      obtain ⟨hc', hf'⟩ := bcell hbw
      have z1 : W.heap.size < wr.heap.size := by have := hbw.size; omega
      have z2 : Wr.heap.size < wr.heap.size := by have := hbw.size; omega
      have z3 : Bf < wr.heap.size := by omega
      have z4 : Bg < wr.heap.size := by omega
      have z5 : Bc' < wr.heap.size := by omega
      have x1 : W.heap.size < Wb.heap.size := by omega
      have x3 : Bf < Wb.heap.size := by omega
      have x4 : Bg < Wb.heap.size := by omega
      have x5 : Bc' < Wb.heap.size := by omega
      by_cases hlt : k < b.grantsL
      · obtain ⟨x, hxk⟩ : ∃ x, b.gs[k]? = some x := ⟨b.gs[k]'(by rw [← LG.out]; exact hlt), List.getElem?_eq_getElem _⟩
        obtain ⟨bb, off, hix, d0, d1, d2, d3, d4⟩ := gr_at (hgb.below hbw (Nat.le_refl _)) hxk
        have he := cl_eql x.1 c
        by_cases hcx : x.1 = c
        · have hd : decide (x.1 = c) = true := decide_eq_true hcx
          by_cases hun : fr ≤ x.2.2.2
          · obtain ⟨fn, tmps, assign, body, hy, hR⟩ := HY.out (x.2.2.1, x.2.1) (wr.alloc (.cells #[.int .i64 x.1.1, .int .i64 x.1.2, .int .i64 x.2.1, .int .i64 x.2.2.1, .int .i64 x.2.2.2] 38)) (List.mem_flatMap.2 ⟨b, HM.out, grantsL_mem hxk ⟨hcx, hun⟩⟩) ((hB.trans (hbw.mono (by omega))).alloc (by omega) _)
            have HS := Lib.hid (grantsL_step hxk stop hx ⟨hcx, hun⟩)
            have HT := Lib.hid (grantsL_mem hxk ⟨hcx, hun⟩)
            clear hx hxk hcx
            dsimp only at hy
            gi_wp2_with fail
            refine ⟨rfl, (RoundIn.inRound' hR).mono ?_⟩
            rintro e W2 (⟨hst, rfl, hb2⟩ | ⟨hst, rfl, ha2, hj⟩)
            · have HS2 := Lib.hid (HS.out hst)
              have HB2 := Lib.hid ((hbw.alloc hbw.size (.cells #[.int .i64 x.1.1, .int .i64 x.1.2, .int .i64 x.2.1, .int .i64 x.2.2.1, .int .i64 x.2.2.2] 38)).trans (hb2.mono (by simp; have := hbw.size; omega)))
              clear hst hb2
              gi_wp2_with fail
              go_roundw
              case rel => exact ⟨k + 1, rfl, by omega, HS2.out, HB2.out⟩
              case measure => simp [intOf]; omega
            · have HS2 : Hid ((grantsOf fr c b).any stop = true) := List.any_eq_true.2 ⟨_, HT.out, hst⟩
              have HA2 := Lib.hid ((Below.above (hbw.alloc hbw.size (.cells #[.int .i64 x.1.1, .int .i64 x.1.2, .int .i64 x.2.1, .int .i64 x.2.2.1, .int .i64 x.2.2.2] 38)) Wl.heap.size).trans (ha2.mono (by omega)))
              clear hst ha2
              gi_wp2_with fail
              exact ⟨HS2.out, by rw [← HWb.out]; exact HA2.out, hj⟩
          · have HS := Lib.hid (grantsL_skip hxk stop hx (fun h => hun h.2))
            clear hx hxk hcx
            gi_wp2_with fail
            refine ⟨fun _ h => (by cases h), ?_⟩
            gi_wp2_with fail
            go_roundw
            case rel => exact ⟨k + 1, rfl, by omega, HS.out, hbw.alloc hbw.size _⟩
            case measure => simp [intOf]; omega
        · have hd : decide (x.1 = c) = false := decide_eq_false hcx
          have HS := Lib.hid (grantsL_skip hxk stop hx (fun h => hcx h.1))
          clear hx hxk hcx
          gi_wp2_with fail
          refine ⟨fun _ h => (by cases h), ?_⟩
          gi_wp2_with fail
          go_roundw
          case rel => exact ⟨k + 1, rfl, by omega, HS.out, hbw.alloc hbw.size _⟩
          case measure => simp [intOf]; omega
      · have HX : Hid ((grantsOf fr c b).any stop = false) := by
          rw [List.take_of_length_le (by have := LG.out; omega)] at hx
          exact hx
        clear hx
        gi_wp2_with fail
        obtain ⟨wo, rfl⟩ : ∃ wo : World, wo = wr := ⟨_, rfl⟩
        gi_loopw [49] (fun i wr2 => ∃ k : Nat, i = .int .i64 k ∧ k ≤ b.usesL ∧ Below Wb.heap.size Wb wr2) (fun i _ => b.usesL - (intOf i).toNat)
        case atStart => exact ⟨0, rfl, by omega, hbw⟩
        case round =>
          clear hbw hc' hf'
          obtain ⟨k2, rfl, hk2, hbw⟩ := hrel
          obtain ⟨hc', hf'⟩ := bcell hbw
          have z1' : W.heap.size < wr.heap.size := by have := hbw.size; omega
          have z4' : Bg < wr.heap.size := by have := hbw.size; omega
          by_cases hlt2 : k2 < b.usesL
          · obtain ⟨x, hxk⟩ : ∃ x, b.us[k2]? = some x := ⟨b.us[k2]'(by rw [← LU.out]; exact hlt2), List.getElem?_eq_getElem _⟩
            obtain ⟨bb, off, hix, d0, d1, d2, d3⟩ := us_at (hub.below hbw (Nat.le_refl _)) hxk
            clear hxk
            gi_wp2_with fail
            refine ⟨fun _ h => (by cases h), ?_⟩
            gi_wp2_with fail
            go_roundw
            case rel => exact ⟨k2 + 1, rfl, by omega, hbw.alloc hbw.size _⟩
            case measure => simp [intOf]; omega
          · gi_wp2_with fail
            exact ⟨HX.out, by rw [← HWb.out]; exact hbw⟩
  case done =>
    intro W2 hst hb2 hK
    gi_wp2_with fail
    refine ⟨by simp, .inl ⟨_, _, rfl, run_takeDeferred hK, ?_⟩⟩
    exact ⟨_, results_none rfl _ _ _, ⟨_, rfl⟩, .inl ⟨any_flatMap_false hst, (hBl.trans (hb2.mono (by omega))).trans (below_putObj _ (by omega))⟩⟩
  case stop =>
    intro W2 hst hj hK
    gi_wp2_with fail
    refine ⟨by simp, .inl ⟨_, _, rfl, run_takeDeferred hK, ?_⟩⟩
    exact ⟨_, results_none rfl _ _ _, ⟨_, rfl⟩, .inr ⟨any_flatMap_true hst, HJ.out _ _ hj (below_putObj _ (by omega))⟩⟩

end Go.Proofs.Ytadiocpcpjbjpaa

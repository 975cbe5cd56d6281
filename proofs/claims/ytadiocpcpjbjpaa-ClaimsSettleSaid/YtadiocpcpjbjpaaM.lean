import Derived.Test.YtadiocpcpjbjpaaK
import Derived.Deep.DeepCutAuto
namespace Go.Proofs.Ytadiocpcpjbjpaa
open Go.RowKit

/-! ### Rows of what is heard, and tables, in memory -/
def boV (b : Bool) : List Value := [.bool b]
def HearsOk (w : World) (v : Value) (hs : List (List Bool)) : Prop :=
  ∃ vs : List (Option Addr × Nat), Rows 1 w v ((vs.zip hs).map fun p => [.slice p.1.1 p.2.length p.1.2]) ∧ vs.length = hs.length ∧ ∀ p ∈ vs.zip hs, Rows 1 w (.slice p.1.1 p.2.length p.1.2) (p.2.map boV)
def TabsOk (w : World) (v : Value) (ts : List Tb) : Prop := Rows 3 w v (ts.map tbV) ∧ ∀ t ∈ ts, TbOk w t

theorem HearsOk.below {n : Nat} {w w' : World} {v : Value} {hs : List (List Bool)} (h : HearsOk w v hs) (hb : Below n w w') (hn : w.heap.size ≤ n) : HearsOk w' v hs := by
  obtain ⟨vs, h1, h2, h3⟩ := h
  exact ⟨vs, h1.below hb hn, h2, fun p hp => (h3 p hp).below hb hn⟩
theorem TabsOk.below {n : Nat} {w w' : World} {v : Value} {ts : List Tb} (h : TabsOk w v ts) (hb : Below n w w') (hn : w.heap.size ≤ n) : TabsOk w' v ts :=
  ⟨h.1.below hb hn, fun t ht => (h.2 t ht).below hb hn⟩
theorem HearsOk.length {w : World} {a : Option Addr} {n cap : Nat} {hs : List (List Bool)} (h : HearsOk w (.slice a n cap) hs) : n = hs.length ∧ n ≤ cap ∧ cap ≤ maxLen := by
  obtain ⟨vs, h1, h2, _⟩ := h
  obtain ⟨a', c', e, h3, h4⟩ := h1.len
  simp only [Value.slice.injEq] at e
  have h5 : ((vs.zip hs).map fun p => [Value.slice p.1.1 p.2.length p.1.2]).length = hs.length := by simp [h2]
  have h6 := e.2.1
  have h7 := e.2.2
  omega
theorem TabsOk.length {w : World} {a : Option Addr} {n cap : Nat} {ts : List Tb} (h : TabsOk w (.slice a n cap) ts) : n = ts.length ∧ n ≤ cap ∧ cap ≤ maxLen := by
  obtain ⟨a', c', e, h3, h4⟩ := h.1.len
  simp only [Value.slice.injEq] at e
  have h5 : (ts.map tbV).length = ts.length := by simp
  have h6 := e.2.1
  have h7 := e.2.2
  omega

theorem hears_at {w : World} {a : Option Addr} {n cap : Nat} {hs : List (List Bool)} (h : HearsOk w (.slice a n cap) hs) {i : Nat} {row : List Bool} (hi : hs[i]? = some row) :
    ∃ b off ra rc, (∀ W, (Instr.indexAt 40 (.slice a n cap) (.int .i64 (i : Int))).run Try.prog W = .ok (.pointer (some ⟨b, off + i, none⟩)) W) ∧
      w.cell? ⟨b, off + i, none⟩ = some (.slice ra row.length rc) ∧ Rows 1 w (.slice ra row.length rc) (row.map boV) := by
  obtain ⟨vs, h1, h2, h3⟩ := h
  have hlt : i < hs.length := (List.getElem?_eq_some_iff.1 hi).1
  obtain ⟨x, hx⟩ : ∃ x, vs[i]? = some x := ⟨vs[i]'(by omega), List.getElem?_eq_getElem _⟩
  have hz : (vs.zip hs)[i]? = some (x, row) := List.getElem?_zip_eq_some.2 ⟨hx, hi⟩
  obtain ⟨b, off, g1, g2⟩ := h1.at (T := 40) (e := 49) Try.underlying40 rfl sz49 (i := i) (cs := [.slice x.1 row.length x.2]) (by simp [hz])
  exact ⟨b, off, x.1, x.2, fun W => by simpa using g1 W, by simpa using g2 0 _ rfl, h3 _ (List.mem_of_getElem? hz)⟩

theorem bit_at {w : World} {a : Option Addr} {n cap : Nat} {row : List Bool} (h : Rows 1 w (.slice a n cap) (row.map boV)) {i : Nat} {x : Bool} (hi : row[i]? = some x) :
    ∃ b off, (∀ W, (Instr.indexAt 49 (.slice a n cap) (.int .i64 (i : Int))).run Try.prog W = .ok (.pointer (some ⟨b, off + i, none⟩)) W) ∧ w.cell? ⟨b, off + i, none⟩ = some (.bool x) := by
  obtain ⟨b, off, g1, g2⟩ := h.at (T := 49) (e := 4) Try.underlying49 rfl sz4 (i := i) (cs := boV x) (by simp [hi])
  exact ⟨b, off, fun W => by simpa using g1 W, by simpa using g2 0 _ rfl⟩

theorem tab_at {w : World} {a : Option Addr} {n cap : Nat} {ts : List Tb} (h : TabsOk w (.slice a n cap) ts) {i : Nat} {t : Tb} (hi : ts[i]? = some t) :
    ∃ b off, (∀ W, (Instr.indexAt 41 (.slice a n cap) (.int .i64 (i : Int))).run Try.prog W = .ok (.pointer (some ⟨b, off + i * 3, none⟩)) W) ∧
      w.cell? ⟨b, off + i * 3, none⟩ = some (.slice t.uA t.uL t.uC) ∧ w.cell? ⟨b, off + i * 3 + 1, none⟩ = some (.slice t.gA t.gL t.gC) ∧ w.cell? ⟨b, off + i * 3 + 2, none⟩ = some (.slice t.kA t.kL t.kC) ∧ TbOk w t := by
  obtain ⟨b, off, h1, h2⟩ := h.1.at (T := 41) (e := 26) Try.underlying41 rfl sz26 (i := i) (cs := tbV t) (by simp [hi])
  exact ⟨b, off, h1, h2 0 _ rfl, h2 1 _ rfl, h2 2 _ rfl, h.2 t (List.mem_of_getElem? hi)⟩

/-! ### What Clashes computes -/
/-- The senders of the first tables. -/
def sentTo (ts : List Tb) (k : Nat) : List (Cl × Int) := (List.range k).flatMap fun i => match ts[i]? with | none => [] | some t => t.us.map fun u => (u.1, (i : Int))
/-- A listener hears another sender. -/
def hitAt (P : List (Cl × Int)) (l : Nat) (g : Gr) (row : List Bool) (c : Nat) : List Ch :=
  if row[c]? = some true ∧ (c : Int) ≠ l ∧ (c : Int) ≠ g.2.1 ∧ (g.1, (c : Int)) ∈ P then [(g.1, (l : Int), g.2.1, (c : Int))] else []
def hitsG (P : List (Cl × Int)) (fr : Int) (l : Nat) (row : List Bool) (g : Gr) : List Ch := if g.2.2.2 < fr then [] else (List.range row.length).flatMap (hitAt P l g row)
def hitsL (P : List (Cl × Int)) (fr : Int) (hs : List (List Bool)) (ts : List Tb) (l : Nat) : List Ch :=
  match ts[l]?, hs[l]? with
  | some t, some row => t.gs.flatMap (hitsG P fr l row)
  | _, _ => []
def clashesL (hs : List (List Bool)) (ts : List Tb) (fr : Int) : List Ch :=
  if hs.length = ts.length ∧ ∀ h ∈ hs, h.length = ts.length then (List.range ts.length).flatMap (hitsL (sentTo ts ts.length) fr hs ts) else []

def ClashRes (w : World) (xs : List Ch) (e : Ending) (w' : World) : Prop :=
  ∃ a cap, e = .returned (.slice a xs.length cap) ∧ Rows 5 w' (.slice a xs.length cap) (xs.map chV) ∧ Below w.heap.size w w'

theorem clash_nil {w w' : World} (h : Below w.heap.size w w') : ClashRes w [] (.returned (.slice none 0 0)) w' :=
  ⟨none, 0, rfl, ⟨none, 0, rfl, by simp, by simp, by simp, by simp⟩, h⟩

theorem sentTo_succ {ts : List Tb} {k : Nat} {t : Tb} (h : ts[k]? = some t) : sentTo ts (k + 1) = sentTo ts k ++ t.us.map fun u => (u.1, (k : Int)) := by
  simp [sentTo, List.range_succ, List.flatMap_append, h]

theorem info48 : (Try.prog.info? 48).map (fun i => (i.zero, i.size, i.bytes)) = some (some (.agg #[.int .i64 0, .int .i64 0, .int .i64 0, .int .i64 0, .int .i64 0]), 5, 40) := by kernel_rfl

theorem ch_new (W : World) (x : Ch) : ∀ j u, (chV x)[j]? = some u → (W.alloc (.cells #[.int .i64 x.1.1, .int .i64 x.1.2, .int .i64 x.2.1, .int .i64 x.2.2.1, .int .i64 x.2.2.2] 48)).cell? ((⟨W.heap.size, 0, none⟩ : Addr).add j) = some u := by
  intro j u h
  rw [Addr.add_mid]
  exact rangeAt_new W (chV x) 48 0 (chV x) (fun j v h => by rw [Nat.zero_add]; exact h) j u h
theorem chV_one (x : Ch) : ∀ u ∈ chV x, u.oneCell' = true := by
  intro c hc
  simp only [chV, List.mem_cons, List.not_mem_nil, or_false] at hc
  rcases hc with rfl | rfl | rfl | rfl | rfl <;> rfl

/-- A row of the call's own is none of another type's blocks. -/
theorem blk_append' {W w1 : World} {b base n : Nat} {cs : Array Value} {T e : TypeId} {size : Nat} {v : Value} {xs : List Value} {o : Obj} (hb : Blk W b cs T) (ho : W.ownsRow base e size v n xs) (hT : T ≠ e) (hg : (W.alloc o).grownBy w1 v.ownBlock) : Blk w1 b cs T :=
  (hb.alloc o).grown hg (fun h => by
    rcases ho.2 with ⟨hv, _⟩ | ⟨g, cap, cur, hv, _, hh, _⟩
    · rw [hv] at h; simp [Value.ownBlock] at h
    · rw [hv] at h
      simp only [Value.ownBlock, Option.some.injEq] at h
      subst h
      have := hb.symm.trans hh
      simp at this
      exact hT this.2)

/-- What the second half of Clashes keeps: the clashes so far. -/
def ClashSt (Ws : World) (M n : Nat) (v : Value) (out : List Ch) (wr : World) : Prop :=
  ∃ ag cg, v = .slice ag out.length cg ∧ out.length ≤ n ∧ wr.ownsRow M 48 5 (.slice ag out.length cg) out.length (out.map chV).flatten ∧ Below M Ws wr

theorem stop_here {p : Prop} (h : Hid p) : p := h.out

set_option maxRecDepth 100000 in
set_option maxHeartbeats 1000000 in
theorem clashes_any (ha ta : Option Addr) (hn hc tn tc : Nat) (fr : Int) (hs : List (List Bool)) (ts : List Tb) (w : World) (hH : HearsOk w (.slice ha hn hc) hs) (hT : TabsOk w (.slice ta tn tc) ts)
    (h12 : tn ≤ 12) (h40 : ∀ t ∈ ts, t.uL ≤ 40 ∧ t.gL ≤ 40) :
    Calls Try.prog 17 #[.slice ha hn hc, .slice ta tn tc, .int .i64 fr] w (ClashRes w (clashesL hs ts fr)) := by
  have LH := Lib.hid hH.length
  have LT := Lib.hid hT.length
  go_enter Try.func17, Try.ntmps17
  by_cases hlen : hn = tn
  case neg =>
    have hx : clashesL hs ts fr = [] := by
      have h1 := LH.out.1
      have h2 := LT.out.1
      unfold clashesL
      rw [if_neg (by rintro ⟨h, _⟩; omega)]
    have hne : ((hn : Int) == (tn : Int)) = false := by simpa using fun e => hlen (by omega)
    rw [hx]
    go_wp2_with fail
    go_ret
    exact clash_nil (Below.refl _ _)
  subst hlen
  have hmm := @run_makeMap Try.prog
  go_wp2_with fail
  refine wp_name ?_
  intro W0 hW0
  have hS0 : SendersAt W0 w.heap.size w.heap.size (sentTo ts 0) := by rw [hW0]; exact SendersAt.new w (Nat.le_refl _)
  have hB0 : Below w.heap.size w W0 := by rw [hW0]; exact (Below.refl _ w).alloc (Nat.le_refl _) _
  clear hW0
  go_loopw [27] (fun i wr => ∃ k : Nat, i = .int .i64 k ∧ k ≤ hn ∧ SendersAt wr w.heap.size w.heap.size (sentTo ts k) ∧ Below w.heap.size w wr ∧ ∀ j row, j < k → hs[j]? = some row → row.length = hn) (fun i _ => hn - (intOf i).toNat)
  case atStart => exact ⟨0, rfl, by omega, hS0, hB0, by omega⟩
  case round =>
    obtain ⟨k, rfl, hk, hS, hB, hrows⟩ := hrel
    clear hS0 hB0
    by_cases hlt : k < hn
    · obtain ⟨t, htk⟩ : ∃ t, ts[k]? = some t := ⟨ts[k]'(by have := LT.out.1; omega), List.getElem?_eq_getElem _⟩
      obtain ⟨row, hrk⟩ : ∃ row, hs[k]? = some row := ⟨hs[k]'(by have := LH.out.1; omega), List.getElem?_eq_getElem _⟩
      obtain ⟨b, off, hix, d0, d1, d2, tok⟩ := tab_at (hT.below hB (Nat.le_refl _)) htk
      obtain ⟨b', off', ra, rc, hix', e0, rok⟩ := hears_at (hH.below hB (Nat.le_refl _)) hrk
      have zb := cell_block d0
      have zb' := cell_block e0
      by_cases hl2 : row.length = hn
      case neg =>
        have hx : clashesL hs ts fr = [] := by
          unfold clashesL
          rw [if_neg (by rintro ⟨h, h2⟩; exact hl2 ((h2 row (List.mem_of_getElem? hrk)).trans LT.out.1.symm))]
        have hne : ((row.length : Int) == (hn : Int)) = false := by simpa using fun e => hl2 (by omega)
        rw [hx]
        go_wp2_with fail
        go_ret
        exact clash_nil (hB.alloc hB.size _)
      have hR := Lib.hid hl2
      rw [hl2] at e0
      clear hl2
      have hR1 : Hid (∀ j row, j < k + 1 → hs[j]? = some row → row.length = hn) := Lib.hid (by
        intro j r hj hr
        by_cases hjk : j = k
        · subst hjk
          rw [hrk, Option.some.injEq] at hr
          rw [← hr]
          exact hR.out
        · exact hrows j r (by omega) hr)
      clear hrows
      have tok0 := (hT.2 t (List.mem_of_getElem? htk)).1
      have hLU := Lib.hid tok0.length.1
      have hu40 := (h40 t (List.mem_of_getElem? htk)).1
      go_wp2_with fail
      refine wp_name ?_
      intro W1 hW1
      have hB1 : Below wr.heap.size wr W1 := by rw [hW1]; exact (Below.refl _ _).alloc (Nat.le_refl _) _
      have hS1 := hS.below hB1 (Nat.le_refl _)
      have hB01 : Below w.heap.size w W1 := hB.trans (hB1.mono hB.size)
      clear hW1 hix d0 d1 d2 tok hix' e0 rok hS hB zb zb'
      clear hB1
      obtain ⟨wo, rfl⟩ : ∃ wo : World, wo = wr := ⟨_, rfl⟩
      go_loopw [43] (fun i wr => ∃ j : Nat, i = .int .i64 j ∧ j ≤ t.uL ∧ SendersAt wr w.heap.size w.heap.size (sentTo ts k ++ (t.us.take j).map fun u => (u.1, (k : Int))) ∧ Below w.heap.size w wr) (fun i _ => t.uL - (intOf i).toNat)
      case atStart => exact ⟨0, rfl, by omega, by simpa using hS1, hB01⟩
      case round =>
        clear hS1 hB01
        obtain ⟨j, rfl, hj, hS, hB⟩ := hrel
        by_cases hltj : j < t.uL
        · obtain ⟨x, hxj⟩ : ∃ x, t.us[j]? = some x := ⟨t.us[j]'(by have := hLU.out; simp at this; omega), List.getElem?_eq_getElem _⟩
          obtain ⟨b, off, hix, d0, d1, d2, d3⟩ := us_at (tok0.below hB (Nat.le_refl _)) hxj
          go_upto_region 12 with fail
          refine wp_name ?_
          intro W2 hW2
          have s0 : W2.cell? ⟨wr.heap.size, 0, none⟩ = some (.int .i64 x.1.1) := by rw [hW2]; go_simp
          have s1 : W2.cell? ⟨wr.heap.size, 1, none⟩ = some (.int .i64 x.1.2) := by rw [hW2]; go_simp
          have hB2 : Below wr.heap.size wr W2 := by rw [hW2]; exact (Below.refl _ _).alloc (Nat.le_refl _) _
          have hS2 := hS.below hB2 (Nat.le_refl _)
          have hB02 : Below w.heap.size w W2 := hB.trans (hB2.mono hB.size)
          have hnext : (sentTo ts k ++ (t.us.take (j + 1)).map fun u => (u.1, (k : Int))) = (sentTo ts k ++ (t.us.take j).map fun u => (u.1, (k : Int))) ++ [(x.1, (k : Int))] := by
            rw [List.take_add_one, hxj, List.map_append, List.append_assoc]
            rfl
          have HN := Lib.hid hnext
          have HJ := Lib.hid hxj
          have z2 : wr.heap.size < W2.heap.size := cell_block s0
          clear hW2 hB2 hix d0 d1 d2 d3 hS hB hnext hxj
          obtain ⟨o, hl, _⟩ := hS2.look x.1
          have qn : ∀ (w : World) (r : Option Nat), (binOp .eql 85 (.map r) (.map none)).run Try.prog w = .ok (.bool r.isNone) w := fun w r => run_eql_map_nil w _ _ _ r Try.underlying85
          cases o with
          | none =>
            obtain ⟨W3, hu, hS3, hB3, hkc, hz3, hl3⟩ := hS2.ensure hB02.size x.1 hl
            have p0 := hkc _ _ _ s0
            have p1 := hkc _ _ _ s1
            obtain ⟨W4, hu2, hS4, hB4, hkc4, hz4⟩ := hS3.add x.1 (k : Int) hl3
            have hz23 : wr.heap.size < W3.heap.size := by omega
            have q0 := hkc4 _ _ _ p0
            have hBB := Lib.hid (hB02.trans (hB3.trans hB4))
            clear hS2 hS3 hB3 hB4 hkc hkc4 hB02
            go_wp2_with fail
            exact ⟨⟨j + 1, by simp, by omega, by rw [HN.out]; exact hS4, hBB.out⟩, by simp [intOf]; omega⟩
          | some r =>
            obtain ⟨W4, hu2, hS4, hB4, hkc4, hz4⟩ := hS2.add x.1 (k : Int) hl
            have hBB := Lib.hid (hB02.trans hB4)
            clear hS2 hB4 hkc4 hB02
            go_wp2_with fail
            exact ⟨⟨j + 1, by simp, by omega, by rw [HN.out]; exact hS4, hBB.out⟩, by simp [intOf]; omega⟩
        · go_wp2_with fail
          refine ⟨⟨k + 1, by simp, by omega, ?_, hB, hR1.out⟩, by simp [intOf]; omega⟩
          have hall : t.us.take j = t.us := List.take_of_length_le (by have := hLU.out; simp at this; omega)
          rw [sentTo_succ htk, ← hall]
          exact hS
    · have hkn : k = hn := by omega
      subst hkn
      obtain ⟨P, hP⟩ : ∃ P, sentTo ts k = P := ⟨_, rfl⟩
      have hCl : clashesL hs ts fr = (List.range k).flatMap (hitsL P fr hs ts) := by
        have h1 := LH.out.1
        have h2 := LT.out.1
        unfold clashesL
        rw [if_pos ⟨by omega, fun h hm => by
          obtain ⟨i, hi, rfl⟩ := List.getElem_of_mem hm
          rw [← h2]
          exact hrows i _ (by omega) (List.getElem?_eq_getElem hi)⟩, ← h2, hP]
      rw [hP] at hS
      have HR := Lib.hid hrows
      have HCL := Lib.hid hCl
      clear hP hCl hrows
      obtain ⟨Ws, rfl⟩ : ∃ Ws : World, Ws = wr := ⟨_, rfl⟩
      obtain ⟨M, hM⟩ : ∃ M, Ws.heap.size = M := ⟨_, rfl⟩
      have HM := Lib.hid hM
      have hlo := hB.size
      have hH' := hH.below hB (Nat.le_refl _)
      have hT' := hT.below hB (Nat.le_refl _)
      clear hM
      go_wp2_with fail
      go_loopw [12, 65] (fun v i wr => ∃ (k1 : Nat) (out : List Ch), i = .int .i64 k1 ∧ k1 ≤ k ∧ out = (List.range k1).flatMap (hitsL P fr hs ts) ∧ ClashSt Ws M (k1 * 800) v out wr) (fun _ i _ => k - (intOf i).toNat)
      case atStart => exact ⟨0, [], rfl, by omega, rfl, none, 0, rfl, by simp, World.ownsRow_nil _ _ _ _, Below.refl _ _⟩
      case round =>
        obtain ⟨k1, out, rfl, hk1, hout, ag, cg, rfl, hol, own, hB1⟩ := hrel
        have HO1 := Lib.hid hout
        clear hout
        by_cases hlt1 : k1 < k
        · obtain ⟨t, htk⟩ : ∃ t, ts[k1]? = some t := ⟨ts[k1]'(by have := LT.out.1; omega), List.getElem?_eq_getElem _⟩
          obtain ⟨row, hrk⟩ : ∃ row, hs[k1]? = some row := ⟨hs[k1]'(by have := LH.out.1; omega), List.getElem?_eq_getElem _⟩
          obtain ⟨b, off, hix, d0, d1, d2, tok⟩ := tab_at (hT'.below hB1 (by have := HM.out; omega)) htk
          have zb := cell_block d0
          have tok0 := (hT'.2 t (List.mem_of_getElem? htk)).2.1
          have hLG := Lib.hid tok0.length.1
          have hg40 := (h40 t (List.mem_of_getElem? htk)).2
          have HRL := Lib.hid (HR.out k1 row hlt1 hrk)
          have hr12 : row.length ≤ 12 := by have := HRL.out; omega
          obtain ⟨b', off', ra, rc, hix', e0, rok⟩ := hears_at hH' hrk
          have zb' := cell_block e0
          have HTK := Lib.hid htk
          have HRK := Lib.hid hrk
          have HIX := Lib.hid hix'
          have HE := Lib.hid e0
          clear htk hrk tok hix' e0
          go_wp2_with fail
          refine wp_name ?_
          intro W1 hW1
          have hBa : Below wr.heap.size wr W1 := by rw [hW1]; exact (Below.refl _ _).alloc (Nat.le_refl _) _
          have own1 := owns_below own hBa (Nat.le_refl _)
          have hB2 : Below M Ws W1 := hB1.trans (hBa.mono (by have := HM.out; have := hB1.size; omega))
          clear hW1 hix d0 d1 d2 own hB1 hBa zb
          obtain ⟨wo, rfl⟩ : ∃ wo : World, wo = wr := ⟨_, rfl⟩
          go_loopw [12, 73] (fun v i wr => ∃ (j : Nat) (out2 : List Ch), i = .int .i64 j ∧ j ≤ t.gL ∧ out2 = out ++ (t.gs.take j).flatMap (hitsG P fr k1 row) ∧ ClashSt Ws M (k1 * 800 + j * 20) v out2 wr) (fun _ i _ => t.gL - (intOf i).toNat)
          case atStart => exact ⟨0, out, rfl, by omega, by simp, ag, cg, rfl, by omega, own1, hB2⟩
          case round =>
            clear own1 hB2 hol
            obtain ⟨j, out2, rfl, hj, hout2, ag2, cg2, rfl, hol, own, hB1⟩ := hrel
            have HO := Lib.hid hout2
            clear hout2
            by_cases hltj : j < t.gL
            · obtain ⟨x, hxj⟩ : ∃ x, t.gs[j]? = some x := ⟨t.gs[j]'(by have := hLG.out; simp at this; omega), List.getElem?_eq_getElem _⟩
              obtain ⟨b, off, hix, d0, d1, d2, d3, d4⟩ := gr_at (tok0.below hB1 (by have := HM.out; omega)) hxj
              have hix' := HIX.out
              have e0 := (hB1.cell (p := ⟨b', off' + k1, none⟩) (by have := HM.out; show b' < M; omega)).trans HE.out
              have zb2 := cell_block e0
              have HXJ := Lib.hid hxj
              clear hxj
              by_cases hun : x.2.2.2 < fr
              · have hnext : out ++ (t.gs.take (j + 1)).flatMap (hitsG P fr k1 row) = out2 := by
                  rw [HO.out, List.take_add_one, HXJ.out, List.flatMap_append]
                  simp [hitsG, hun]
                have HN := Lib.hid hnext
                clear hnext
                have hun' : decide (x.2.2.2 < fr) = true := decide_eq_true hun
                go_wp2_with fail
                exact ⟨⟨j + 1, out2, by simp, by omega, HN.out.symm, ag2, cg2, rfl, by omega, own.alloc _, hB1.alloc (by have := HM.out; have := hB1.size; omega) _⟩, by simp [intOf]; omega⟩
              · have hun' : decide (x.2.2.2 < fr) = false := decide_eq_false hun
                go_wp2_with fail
                refine wp_name ?_
                intro W2 hW2
                have bx : Blk W2 wr.heap.size (grV x).toArray 38 := by rw [hW2]; exact Blk.new _ _ _
                have hBa : Below wr.heap.size wr W2 := by rw [hW2]; exact (Below.refl _ _).alloc (Nat.le_refl _) _
                have hsz : Ws.heap.size ≤ wr.heap.size := hB1.size
                have own2 := owns_below own hBa (Nat.le_refl _)
                have hB2 : Below M Ws W2 := hB1.trans (hBa.mono (by have := HM.out; omega))
                have hMx : M ≤ wr.heap.size := by have := HM.out; omega
                clear hW2 hix d0 d1 d2 d3 d4 own hB1 hix' zb2 hun' hBa e0
                obtain ⟨bR, hbR⟩ : ∃ bR, wr.heap.size = bR := ⟨_, rfl⟩
                rw [hbR] at bx hMx
                obtain ⟨wp, rfl⟩ : ∃ wp : World, wp = wr := ⟨_, rfl⟩
                rw [hbR]
                go_loopw [12, 86] (fun v i wr => ∃ (m : Nat) (out3 : List Ch), i = .int .i64 m ∧ m ≤ row.length ∧ out3 = out2 ++ (List.range m).flatMap (hitAt P k1 x row) ∧ ClashSt Ws M (k1 * 800 + j * 20 + m) v out3 wr ∧ Blk wr bR (grV x).toArray 38) (fun _ i _ => row.length - (intOf i).toNat)
                case atStart => exact ⟨0, out2, rfl, by omega, by simp, ⟨ag2, cg2, rfl, by omega, own2, hB2⟩, bx⟩
                case round =>
                  clear own2 hB2 bx
                  obtain ⟨m, out3, rfl, hm, hout3, ⟨ag3, cg3, rfl, hol3, own, hB1⟩, bx⟩ := hrel
                  have HO3 := Lib.hid hout3
                  clear hout3
                  by_cases hltm : m < row.length
                  · obtain ⟨y, hy⟩ : ∃ y, row[m]? = some y := ⟨row[m], List.getElem?_eq_getElem _⟩
                    obtain ⟨b, off, hix, d0⟩ := bit_at (rok.below hB1 (by have := HM.out; omega)) hy
                    have zb := cell_block d0
                    have c0 := bx.cell 0
                    have c1 := bx.cell 1
                    have c2 := bx.cell 2
                    simp only [grV, List.getElem?_toArray, List.getElem?_cons_zero, List.getElem?_cons_succ] at c0 c1 c2
                    have zR := bx.lt
                    obtain ⟨o, hl, hl2⟩ := (hS.below hB1 (by have := HM.out; omega)).look x.1
                    have hl3 := hl2 (m : Int)
                    clear hl2
                    have hskip : hitAt P k1 x row m = [] → out3 = out2 ++ (List.range (m + 1)).flatMap (hitAt P k1 x row) := fun h => by
                      rw [HO3.out, List.range_succ, List.flatMap_append]
                      simp [h]
                    have hkeep : hitAt P k1 x row m = [(x.1, (k1 : Int), x.2.1, (m : Int))] → out3 ++ [(x.1, (k1 : Int), x.2.1, (m : Int))] = out2 ++ (List.range (m + 1)).flatMap (hitAt P k1 x row) := fun h => by
                      rw [HO3.out, List.range_succ, List.flatMap_append]
                      simp [h]
                    have HSK := Lib.hid hskip
                    have HKE := Lib.hid hkeep
                    have HB1 := Lib.hid hB1
                    have HBX := Lib.hid bx
                    have OW := Lib.hid own
                    have HY := Lib.hid hy
                    clear hskip hkeep hB1 bx own hy
                    have hMW : M ≤ wr.heap.size := by have := HB1.out.size; have := HM.out; omega
                    cases y with
                    | false =>
                      have hsk := HSK.out (by simp [hitAt, HY.out])
                      have HK := Lib.hid hsk
                      clear hsk
                      go_wp2_with fail
                      exact ⟨⟨m + 1, out3, by simp, by omega, HK.out, ⟨ag3, cg3, rfl, by omega, OW.out, HB1.out⟩, HBX.out⟩, by simp [intOf]; omega⟩
                    | true =>
                      by_cases h1 : (m : Int) = k1
                      · have hsk := HSK.out (by simp [hitAt, h1])
                        have HK := Lib.hid hsk
                        have h1' : k1 = m := by omega
                        clear hsk h1
                        subst h1'
                        go_wp2_with fail
                        exact ⟨⟨k1 + 1, out3, by simp, by omega, HK.out, ⟨ag3, cg3, rfl, by omega, OW.out, HB1.out⟩, HBX.out⟩, by simp [intOf]; omega⟩
                      · have h1' : ((m : Int) == (k1 : Int)) = false := by simpa using h1
                        have h1n : ((m : Int) != (k1 : Int)) = true := by simpa using h1
                        by_cases h2 : (m : Int) = x.2.1
                        · have hsk := HSK.out (by simp [hitAt, h2])
                          have HK := Lib.hid hsk
                          have h2' : x.2.1 = (m : Int) := h2.symm
                          clear hsk h2
                          go_wp2_with fail
                          all_goals first
                            | exact ⟨⟨m + 1, out3, by simp, by omega, HK.out, ⟨ag3, cg3, rfl, by omega, OW.out, HB1.out⟩, HBX.out⟩, by simp [intOf]; omega⟩
                            | exact ⟨⟨.slice ag3 out3.length cg3, .int .i64 m, .bool true, .int .i64 (m + 1), ⟨m + 1, by simp, by omega, ⟨ag3, cg3, by rw [← HK.out], by rw [← HK.out]; omega, by rw [← HK.out]; exact OW.out, HB1.out⟩, HBX.out⟩, rfl, rfl, rfl, rfl⟩, by simp [intOf]; omega⟩
                        · have h2' : ((m : Int) == x.2.1) = false := by simpa using h2
                          have h2n : ((m : Int) != x.2.1) = true := by simpa using h2
                          by_cases h3 : (x.1, (m : Int)) ∈ P
                          · rw [decide_eq_true h3] at hl3
                            have hke := HKE.out (by rw [hitAt, if_pos ⟨HY.out, h1, h2, h3⟩])
                            have HK := Lib.hid hke
                            clear hke
                            obtain ⟨i0, hi, hz0, hz1, hz2⟩ := info_parts info48
                            go_wp2_with (at_builtin; refine wpList_append_own _ rfl _ _ 45 rfl M 48 i0 (.agg #[.int .i64 0, .int .i64 0, .int .i64 0, .int .i64 0, .int .i64 0]) 5 40 Try.underlying45 hi hz0 hz1 hz2 rfl (by decide) _ _ _ rfl (OW.out.alloc _) ⟨wr.heap.size, 0, none⟩ 1 1 (chV (x.1, (k1 : Int), x.2.1, (m : Int))) rfl rfl (ch_new wr (x.1, (k1 : Int), x.2.1, (m : Int))) (chV_one _) (by unfold maxLen; omega) (by omega) (by simp; omega) ?_; intro v' w1 hown' hgrow _; obtain ⟨g', cap', rfl⟩ := ownsRow_succ hown'; have bx' := blk_append' HBX.out OW.out (by decide) hgrow; have BX1 := Lib.hid bx'; have OW1 := Lib.hid hown'; have HG := Lib.hid hgrow; clear bx' hown' hgrow)
                            refine ⟨⟨m + 1, out3 ++ [(x.1, (k1 : Int), x.2.1, (m : Int))], by simp, by omega, HK.out, ⟨some ⟨g', 0, none⟩, cap', by simp, by simp; omega, ?_, ?_⟩, BX1.out⟩, by simp [intOf]; omega⟩
                            · rw [List.map_append, List.flatten_append, List.length_append]
                              simp only [List.map_cons, List.map_nil, List.flatten_cons, List.flatten_nil, List.append_nil, List.length_cons, List.length_nil]
                              exact OW1.out
                            · exact (HB1.out.alloc (by omega) _).grown HG.out (by simp; omega) (fun k e => (OW.out.lt k e).1)
                          · rw [decide_eq_false h3] at hl3
                            have hsk := HSK.out (by rw [hitAt, if_neg (fun h => h3 h.2.2.2)])
                            have HK := Lib.hid hsk
                            clear hsk
                            go_wp2_with fail
                            exact ⟨⟨m + 1, out3, by simp, by omega, HK.out, ⟨ag3, cg3, rfl, by omega, OW.out, HB1.out⟩, HBX.out⟩, by simp [intOf]; omega⟩
                  · go_wp2_with fail
                    refine ⟨⟨j + 1, out3, by simp, by omega, ?_, ag3, cg3, rfl, by have := HRL.out; omega, own, hB1⟩, by simp [intOf]; omega⟩
                    have hmr : m = row.length := by omega
                    rw [HO3.out, HO.out, List.take_add_one, HXJ.out, List.flatMap_append, hmr]
                    have hgg : hitsG P fr k1 row x = (List.range row.length).flatMap (hitAt P k1 x row) := if_neg (Int.not_lt.2 hun)
                    simp [hgg]
            · go_wp2_with fail
              have hjg : t.gs.take j = t.gs := List.take_of_length_le (by have := hLG.out; simp at this; omega)
              refine ⟨⟨k1 + 1, out2, by simp, by omega, ?_, ag2, cg2, rfl, by omega, own, hB1⟩, by simp [intOf]; omega⟩
              rw [HO.out, hjg, List.range_succ, List.flatMap_append, HO1.out]
              simp [hitsL, HTK.out, HRK.out]
        · go_wp2_with fail
          have hkk : k1 = k := by omega
          rw [hkk] at HO1
          rw [HCL.out, ← HO1.out]
          refine bodyPost_ret (v := .slice ag out.length cg) (by simp [results, Try.results17, go_sem]) rfl ⟨ag, cg, rfl, ?_, ?_⟩
          · exact owns_rows own (out.map chV) (by simp) rfl (by intro cs h; obtain ⟨x, _, rfl⟩ := List.mem_map.1 h; rfl)
          · exact hB.trans (hB1.mono (by have := HM.out; omega))

end Go.Proofs.Ytadiocpcpjbjpaa

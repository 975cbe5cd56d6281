import Derived.Test.YtadiocpcpjbjpaaSb
import Derived.Test.YtadiocpcpjbjpaaPc
namespace Go.Proofs.Ytadiocpcpjbjpaa
open Go.RowKit

def vOf {b v : Bool} (_ : b = v) : Bool := v
theorem vOf_eq {b v : Bool} (h : b = v) : vOf h = b := h.symm

def SymSt (w : World) (g n i : Nat) (wr : World) : Prop := wr.heap.size = g + 1 + i ∧ Blk wr g (outV g n i) 49 ∧ (∀ a, a < i → Blk wr (g + 1 + a) (rowV (fun _ _ => false) n a) 4) ∧ Below w.heap.size w wr

theorem MatAt.step {w0 w w' : World} {g n i k : Nat} {hs : List (List Bool)} {v : Bool} (h : MatAt w0 g n (partB hs i k) w) (hki : k < i) (hin : i < n) (hv : atB hs i k = v) (hK : Kept w (fun x => x = g + 1 + i ∨ x = g + 1 + k) w')
    (h1 : Blk w' (g + 1 + i) ((rowV (partB hs i k) n i).setIfInBounds k (.bool v)) 4) (h2 : Blk w' (g + 1 + k) ((rowV (partB hs i k) n k).setIfInBounds i (.bool v)) 4) : MatAt w0 g n (partB hs i (k + 1)) w' := by
  obtain ⟨m1, m2, m3, m4⟩ := h
  refine ⟨hK.blk m1 (by omega), fun a ha => ?_, hK.below m3 (by have := m1.lt; omega) (fun x hx => by omega), m4⟩
  by_cases e1 : a = i
  · subst e1
    rw [rowV_set (M' := partB hs a (k + 1)) (by rw [part_next hki, if_pos (.inl ⟨rfl, rfl⟩), hv]) (fun c hc => by rw [part_next hki, if_neg (by omega)])] at h1
    exact h1
  · by_cases e2 : a = k
    · subst e2
      rw [rowV_set (M' := partB hs i (a + 1)) (by rw [part_next hki, if_pos (.inr ⟨rfl, rfl⟩), hv]) (fun c hc => by rw [part_next hki, if_neg (by omega)])] at h2
      exact h2
    · rw [rowV_congr (M' := partB hs i k) (fun b _ => by rw [part_next hki, if_neg (by omega)])]
      exact hK.blk (m2 a ha) (by omega)
theorem MatAt.congr {w0 w : World} {g n : Nat} {M M' : Nat → Nat → Bool} (h : MatAt w0 g n M w) (hM : ∀ a b, a < n → b < n → M a b = M' a b) : MatAt w0 g n M' w :=
  ⟨h.1, fun a ha => by rw [← rowV_congr (fun b hb => hM a b ha hb)]; exact h.2.1 a ha, h.2.2⟩

set_option maxRecDepth 100000 in
set_option maxHeartbeats 4000000 in
theorem symmetric_any (ha : Option Addr) (hn hc n : Nat) (hs : List (List Bool)) (w : World) (hH : HearsOk w (.slice ha hn hc) hs) (h12 : n ≤ 12) :
    Calls Try.prog 22 #[.slice ha hn hc, .int .i64 n] w fun e w' => ∃ g, e = .returned (.slice (some ⟨g, 0, none⟩) n n) ∧ MatAt w g n (symB hs) w' := by
  have LH := Lib.hid hH.length
  have mh : hn ≤ 9223372036854775807 := by have := LH.out; unfold maxLen at this; omega
  have hmk := mk_nils (n := n) (by omega)
  go_enter Try.func22, Try.ntmps22
  go_upto_region 2 with fail
  clear hmk
  refine wp_name ?_
  intro W1 hW1
  obtain ⟨g, hg⟩ : ∃ g, w.heap.size = g := ⟨_, rfl⟩
  have hS1 : SymSt w g n 0 W1 := by
    rw [hW1, ← hg]
    refine ⟨by simp, ?_, fun a h => by omega, (Below.refl _ _).alloc (Nat.le_refl _) _⟩
    rw [← outV_zero]
    exact Blk.new _ _ _
  rw [hg]
  have HG := Lib.hid hg
  clear hW1 hg
  go_wp2_with fail
  go_loopw [14] (fun i wr => ∃ k : Nat, i = .int .i64 k ∧ k ≤ n ∧ SymSt w g n k wr) (fun i _ => n - (intOf i).toNat)
  case atStart => exact ⟨0, rfl, by omega, hS1⟩
  case round =>
    clear hS1
    obtain ⟨k, rfl, hk, hsz, ho, hr, hB⟩ := hrel
    by_cases hlt : k < n
    · have hmk := mk_bools (n := n) (by omega)
      have hix := index_own (T := 40) Try.underlying40 rfl sz49 (g := g) (n := n) (cap := n) (i := k) hlt
      rw [Nat.mul_one] at hix
      have c0 : wr.cell? ⟨g, k, none⟩ = some (.slice none 0 0) := by rw [ho.cell, outV_get hlt, if_neg (by omega)]
      have f0 := ho.frozen k
      have zg := ho.lt
      have HO := Lib.hid ho
      have HR := Lib.hid hr
      have HSZ := Lib.hid hsz
      have HB := Lib.hid hB
      clear ho hr hsz hB
      go_upto_region 6 with fail
      clear hmk hix c0 f0
      refine wp_name ?_
      intro W2 hW2
      have hsz2 : W2.heap.size = g + 1 + (k + 1) := by rw [hW2]; simp; have := HSZ.out; omega
      have hS2 : SymSt w g n (k + 1) W2 := by
        refine ⟨hsz2, ?_, fun a ha => ?_, ?_⟩
        · rw [← outV_set, hW2, HSZ.out]
          first
            | exact (HO.out.set k _).alloc _
            | exact (HO.out.alloc _).set k _
        · by_cases e : a = k
          · subst e
            rw [← rowV_false, hW2]
            first
              | (have hb := Blk.new (wr.setCell ⟨g, a, none⟩ (.slice (some ⟨wr.heap.size, 0, none⟩) n n)) (Array.replicate n (.bool false)) 4
                 have hz : (wr.setCell ⟨g, a, none⟩ (.slice (some ⟨wr.heap.size, 0, none⟩) n n)).heap.size = g + 1 + a := by simp; exact HSZ.out
                 rw [hz] at hb
                 exact hb)
              | (rw [← HSZ.out]; exact (Blk.new wr _ 4).other (by have := HO.out.lt; omega) _)
          · have hb := HR.out a (by omega)
            rw [hW2]
            first
              | exact (hb.other (by omega) _).alloc _
              | exact (hb.alloc _).other (by omega) _
        · rw [hW2]
          have := HG.out
          first
            | exact (HB.out.setCell (by dsimp only; omega) _).alloc (by simp; have := HB.out.size; omega) _
            | exact (HB.out.alloc HB.out.size _).setCell (by dsimp only; omega) _
      have HS2 := Lib.hid hS2
      clear hW2 hS2 hsz2
      go_wp2_with fail
      go_roundw
      case rel => exact ⟨k + 1, rfl, by omega, HS2.out⟩
      case measure => simp [intOf]; omega
    · have hkn : k = n := by omega
      subst hkn
      have hM : MatAt w g k (partB hs 0 0) wr := ⟨ho, fun a ha => by rw [rowV_congr (M' := fun _ _ => false) (fun b _ => part_none)]; exact hr a ha, hB, by have := HG.out; omega⟩
      clear ho hr hB hsz
      go_wp2_with fail
      obtain ⟨wo, rfl⟩ : ∃ wo : World, wo = wr := ⟨_, rfl⟩
      go_loopw [24] (fun i wr => ∃ i0 : Nat, i = .int .i64 i0 ∧ i0 ≤ k ∧ MatAt w g k (partB hs i0 0) wr) (fun i _ => k - (intOf i).toNat)
      case atStart => exact ⟨0, rfl, by omega, hM⟩
      case round =>
        clear hM
        obtain ⟨i, rfl, hi, hM⟩ := hrel
        by_cases hlti : i < k
        · go_wp2_with fail
          obtain ⟨wo2, rfl⟩ : ∃ wo2 : World, wo2 = wr := ⟨_, rfl⟩
          go_loopw [28] (fun i' wr => ∃ q : Nat, i' = .int .i64 q ∧ q ≤ i ∧ MatAt w g k (partB hs i q) wr) (fun i' _ => i - (intOf i').toNat)
          case atStart => exact ⟨0, rfl, by omega, hM⟩
          case round =>
            clear hM
            obtain ⟨q, rfl, hq, hM⟩ := hrel
            by_cases hltq : q < i
            · have hix1 := index_own (T := 40) Try.underlying40 rfl sz49 (g := g) (n := k) (cap := k) (i := i) hlti
              have hix2 := index_own (T := 40) Try.underlying40 rfl sz49 (g := g) (n := k) (cap := k) (i := q) (by omega)
              have hix3 := index_own (T := 49) Try.underlying49 rfl sz4 (g := g + 1 + i) (n := k) (cap := k) (i := q) (by omega)
              have hix4 := index_own (T := 49) Try.underlying49 rfl sz4 (g := g + 1 + q) (n := k) (cap := k) (i := i) hlti
              rw [Nat.mul_one] at hix1 hix2 hix3 hix4
              have HM := Lib.hid hM
              have I1 := Lib.hid hix1
              have I2 := Lib.hid hix2
              have I3 := Lib.hid hix3
              have I4 := Lib.hid hix4
              clear hM hix1 hix2 hix3 hix4
              by_cases h1 : i < hn
              · obtain ⟨row, hrk⟩ : ∃ row, hs[i]? = some row := ⟨hs[i]'(by have := LH.out.1; omega), List.getElem?_eq_getElem _⟩
                obtain ⟨b', off', ra, rc, hix', e0, rok⟩ := hears_at (hH.below HM.out.2.2.1 (Nat.le_refl _)) hrk
                have ze := cell_block e0
                by_cases h2 : q < row.length
                · obtain ⟨y, hy⟩ : ∃ y, row[q]? = some y := ⟨row[q], List.getElem?_eq_getElem _⟩
                  obtain ⟨bb, ob, bix, q0⟩ := bit_at rok hy
                  have zq := cell_block q0
                  have hv : atB hs i q = y := by simp [atB, hrk, hy]
                  have d2 : decide (q < row.length) = true := decide_eq_true h2
                  clear hrk hy rok
                  go_upto_region 14 with fail
                  clear hix' e0 ze bix q0 zq d2
                  refine region_posts3 (ops := _) rfl (fun _ w' => Kept wr (fun x => x = g + 1 + i ∨ x = g + 1 + q) w') (pvM g k i q (vOf hv) (rowV (partB hs i q) k i) (rowV (partB hs i q) k q)) slM eatM [53, 54, 55, 56, 57, 58, 59, 60, 61, 62, 63, 64, 65, 66] 2 id (by kernel_rfl) (by kernel_rfl) (by kernel_rfl) (by kernel_rfl) (fun j f g w h hp => pvM_congr h hp) ?_ ?_ ?_ ?_
                  · exact ⟨rfl, rfl, rfl, Nat.le_refl _, fun _ _ _ => rfl⟩
                  · intro j h1 h2
                    have h1' : 16 ≤ j := h1
                    have h2' : j < 18 := h2
                    have h3 : j = 16 ∨ j = 17 := by omega
                    have hdr : Below wr.heap.size wr wr.drew := (Below.refl _ _).drew
                    rcases h3 with rfl | rfl
                    · exact (HM.out.2.1 i hlti).below hdr (HM.out.2.1 i hlti).lt
                    · exact (HM.out.2.1 q (by omega)).below hdr (HM.out.2.1 q (by omega)).lt
                  · intro z hz' KK a' w' done hO hS hcl hnd hout hdep hP hk'
                    have o5 : a'.tmps[5]?.getD undef = .slice (some ⟨g, 0, none⟩) k k := hO 5 (by kernel_rfl)
                    have o7 : a'.tmps[7]?.getD undef = .int .i64 (i : Int) := hO 7 (by kernel_rfl)
                    have o8 : a'.tmps[8]?.getD undef = .int .i64 (q : Int) := hO 8 (by kernel_rfl)
                    have o9 : a'.tmps[9]?.getD undef = .bool (vOf hv) := hO 9 (by kernel_rfl)
                    have h99 : done 99 = false := hout 99 (by decide)
                    have hP' : ∀ j, j < 18 → (j < 16 → done j = true) → done (eatM j) = false → pvM g k i q (vOf hv) (rowV (partB hs i q) k i) (rowV (partB hs i q) k q) j (slot a'.tmps) w' := hP
                    clear hP
                    have hi16 : z < 16 := hz'
                    have hPe : ∀ j, j < 16 → depOf _ z j = true → done (eatM j) = false → pvM g k i q (vOf hv) (rowV (partB hs i q) k i) (rowV (partB hs i q) k q) j (slot a'.tmps) w' := fun j h1 h2 h3 => hP' j (by omega) (fun _ => hdep j h2) h3
                    have og : Blk w' g (outV g k k) 49 := hS.blk HM.out.1 (by omega)
                    obtain ⟨vv, hvv⟩ : ∃ vv, vOf hv = vv := ⟨_, rfl⟩
                    rw [hvv] at o9 hP' hPe hk'
                    clear hvv
                    rcases z with _ | _ | _ | _ | _ | _ | _ | _ | _ | _ | _ | _ | _ | _ | _ | _ | z
                    · exact wpOp_val (v := (.slice (some ⟨g, 0, none⟩) k k)) (w' := w') rfl rfl (by go_simp) (hk' _ _ hS rfl (fun _ _ _ _ _ _ h => h))
                    · exact wpOp_val (v := (.int .i64 (i : Int))) (w' := w') rfl rfl (by go_simp) (hk' _ _ hS rfl (fun _ _ _ _ _ _ h => h))
                    · have p0 : a'.tmps[53]?.getD undef = (.slice (some ⟨g, 0, none⟩) k k) := hPe 0 (by omega) (by kernel_rfl) h99
                      have p1 : a'.tmps[54]?.getD undef = .int .i64 (i : Int) := hPe 1 (by omega) (by kernel_rfl) h99
                      have ix := I1.out
                      exact wpOp_val (v := (.pointer (some ⟨g, i, none⟩))) (w' := w') rfl rfl (by go_simp) (hk' _ _ hS rfl (fun _ _ _ _ _ _ h => h))
                    · have p2 : a'.tmps[55]?.getD undef = .pointer (some ⟨g, i, none⟩) := hPe 2 (by omega) (by kernel_rfl) h99
                      have c : w'.cell? ⟨g, i, none⟩ = some (.slice (some ⟨g + 1 + i, 0, none⟩) k k) := by rw [og.cell, outV_get hlti, if_pos hlti]
                      exact wpOp_val (v := (.slice (some ⟨g + 1 + i, 0, none⟩) k k)) (w' := w') rfl rfl (by go_simp) (hk' _ _ hS rfl (fun _ _ _ _ _ _ h => h))
                    · exact wpOp_val (v := (.int .i64 (q : Int))) (w' := w') rfl rfl (by go_simp) (hk' _ _ hS rfl (fun _ _ _ _ _ _ h => h))
                    · exact wpOp_val (v := (.slice (some ⟨g, 0, none⟩) k k)) (w' := w') rfl rfl (by go_simp) (hk' _ _ hS rfl (fun _ _ _ _ _ _ h => h))
                    · exact wpOp_val (v := (.int .i64 (q : Int))) (w' := w') rfl rfl (by go_simp) (hk' _ _ hS rfl (fun _ _ _ _ _ _ h => h))
                    · have p0 : a'.tmps[58]?.getD undef = (.slice (some ⟨g, 0, none⟩) k k) := hPe 5 (by omega) (by kernel_rfl) h99
                      have p1 : a'.tmps[59]?.getD undef = .int .i64 (q : Int) := hPe 6 (by omega) (by kernel_rfl) h99
                      have ix := I2.out
                      exact wpOp_val (v := (.pointer (some ⟨g, q, none⟩))) (w' := w') rfl rfl (by go_simp) (hk' _ _ hS rfl (fun _ _ _ _ _ _ h => h))
                    · have p2 : a'.tmps[60]?.getD undef = .pointer (some ⟨g, q, none⟩) := hPe 7 (by omega) (by kernel_rfl) h99
                      have c : w'.cell? ⟨g, q, none⟩ = some (.slice (some ⟨g + 1 + q, 0, none⟩) k k) := by rw [og.cell, outV_get (by omega), if_pos (by omega)]
                      exact wpOp_val (v := (.slice (some ⟨g + 1 + q, 0, none⟩) k k)) (w' := w') rfl rfl (by go_simp) (hk' _ _ hS rfl (fun _ _ _ _ _ _ h => h))
                    · exact wpOp_val (v := (.int .i64 (i : Int))) (w' := w') rfl rfl (by go_simp) (hk' _ _ hS rfl (fun _ _ _ _ _ _ h => h))
                    · exact wpOp_val (v := (.bool vv)) (w' := w') rfl rfl (by go_simp) (hk' _ _ hS rfl (fun _ _ _ _ _ _ h => h))
                    · exact wpOp_val (v := (.bool vv)) (w' := w') rfl rfl (by go_simp) (hk' _ _ hS rfl (fun _ _ _ _ _ _ h => h))
                    · have p0 : a'.tmps[56]?.getD undef = .slice (some ⟨g + 1 + i, 0, none⟩) k k := hPe 3 (by omega) (by kernel_rfl) h99
                      have p1 : a'.tmps[57]?.getD undef = .int .i64 (q : Int) := hPe 4 (by omega) (by kernel_rfl) h99
                      have ix := I3.out
                      exact wpOp_val (v := (.pointer (some ⟨g + 1 + i, q, none⟩))) (w' := w') rfl rfl (by go_simp) (hk' _ _ hS rfl (fun _ _ _ _ _ _ h => h))
                    · have p0 : a'.tmps[65]?.getD undef = .pointer (some ⟨g + 1 + i, q, none⟩) := hPe 12 (by omega) (by kernel_rfl) h99
                      have p1 : a'.tmps[63]?.getD undef = .bool vv := hPe 10 (by omega) (by kernel_rfl) h99
                      have pb : Blk w' (g + 1 + i) (rowV (partB hs i q) k i) 4 := hP' 16 (by omega) (by omega) hnd
                      have c : w'.cell? ⟨g + 1 + i, q, none⟩ = some (.bool (partB hs i q i q)) := by rw [pb.cell, rowV_get (by omega)]
                      have f := pb.frozen q
                      have zb := pb.lt
                      refine wpOp_skip (w' := w'.setCell ⟨g + 1 + i, q, none⟩ (.bool vv)) rfl rfl (by go_simp) ?_
                      refine hk' undef _ (hS.setCell (.inl rfl)) (pb.set q _) ?_
                      intro j hj h1 h2 h3 h4 h5
                      refine pvM_set (.inl ⟨rfl, h4, ?_, by omega⟩) h5
                      rintro rfl
                      exact h3 rfl
                    · have p0 : a'.tmps[61]?.getD undef = .slice (some ⟨g + 1 + q, 0, none⟩) k k := hPe 8 (by omega) (by kernel_rfl) h99
                      have p1 : a'.tmps[62]?.getD undef = .int .i64 (i : Int) := hPe 9 (by omega) (by kernel_rfl) h99
                      have ix := I4.out
                      exact wpOp_val (v := (.pointer (some ⟨g + 1 + q, i, none⟩))) (w' := w') rfl rfl (by go_simp) (hk' _ _ hS rfl (fun _ _ _ _ _ _ h => h))
                    · have p0 : a'.tmps[66]?.getD undef = .pointer (some ⟨g + 1 + q, i, none⟩) := hPe 14 (by omega) (by kernel_rfl) h99
                      have p1 : a'.tmps[64]?.getD undef = .bool vv := hPe 11 (by omega) (by kernel_rfl) h99
                      have pb : Blk w' (g + 1 + q) (rowV (partB hs i q) k q) 4 := hP' 17 (by omega) (by omega) hnd
                      have c : w'.cell? ⟨g + 1 + q, i, none⟩ = some (.bool (partB hs i q q i)) := by rw [pb.cell, rowV_get (by omega)]
                      have f := pb.frozen i
                      have zb := pb.lt
                      refine wpOp_skip (w' := w'.setCell ⟨g + 1 + q, i, none⟩ (.bool vv)) rfl rfl (by go_simp) ?_
                      refine hk' undef _ (hS.setCell (.inr rfl)) (pb.set i _) ?_
                      intro j hj h1 h2 h3 h4 h5
                      refine pvM_set (.inr ⟨rfl, h4, ?_, by omega⟩) h5
                      rintro rfl
                      exact h3 rfl
                    · omega
                  · intro s w9 hS9 hP9
                    have b1 : Blk w9 (g + 1 + i) ((rowV (partB hs i q) k i).setIfInBounds q (.bool (vOf hv))) 4 := hP9 13 (by decide) (by decide)
                    have b2 : Blk w9 (g + 1 + q) ((rowV (partB hs i q) k q).setIfInBounds i (.bool (vOf hv))) 4 := hP9 15 (by decide) (by decide)
                    have hM9 := HM.out.step hltq hlti (vOf_eq hv).symm hS9 b1 b2
                    have HM9 := Lib.hid hM9
                    clear hS9 hP9 b1 b2 hM9
                    simp only [puts, List.foldl_cons, List.foldl_nil, List.setIfInBounds_toArray, List.set_cons_zero, List.set_cons_succ]
                    go_wp2_with fail
                    go_roundw
                    case rel => exact ⟨q + 1, rfl, by omega, HM9.out⟩
                    case measure => simp [intOf]; omega
                · have hv : atB hs i q = false := by simp [atB, hrk, List.getElem?_eq_none (by omega : row.length ≤ q)]
                  have d2 : decide (q < row.length) = false := decide_eq_false h2
                  clear hrk rok
                  go_upto_region 14 with fail
                  clear hix' e0 ze d2
                  refine region_posts3 (ops := _) rfl (fun _ w' => Kept wr (fun x => x = g + 1 + i ∨ x = g + 1 + q) w') (pvM g k i q (vOf hv) (rowV (partB hs i q) k i) (rowV (partB hs i q) k q)) slM eatM [53, 54, 55, 56, 57, 58, 59, 60, 61, 62, 63, 64, 65, 66] 2 id (by kernel_rfl) (by kernel_rfl) (by kernel_rfl) (by kernel_rfl) (fun j f g w h hp => pvM_congr h hp) ?_ ?_ ?_ ?_
                  · exact ⟨rfl, rfl, rfl, Nat.le_refl _, fun _ _ _ => rfl⟩
                  · intro j h1 h2
                    have h1' : 16 ≤ j := h1
                    have h2' : j < 18 := h2
                    have h3 : j = 16 ∨ j = 17 := by omega
                    have hdr : Below wr.heap.size wr wr.drew := (Below.refl _ _).drew
                    rcases h3 with rfl | rfl
                    · exact (HM.out.2.1 i hlti).below hdr (HM.out.2.1 i hlti).lt
                    · exact (HM.out.2.1 q (by omega)).below hdr (HM.out.2.1 q (by omega)).lt
                  · intro z hz' KK a' w' done hO hS hcl hnd hout hdep hP hk'
                    have o5 : a'.tmps[5]?.getD undef = .slice (some ⟨g, 0, none⟩) k k := hO 5 (by kernel_rfl)
                    have o7 : a'.tmps[7]?.getD undef = .int .i64 (i : Int) := hO 7 (by kernel_rfl)
                    have o8 : a'.tmps[8]?.getD undef = .int .i64 (q : Int) := hO 8 (by kernel_rfl)
                    have o9 : a'.tmps[9]?.getD undef = .bool (vOf hv) := hO 9 (by kernel_rfl)
                    have h99 : done 99 = false := hout 99 (by decide)
                    have hP' : ∀ j, j < 18 → (j < 16 → done j = true) → done (eatM j) = false → pvM g k i q (vOf hv) (rowV (partB hs i q) k i) (rowV (partB hs i q) k q) j (slot a'.tmps) w' := hP
                    clear hP
                    have hi16 : z < 16 := hz'
                    have hPe : ∀ j, j < 16 → depOf _ z j = true → done (eatM j) = false → pvM g k i q (vOf hv) (rowV (partB hs i q) k i) (rowV (partB hs i q) k q) j (slot a'.tmps) w' := fun j h1 h2 h3 => hP' j (by omega) (fun _ => hdep j h2) h3
                    have og : Blk w' g (outV g k k) 49 := hS.blk HM.out.1 (by omega)
                    obtain ⟨vv, hvv⟩ : ∃ vv, vOf hv = vv := ⟨_, rfl⟩
                    rw [hvv] at o9 hP' hPe hk'
                    clear hvv
                    rcases z with _ | _ | _ | _ | _ | _ | _ | _ | _ | _ | _ | _ | _ | _ | _ | _ | z
                    · exact wpOp_val (v := (.slice (some ⟨g, 0, none⟩) k k)) (w' := w') rfl rfl (by go_simp) (hk' _ _ hS rfl (fun _ _ _ _ _ _ h => h))
                    · exact wpOp_val (v := (.int .i64 (i : Int))) (w' := w') rfl rfl (by go_simp) (hk' _ _ hS rfl (fun _ _ _ _ _ _ h => h))
                    · have p0 : a'.tmps[53]?.getD undef = (.slice (some ⟨g, 0, none⟩) k k) := hPe 0 (by omega) (by kernel_rfl) h99
                      have p1 : a'.tmps[54]?.getD undef = .int .i64 (i : Int) := hPe 1 (by omega) (by kernel_rfl) h99
                      have ix := I1.out
                      exact wpOp_val (v := (.pointer (some ⟨g, i, none⟩))) (w' := w') rfl rfl (by go_simp) (hk' _ _ hS rfl (fun _ _ _ _ _ _ h => h))
                    · have p2 : a'.tmps[55]?.getD undef = .pointer (some ⟨g, i, none⟩) := hPe 2 (by omega) (by kernel_rfl) h99
                      have c : w'.cell? ⟨g, i, none⟩ = some (.slice (some ⟨g + 1 + i, 0, none⟩) k k) := by rw [og.cell, outV_get hlti, if_pos hlti]
                      exact wpOp_val (v := (.slice (some ⟨g + 1 + i, 0, none⟩) k k)) (w' := w') rfl rfl (by go_simp) (hk' _ _ hS rfl (fun _ _ _ _ _ _ h => h))
                    · exact wpOp_val (v := (.int .i64 (q : Int))) (w' := w') rfl rfl (by go_simp) (hk' _ _ hS rfl (fun _ _ _ _ _ _ h => h))
                    · exact wpOp_val (v := (.slice (some ⟨g, 0, none⟩) k k)) (w' := w') rfl rfl (by go_simp) (hk' _ _ hS rfl (fun _ _ _ _ _ _ h => h))
                    · exact wpOp_val (v := (.int .i64 (q : Int))) (w' := w') rfl rfl (by go_simp) (hk' _ _ hS rfl (fun _ _ _ _ _ _ h => h))
                    · have p0 : a'.tmps[58]?.getD undef = (.slice (some ⟨g, 0, none⟩) k k) := hPe 5 (by omega) (by kernel_rfl) h99
                      have p1 : a'.tmps[59]?.getD undef = .int .i64 (q : Int) := hPe 6 (by omega) (by kernel_rfl) h99
                      have ix := I2.out
                      exact wpOp_val (v := (.pointer (some ⟨g, q, none⟩))) (w' := w') rfl rfl (by go_simp) (hk' _ _ hS rfl (fun _ _ _ _ _ _ h => h))
                    · have p2 : a'.tmps[60]?.getD undef = .pointer (some ⟨g, q, none⟩) := hPe 7 (by omega) (by kernel_rfl) h99
                      have c : w'.cell? ⟨g, q, none⟩ = some (.slice (some ⟨g + 1 + q, 0, none⟩) k k) := by rw [og.cell, outV_get (by omega), if_pos (by omega)]
                      exact wpOp_val (v := (.slice (some ⟨g + 1 + q, 0, none⟩) k k)) (w' := w') rfl rfl (by go_simp) (hk' _ _ hS rfl (fun _ _ _ _ _ _ h => h))
                    · exact wpOp_val (v := (.int .i64 (i : Int))) (w' := w') rfl rfl (by go_simp) (hk' _ _ hS rfl (fun _ _ _ _ _ _ h => h))
                    · exact wpOp_val (v := (.bool vv)) (w' := w') rfl rfl (by go_simp) (hk' _ _ hS rfl (fun _ _ _ _ _ _ h => h))
                    · exact wpOp_val (v := (.bool vv)) (w' := w') rfl rfl (by go_simp) (hk' _ _ hS rfl (fun _ _ _ _ _ _ h => h))
                    · have p0 : a'.tmps[56]?.getD undef = .slice (some ⟨g + 1 + i, 0, none⟩) k k := hPe 3 (by omega) (by kernel_rfl) h99
                      have p1 : a'.tmps[57]?.getD undef = .int .i64 (q : Int) := hPe 4 (by omega) (by kernel_rfl) h99
                      have ix := I3.out
                      exact wpOp_val (v := (.pointer (some ⟨g + 1 + i, q, none⟩))) (w' := w') rfl rfl (by go_simp) (hk' _ _ hS rfl (fun _ _ _ _ _ _ h => h))
                    · have p0 : a'.tmps[65]?.getD undef = .pointer (some ⟨g + 1 + i, q, none⟩) := hPe 12 (by omega) (by kernel_rfl) h99
                      have p1 : a'.tmps[63]?.getD undef = .bool vv := hPe 10 (by omega) (by kernel_rfl) h99
                      have pb : Blk w' (g + 1 + i) (rowV (partB hs i q) k i) 4 := hP' 16 (by omega) (by omega) hnd
                      have c : w'.cell? ⟨g + 1 + i, q, none⟩ = some (.bool (partB hs i q i q)) := by rw [pb.cell, rowV_get (by omega)]
                      have f := pb.frozen q
                      have zb := pb.lt
                      refine wpOp_skip (w' := w'.setCell ⟨g + 1 + i, q, none⟩ (.bool vv)) rfl rfl (by go_simp) ?_
                      refine hk' undef _ (hS.setCell (.inl rfl)) (pb.set q _) ?_
                      intro j hj h1 h2 h3 h4 h5
                      refine pvM_set (.inl ⟨rfl, h4, ?_, by omega⟩) h5
                      rintro rfl
                      exact h3 rfl
                    · have p0 : a'.tmps[61]?.getD undef = .slice (some ⟨g + 1 + q, 0, none⟩) k k := hPe 8 (by omega) (by kernel_rfl) h99
                      have p1 : a'.tmps[62]?.getD undef = .int .i64 (i : Int) := hPe 9 (by omega) (by kernel_rfl) h99
                      have ix := I4.out
                      exact wpOp_val (v := (.pointer (some ⟨g + 1 + q, i, none⟩))) (w' := w') rfl rfl (by go_simp) (hk' _ _ hS rfl (fun _ _ _ _ _ _ h => h))
                    · have p0 : a'.tmps[66]?.getD undef = .pointer (some ⟨g + 1 + q, i, none⟩) := hPe 14 (by omega) (by kernel_rfl) h99
                      have p1 : a'.tmps[64]?.getD undef = .bool vv := hPe 11 (by omega) (by kernel_rfl) h99
                      have pb : Blk w' (g + 1 + q) (rowV (partB hs i q) k q) 4 := hP' 17 (by omega) (by omega) hnd
                      have c : w'.cell? ⟨g + 1 + q, i, none⟩ = some (.bool (partB hs i q q i)) := by rw [pb.cell, rowV_get (by omega)]
                      have f := pb.frozen i
                      have zb := pb.lt
                      refine wpOp_skip (w' := w'.setCell ⟨g + 1 + q, i, none⟩ (.bool vv)) rfl rfl (by go_simp) ?_
                      refine hk' undef _ (hS.setCell (.inr rfl)) (pb.set i _) ?_
                      intro j hj h1 h2 h3 h4 h5
                      refine pvM_set (.inr ⟨rfl, h4, ?_, by omega⟩) h5
                      rintro rfl
                      exact h3 rfl
                    · omega
                  · intro s w9 hS9 hP9
                    have b1 : Blk w9 (g + 1 + i) ((rowV (partB hs i q) k i).setIfInBounds q (.bool (vOf hv))) 4 := hP9 13 (by decide) (by decide)
                    have b2 : Blk w9 (g + 1 + q) ((rowV (partB hs i q) k q).setIfInBounds i (.bool (vOf hv))) 4 := hP9 15 (by decide) (by decide)
                    have hM9 := HM.out.step hltq hlti (vOf_eq hv).symm hS9 b1 b2
                    have HM9 := Lib.hid hM9
                    clear hS9 hP9 b1 b2 hM9
                    simp only [puts, List.foldl_cons, List.foldl_nil, List.setIfInBounds_toArray, List.set_cons_zero, List.set_cons_succ]
                    go_wp2_with fail
                    go_roundw
                    case rel => exact ⟨q + 1, rfl, by omega, HM9.out⟩
                    case measure => simp [intOf]; omega
              · have hv : atB hs i q = false := by
                  unfold atB
                  rw [List.getElem?_eq_none (by have := LH.out.1; omega)]
                have d1 : decide (i < hn) = false := decide_eq_false h1
                go_upto_region 14 with fail
                clear d1
                refine region_posts3 (ops := _) rfl (fun _ w' => Kept wr (fun x => x = g + 1 + i ∨ x = g + 1 + q) w') (pvM g k i q (vOf hv) (rowV (partB hs i q) k i) (rowV (partB hs i q) k q)) slM eatM [53, 54, 55, 56, 57, 58, 59, 60, 61, 62, 63, 64, 65, 66] 2 id (by kernel_rfl) (by kernel_rfl) (by kernel_rfl) (by kernel_rfl) (fun j f g w h hp => pvM_congr h hp) ?_ ?_ ?_ ?_
                · exact ⟨rfl, rfl, rfl, Nat.le_refl _, fun _ _ _ => rfl⟩
                · intro j h1 h2
                  have h1' : 16 ≤ j := h1
                  have h2' : j < 18 := h2
                  have h3 : j = 16 ∨ j = 17 := by omega
                  have hdr : Below wr.heap.size wr wr.drew := (Below.refl _ _).drew
                  rcases h3 with rfl | rfl
                  · exact (HM.out.2.1 i hlti).below hdr (HM.out.2.1 i hlti).lt
                  · exact (HM.out.2.1 q (by omega)).below hdr (HM.out.2.1 q (by omega)).lt
                · intro z hz' KK a' w' done hO hS hcl hnd hout hdep hP hk'
                  have o5 : a'.tmps[5]?.getD undef = .slice (some ⟨g, 0, none⟩) k k := hO 5 (by kernel_rfl)
                  have o7 : a'.tmps[7]?.getD undef = .int .i64 (i : Int) := hO 7 (by kernel_rfl)
                  have o8 : a'.tmps[8]?.getD undef = .int .i64 (q : Int) := hO 8 (by kernel_rfl)
                  have o9 : a'.tmps[9]?.getD undef = .bool (vOf hv) := hO 9 (by kernel_rfl)
                  have h99 : done 99 = false := hout 99 (by decide)
                  have hP' : ∀ j, j < 18 → (j < 16 → done j = true) → done (eatM j) = false → pvM g k i q (vOf hv) (rowV (partB hs i q) k i) (rowV (partB hs i q) k q) j (slot a'.tmps) w' := hP
                  clear hP
                  have hi16 : z < 16 := hz'
                  have hPe : ∀ j, j < 16 → depOf _ z j = true → done (eatM j) = false → pvM g k i q (vOf hv) (rowV (partB hs i q) k i) (rowV (partB hs i q) k q) j (slot a'.tmps) w' := fun j h1 h2 h3 => hP' j (by omega) (fun _ => hdep j h2) h3
                  have og : Blk w' g (outV g k k) 49 := hS.blk HM.out.1 (by omega)
                  obtain ⟨vv, hvv⟩ : ∃ vv, vOf hv = vv := ⟨_, rfl⟩
                  rw [hvv] at o9 hP' hPe hk'
                  clear hvv
                  rcases z with _ | _ | _ | _ | _ | _ | _ | _ | _ | _ | _ | _ | _ | _ | _ | _ | z
                  · exact wpOp_val (v := (.slice (some ⟨g, 0, none⟩) k k)) (w' := w') rfl rfl (by go_simp) (hk' _ _ hS rfl (fun _ _ _ _ _ _ h => h))
                  · exact wpOp_val (v := (.int .i64 (i : Int))) (w' := w') rfl rfl (by go_simp) (hk' _ _ hS rfl (fun _ _ _ _ _ _ h => h))
                  · have p0 : a'.tmps[53]?.getD undef = (.slice (some ⟨g, 0, none⟩) k k) := hPe 0 (by omega) (by kernel_rfl) h99
                    have p1 : a'.tmps[54]?.getD undef = .int .i64 (i : Int) := hPe 1 (by omega) (by kernel_rfl) h99
                    have ix := I1.out
                    exact wpOp_val (v := (.pointer (some ⟨g, i, none⟩))) (w' := w') rfl rfl (by go_simp) (hk' _ _ hS rfl (fun _ _ _ _ _ _ h => h))
                  · have p2 : a'.tmps[55]?.getD undef = .pointer (some ⟨g, i, none⟩) := hPe 2 (by omega) (by kernel_rfl) h99
                    have c : w'.cell? ⟨g, i, none⟩ = some (.slice (some ⟨g + 1 + i, 0, none⟩) k k) := by rw [og.cell, outV_get hlti, if_pos hlti]
                    exact wpOp_val (v := (.slice (some ⟨g + 1 + i, 0, none⟩) k k)) (w' := w') rfl rfl (by go_simp) (hk' _ _ hS rfl (fun _ _ _ _ _ _ h => h))
                  · exact wpOp_val (v := (.int .i64 (q : Int))) (w' := w') rfl rfl (by go_simp) (hk' _ _ hS rfl (fun _ _ _ _ _ _ h => h))
                  · exact wpOp_val (v := (.slice (some ⟨g, 0, none⟩) k k)) (w' := w') rfl rfl (by go_simp) (hk' _ _ hS rfl (fun _ _ _ _ _ _ h => h))
                  · exact wpOp_val (v := (.int .i64 (q : Int))) (w' := w') rfl rfl (by go_simp) (hk' _ _ hS rfl (fun _ _ _ _ _ _ h => h))
                  · have p0 : a'.tmps[58]?.getD undef = (.slice (some ⟨g, 0, none⟩) k k) := hPe 5 (by omega) (by kernel_rfl) h99
                    have p1 : a'.tmps[59]?.getD undef = .int .i64 (q : Int) := hPe 6 (by omega) (by kernel_rfl) h99
                    have ix := I2.out
                    exact wpOp_val (v := (.pointer (some ⟨g, q, none⟩))) (w' := w') rfl rfl (by go_simp) (hk' _ _ hS rfl (fun _ _ _ _ _ _ h => h))
                  · have p2 : a'.tmps[60]?.getD undef = .pointer (some ⟨g, q, none⟩) := hPe 7 (by omega) (by kernel_rfl) h99
                    have c : w'.cell? ⟨g, q, none⟩ = some (.slice (some ⟨g + 1 + q, 0, none⟩) k k) := by rw [og.cell, outV_get (by omega), if_pos (by omega)]
                    exact wpOp_val (v := (.slice (some ⟨g + 1 + q, 0, none⟩) k k)) (w' := w') rfl rfl (by go_simp) (hk' _ _ hS rfl (fun _ _ _ _ _ _ h => h))
                  · exact wpOp_val (v := (.int .i64 (i : Int))) (w' := w') rfl rfl (by go_simp) (hk' _ _ hS rfl (fun _ _ _ _ _ _ h => h))
                  · exact wpOp_val (v := (.bool vv)) (w' := w') rfl rfl (by go_simp) (hk' _ _ hS rfl (fun _ _ _ _ _ _ h => h))
                  · exact wpOp_val (v := (.bool vv)) (w' := w') rfl rfl (by go_simp) (hk' _ _ hS rfl (fun _ _ _ _ _ _ h => h))
                  · have p0 : a'.tmps[56]?.getD undef = .slice (some ⟨g + 1 + i, 0, none⟩) k k := hPe 3 (by omega) (by kernel_rfl) h99
                    have p1 : a'.tmps[57]?.getD undef = .int .i64 (q : Int) := hPe 4 (by omega) (by kernel_rfl) h99
                    have ix := I3.out
                    exact wpOp_val (v := (.pointer (some ⟨g + 1 + i, q, none⟩))) (w' := w') rfl rfl (by go_simp) (hk' _ _ hS rfl (fun _ _ _ _ _ _ h => h))
                  · have p0 : a'.tmps[65]?.getD undef = .pointer (some ⟨g + 1 + i, q, none⟩) := hPe 12 (by omega) (by kernel_rfl) h99
                    have p1 : a'.tmps[63]?.getD undef = .bool vv := hPe 10 (by omega) (by kernel_rfl) h99
                    have pb : Blk w' (g + 1 + i) (rowV (partB hs i q) k i) 4 := hP' 16 (by omega) (by omega) hnd
                    have c : w'.cell? ⟨g + 1 + i, q, none⟩ = some (.bool (partB hs i q i q)) := by rw [pb.cell, rowV_get (by omega)]
                    have f := pb.frozen q
                    have zb := pb.lt
                    refine wpOp_skip (w' := w'.setCell ⟨g + 1 + i, q, none⟩ (.bool vv)) rfl rfl (by go_simp) ?_
                    refine hk' undef _ (hS.setCell (.inl rfl)) (pb.set q _) ?_
                    intro j hj h1 h2 h3 h4 h5
                    refine pvM_set (.inl ⟨rfl, h4, ?_, by omega⟩) h5
                    rintro rfl
                    exact h3 rfl
                  · have p0 : a'.tmps[61]?.getD undef = .slice (some ⟨g + 1 + q, 0, none⟩) k k := hPe 8 (by omega) (by kernel_rfl) h99
                    have p1 : a'.tmps[62]?.getD undef = .int .i64 (i : Int) := hPe 9 (by omega) (by kernel_rfl) h99
                    have ix := I4.out
                    exact wpOp_val (v := (.pointer (some ⟨g + 1 + q, i, none⟩))) (w' := w') rfl rfl (by go_simp) (hk' _ _ hS rfl (fun _ _ _ _ _ _ h => h))
                  · have p0 : a'.tmps[66]?.getD undef = .pointer (some ⟨g + 1 + q, i, none⟩) := hPe 14 (by omega) (by kernel_rfl) h99
                    have p1 : a'.tmps[64]?.getD undef = .bool vv := hPe 11 (by omega) (by kernel_rfl) h99
                    have pb : Blk w' (g + 1 + q) (rowV (partB hs i q) k q) 4 := hP' 17 (by omega) (by omega) hnd
                    have c : w'.cell? ⟨g + 1 + q, i, none⟩ = some (.bool (partB hs i q q i)) := by rw [pb.cell, rowV_get (by omega)]
                    have f := pb.frozen i
                    have zb := pb.lt
                    refine wpOp_skip (w' := w'.setCell ⟨g + 1 + q, i, none⟩ (.bool vv)) rfl rfl (by go_simp) ?_
                    refine hk' undef _ (hS.setCell (.inr rfl)) (pb.set i _) ?_
                    intro j hj h1 h2 h3 h4 h5
                    refine pvM_set (.inr ⟨rfl, h4, ?_, by omega⟩) h5
                    rintro rfl
                    exact h3 rfl
                  · omega
                · intro s w9 hS9 hP9
                  have b1 : Blk w9 (g + 1 + i) ((rowV (partB hs i q) k i).setIfInBounds q (.bool (vOf hv))) 4 := hP9 13 (by decide) (by decide)
                  have b2 : Blk w9 (g + 1 + q) ((rowV (partB hs i q) k q).setIfInBounds i (.bool (vOf hv))) 4 := hP9 15 (by decide) (by decide)
                  have hM9 := HM.out.step hltq hlti (vOf_eq hv).symm hS9 b1 b2
                  have HM9 := Lib.hid hM9
                  clear hS9 hP9 b1 b2 hM9
                  simp only [puts, List.foldl_cons, List.foldl_nil, List.setIfInBounds_toArray, List.set_cons_zero, List.set_cons_succ]
                  go_wp2_with fail
                  go_roundw
                  case rel => exact ⟨q + 1, rfl, by omega, HM9.out⟩
                  case measure => simp [intOf]; omega
            · have hqi : q = i := by omega
              have hM2 : MatAt w g k (partB hs (i + 1) 0) wr := hM.congr (fun a b _ _ => by rw [hqi]; exact part_row)
              have HM2 := Lib.hid hM2
              clear hM hM2 hqi
              go_wp2_with fail
              go_roundw
              case rel => exact ⟨i + 1, rfl, by omega, HM2.out⟩
              case measure => simp [intOf]; omega
        · have hik : i = k := by omega
          have hM2 : MatAt w g k (symB hs) wr := hM.congr (fun a b ha hb => by rw [hik]; exact part_all ha hb)
          have HM2 := Lib.hid hM2
          clear hM hM2 hik
          go_wp2_with fail
          go_ret
          exact ⟨g, rfl, HM2.out⟩

end Go.Proofs.Ytadiocpcpjbjpaa

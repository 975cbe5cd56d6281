import Derived.Test.YtadiocpcpjbjpaaAb
import Derived.ProofKit
namespace Go.Proofs.Ytadiocpcpjbjpaa
open Go.RowKit

/-! ### Rows of what is heard, as arguments; few; Square -/
section
variable {H : Type} {enc : TypeId × Value → H} {w : World} {base : Nat} {spare : Nat → Bool} {held : Bool}

def BoolsOk (w : World) (v : Value) (l : List Bool) : Prop := Rows 1 w v (l.map boV)

theorem bools_read {fuel : Nat} {cs : List Value} {x : DataW H × List MemPlace} (h : DataW.trod enc Try.prog w base spare held fuel 49 cs = some x) : ∃ (a : Option Addr) (len cap : Nat) (xs : List Bool), cs = [.slice a len cap] ∧ BoolsOk w (.slice a len cap) xs := by
  obtain ⟨a, len, cap, xs, h1, h2, _⟩ := rows_read boV (fun _ => True) Try.underlying49 (k := 1) (by kernel_rfl) (by omega) (fun _ => rfl) (fun n cs' y h => by
    obtain ⟨b, rfl, _⟩ := DataW.trod_bool Try.underlying4 h
    exact ⟨b, rfl, trivial⟩) h
  exact ⟨a, len, cap, xs, h1, h2⟩

theorem hears_read {fuel : Nat} {cs : List Value} {x : DataW H × List MemPlace} (h : DataW.trod enc Try.prog w base spare held fuel 40 cs = some x) : ∃ (a : Option Addr) (len cap : Nat) (xs : List (List Bool)), cs = [.slice a len cap] ∧ HearsOk w (.slice a len cap) xs := by
  obtain ⟨a, len, cap, xs, h1, h2, h3⟩ := rows_read (fun p : (Option Addr × Nat) × List Bool => [.slice p.1.1 p.2.length p.1.2]) (fun p => Rows 1 w (.slice p.1.1 p.2.length p.1.2) (p.2.map boV)) Try.underlying40 (k := 1) (by kernel_rfl) (by omega) (fun _ => rfl) (fun n cs' y h => by
    obtain ⟨a, len, cap, xs, rfl, hb⟩ := bools_read h
    have hl := hb.length.1
    rw [List.length_map] at hl
    subst hl
    exact ⟨((a, cap), xs), rfl, hb⟩) h
  have hz : (xs.map (·.1)).zip (xs.map (·.2)) = xs := by
    rw [List.zip_map', List.map_id'']
    exact fun _ => rfl
  refine ⟨a, len, cap, xs.map (·.2), h1, xs.map (·.1), ?_, by simp, ?_⟩
  · rw [hz]; exact h2
  · rw [hz]; exact h3
end

def fewTb (t : Tb) : Bool := decide (t.uL ≤ 40 ∧ t.gL ≤ 40 ∧ t.kL ≤ 40)
def fewHT (hs : List (List Bool)) (ts : List Tb) : Bool := ts.all fewTb && hs.all (fun h => decide (h.length ≤ 20)) && decide (ts.length ≤ 12) && decide (hs.length ≤ 20)

set_option maxRecDepth 100000 in
set_option maxHeartbeats 1000000 in
theorem fewHT_any (ha ta : Option Addr) (hn hc tn tc : Nat) (hs : List (List Bool)) (ts : List Tb) (w : World) (hH : HearsOk w (.slice ha hn hc) hs) (hT : TabsOk w (.slice ta tn tc) ts) :
    Calls Try.prog 15 #[.slice ha hn hc, .slice ta tn tc] w fun e w' => e = .returned (.bool (fewHT hs ts)) ∧ Below w.heap.size w w' := by
  have LH := Lib.hid hH.length
  have LT := Lib.hid hT.length
  have mh : hn ≤ 9223372036854775807 := by have := LH.out; unfold maxLen at this; omega
  have mt : tn ≤ 9223372036854775807 := by have := LT.out; unfold maxLen at this; omega
  go_enter Try.func15, Try.ntmps15
  go_wp2_with fail
  go_loopw [11] (fun i wr => ∃ k : Nat, i = .int .i64 k ∧ k ≤ tn ∧ (ts.take k).all fewTb = true ∧ Below w.heap.size w wr) (fun i _ => tn - (intOf i).toNat)
  case atStart => exact ⟨0, rfl, by omega, by simp, Below.refl _ _⟩
  case round =>
    obtain ⟨k, rfl, hk, hx, hb⟩ := hrel
    by_cases hlt : k < tn
    · obtain ⟨t, htk⟩ : ∃ t, ts[k]? = some t := ⟨ts[k]'(by have := LT.out.1; omega), List.getElem?_eq_getElem _⟩
      obtain ⟨b, off, hix, d0, d1, d2, _⟩ := tab_at (hT.below hb (Nat.le_refl _)) htk
      have z := cell_block d0
      have HTK := Lib.hid htk
      have HX := Lib.hid hx
      clear htk hx
      go_wp2_with fail
      refine (few_any t _).mono ?_
      rintro e w2 ⟨rfl, hb2⟩
      have hB2 := Lib.hid ((hb.alloc hb.size (.cells #[.slice t.uA t.uL t.uC, .slice t.gA t.gL t.gC, .slice t.kA t.kL t.kC] 26)).trans (hb2.mono (by simp; have := hb.size; omega)))
      clear hb2 hix d0 d1 d2
      cases hf : decide (t.uL ≤ 40 ∧ t.gL ≤ 40 ∧ t.kL ≤ 40) with
      | true =>
        have HA := Lib.hid (all_take_succ HTK.out HX.out (p := fewTb) hf)
        clear hf
        go_wp2_with fail
        go_roundw
        case rel => exact ⟨k + 1, rfl, by omega, HA.out, hB2.out⟩
        case measure => simp [intOf]; omega
      | false =>
        have HA := Lib.hid (all_stop HTK.out (p := fewTb) hf)
        clear hf
        go_wp2_with fail
        go_ret
        exact ⟨ret_bool (by simp [fewHT, HA.out]), hB2.out⟩
    · have HA := Lib.hid (all_whole (by have := LT.out.1; omega) hx)
      clear hx
      go_wp2_with fail
      obtain ⟨wo, rfl⟩ : ∃ wo : World, wo = wr := ⟨_, rfl⟩
      go_loopw [21] (fun i wr => ∃ k : Nat, i = .int .i64 k ∧ k ≤ hn ∧ (hs.take k).all (fun h => decide (h.length ≤ 20)) = true ∧ Below w.heap.size w wr) (fun i _ => hn - (intOf i).toNat)
      case atStart => exact ⟨0, rfl, by omega, by simp, hb⟩
      case round =>
        clear hb
        obtain ⟨k2, rfl, hk2, hx, hb⟩ := hrel
        by_cases hlt2 : k2 < hn
        · obtain ⟨row, hrk⟩ : ∃ row, hs[k2]? = some row := ⟨hs[k2]'(by have := LH.out.1; omega), List.getElem?_eq_getElem _⟩
          obtain ⟨b', off', ra, rc, hix', e0, rok⟩ := hears_at (hH.below hb (Nat.le_refl _)) hrk
          have z := cell_block e0
          by_cases h20 : row.length ≤ 20
          · have hd : decide ((20 : Int) < (row.length : Int)) = false := decide_eq_false (by omega)
            have HX := Lib.hid (all_take_succ hrk hx (by simpa using h20))
            clear hrk hx h20
            go_wp2_with fail
            go_roundw
            case rel => exact ⟨k2 + 1, rfl, by omega, HX.out, hb⟩
            case measure => simp [intOf]; omega
          · have hd : decide ((20 : Int) < (row.length : Int)) = true := decide_eq_true (by omega)
            have HX := Lib.hid (all_stop (p := fun h : List Bool => decide (h.length ≤ 20)) hrk (by simpa using h20))
            clear hrk hx h20
            go_wp2_with fail
            go_ret
            exact ⟨ret_bool (by simp [fewHT, HX.out]), hb⟩
        · have HA2 := Lib.hid (all_whole (by have := LH.out.1; omega) hx)
          clear hx
          have hfin : ∀ c1 c2 : Bool, decide (ts.length ≤ 12) = c1 → decide (hs.length ≤ 20) = c2 → fewHT hs ts = (c1 && c2) := fun c1 c2 h1 h2 => by
            unfold fewHT
            rw [HA.out, HA2.out, h1, h2]
            simp
          have HF := Lib.hid hfin
          clear hfin
          by_cases h12 : tn ≤ 12
          · have hd : decide ((tn : Int) ≤ 12) = true := decide_eq_true (by omega)
            have hd2 : decide ((hn : Int) ≤ 20) = decide (hs.length ≤ 20) := by have := LH.out.1; simp only [decide_eq_decide]; omega
            have HD := Lib.hid hd2
            clear hd2
            go_wp2_with fail
            go_ret
            exact ⟨ret_bool (by rw [HF.out true _ (decide_eq_true (by have := LT.out.1; omega)) HD.out.symm]; rfl), hb⟩
          · have hd : decide ((tn : Int) ≤ 12) = false := decide_eq_false (by omega)
            go_wp2_with fail
            go_ret
            exact ⟨ret_bool (by rw [HF.out false _ (decide_eq_false (by have := LT.out.1; omega)) rfl]; rfl), hb⟩

/-- A row and a column for each table. -/
def squareB (hs : List (List Bool)) (m : Nat) : Bool := decide (hs.length = m) && hs.all (fun h => decide (h.length = m))

set_option maxRecDepth 100000 in
theorem square_any (ha : Option Addr) (hn hc m : Nat) (hs : List (List Bool)) (w : World) (hH : HearsOk w (.slice ha hn hc) hs) (hm : m ≤ maxLen) :
    Calls Try.prog 16 #[.slice ha hn hc, .int .i64 m] w fun e w' => e = .returned (.bool (squareB hs m)) ∧ Below w.heap.size w w' := by
  have LH := Lib.hid hH.length
  have mh : hn ≤ 9223372036854775807 := by have := LH.out; unfold maxLen at this; omega
  unfold maxLen at hm
  go_enter Try.func16, Try.ntmps16
  by_cases hl : hn = m
  case neg =>
    have hne : ((hn : Int) != (m : Int)) = true := by simpa using fun e => hl (by omega)
    have HL := Lib.hid hl
    clear hl
    go_wp2_with fail
    go_ret
    exact ⟨ret_bool (by unfold squareB; rw [decide_eq_false (fun e => HL.out (LH.out.1.trans e))]; rfl), Below.refl _ _⟩
  subst hl
  have hne : ((hn : Int) != (hn : Int)) = false := by simp
  go_wp2_with fail
  go_loopw [5] (fun i wr => ∃ k : Nat, i = .int .i64 k ∧ k ≤ hn ∧ (hs.take k).all (fun h => decide (h.length = hn)) = true ∧ Below w.heap.size w wr) (fun i _ => hn - (intOf i).toNat)
  case atStart => exact ⟨0, rfl, by omega, by simp, Below.refl _ _⟩
  case round =>
    obtain ⟨k2, rfl, hk2, hx, hb⟩ := hrel
    by_cases hlt2 : k2 < hn
    · obtain ⟨row, hrk⟩ : ∃ row, hs[k2]? = some row := ⟨hs[k2]'(by have := LH.out.1; omega), List.getElem?_eq_getElem _⟩
      obtain ⟨b', off', ra, rc, hix', e0, rok⟩ := hears_at (hH.below hb (Nat.le_refl _)) hrk
      have z := cell_block e0
      by_cases hr : row.length = hn
      · have hd : ((row.length : Int) != (hn : Int)) = false := by simp [hr]
        have HX := Lib.hid (all_take_succ hrk hx (by simpa using hr))
        clear hrk hx hr
        go_wp2_with fail
        go_roundw
        case rel => exact ⟨k2 + 1, rfl, by omega, HX.out, hb⟩
        case measure => simp [intOf]; omega
      · have hd : ((row.length : Int) != (hn : Int)) = true := by simpa using fun e => hr (by omega)
        have HX := Lib.hid (all_stop (p := fun h : List Bool => decide (h.length = hn)) hrk (by simpa using hr))
        clear hrk hx hr
        go_wp2_with fail
        go_ret
        exact ⟨ret_bool (by simp [squareB, HX.out]), hb⟩
    · have HA2 := Lib.hid (all_whole (by have := LH.out.1; omega) hx)
      clear hx
      go_wp2_with fail
      go_ret
      exact ⟨ret_bool (by unfold squareB; rw [HA2.out, decide_eq_true LH.out.1.symm]; rfl), hb⟩

end Go.Proofs.Ytadiocpcpjbjpaa

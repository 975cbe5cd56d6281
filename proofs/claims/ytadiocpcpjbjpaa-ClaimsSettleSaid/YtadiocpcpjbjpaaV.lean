import Derived.Test.YtadiocpcpjbjpaaU
namespace Go.Proofs.Ytadiocpcpjbjpaa
open Go.RowKit

def fewB (n : Nr) : Bool := decide (n.told.usesL ≤ 40) && decide (n.told.grantsL ≤ 40)

theorem all_take_succ {α : Type} {l : List α} {k : Nat} {x : α} {p : α → Bool} (hx : l[k]? = some x) (h : (l.take k).all p = true) (hp : p x = true) : (l.take (k + 1)).all p = true := by
  rw [List.take_add_one, hx, List.all_append, h]
  simp [hp]
theorem all_stop {α : Type} {l : List α} {k : Nat} {x : α} {p : α → Bool} (hx : l[k]? = some x) (hp : p x = false) : l.all p = false := by
  rw [List.all_eq_false]
  exact ⟨x, List.mem_of_getElem? hx, by simp [hp]⟩
theorem all_whole {α : Type} {l : List α} {k : Nat} {p : α → Bool} (hk : l.length ≤ k) (h : (l.take k).all p = true) : l.all p = true := by
  rwa [List.take_of_length_le hk] at h

set_option maxRecDepth 100000 in
theorem fewNear_any (a : Option Addr) (n cap : Nat) (near : List Nr) (w : World) (hnear : NearOk w (.slice a n cap) near) :
    Calls Try.prog 12 #[.slice a n cap] w fun e w' => e = .returned (.bool (near.all fewB && decide (n ≤ 70))) ∧ Below w.heap.size w w' := by
  have hlen := hnear.1.length
  simp only [List.length_map] at hlen
  obtain ⟨hn, hm⟩ := hlen
  unfold maxLen at hm
  have HN := Lib.hid hn
  clear hn
  go_enter Try.func12, Try.ntmps12
  go_wp2_with fail
  go_loopw [3] (fun i wr => ∃ k : Nat, i = .int .i64 k ∧ k ≤ n ∧ (near.take k).all fewB = true ∧ Below w.heap.size w wr) (fun i _ => n - (intOf i).toNat)
  case atStart => exact ⟨0, rfl, by omega, by simp, Below.refl _ _⟩
  case round =>
    obtain ⟨k, rfl, hk, hx, hb⟩ := hrel
    by_cases hlt : k < n
    · obtain ⟨x, hxk⟩ : ∃ x, near[k]? = some x := ⟨near[k]'(by have := HN.out; omega), List.getElem?_eq_getElem _⟩
      obtain ⟨b, off, hix, hrg⟩ := nr_at (hnear.1.below hb (Nat.le_refl _)) hxk
      have d0 : wr.cell? ⟨b, off + k * 31 + 1 + 11, none⟩ = some (.slice x.told.usesA x.told.usesL x.told.usesC) := hrg 12 _ rfl
      have d1 : wr.cell? ⟨b, off + k * 31 + 1 + 12, none⟩ = some (.slice x.told.grantsA x.told.grantsL x.told.grantsC) := hrg 13 _ rfl
      have z := cell_block d0
      clear hrg
      by_cases h1 : x.told.usesL ≤ 40
      · by_cases h2 : x.told.grantsL ≤ 40
        · have e1 : decide ((40 : Int) < (x.told.usesL : Int)) = false := decide_eq_false (by omega)
          have e2 : decide ((40 : Int) < (x.told.grantsL : Int)) = false := decide_eq_false (by omega)
          have HX := Lib.hid (all_take_succ hxk hx (by simp [fewB, h1, h2]))
          clear hx hxk h1 h2
          go_wp2_with fail
          go_roundw
          case rel => exact ⟨k + 1, rfl, by omega, HX.out, hb⟩
          case measure => simp [intOf]; omega
        · have e1 : decide ((40 : Int) < (x.told.usesL : Int)) = false := decide_eq_false (by omega)
          have e2 : decide ((40 : Int) < (x.told.grantsL : Int)) = true := decide_eq_true (by omega)
          have HX := Lib.hid (all_stop (p := fewB) hxk (by simp [fewB, h2]))
          clear hx hxk h1 h2
          go_wp2_with fail
          go_ret
          exact ⟨ret_bool (by simp [HX.out]), hb⟩
      · have e1 : decide ((40 : Int) < (x.told.usesL : Int)) = true := decide_eq_true (by omega)
        have HX := Lib.hid (all_stop (p := fewB) hxk (by simp [fewB, h1]))
        clear hx hxk h1
        go_wp2_with fail
        go_ret
        exact ⟨ret_bool (by simp [HX.out]), hb⟩
    · have HX := Lib.hid (all_whole (by have := HN.out; omega) hx)
      have e1 : decide ((n : Int) ≤ 70) = decide (n ≤ 70) := by simp only [decide_eq_decide]; omega
      clear hx
      go_wp2_with fail
      go_ret
      exact ⟨ret_bool (by rw [HX.out]; simp), hb⟩

end Go.Proofs.Ytadiocpcpjbjpaa

import Derived.Test.YtadiocpcpjbjpaaKb
import Derived.Laws.MakeOwn
namespace Go.Proofs.Ytadiocpcpjbjpaa
open Go.RowKit

theorem info4 : (Try.prog.info? 4).map (fun i => (i.zero, i.size, i.bytes)) = some (some (.bool false), 1, 1) := by kernel_rfl

theorem made_one (z : Value) (n : Nat) : madeCells #[z] n = Array.replicate n z := by
  apply Array.ext_getElem?
  intro i
  simp only [madeCells, Array.getElem?_map, Array.getElem?_replicate]
  by_cases h : i < n
  · rw [if_pos h, Array.getElem?_eq_getElem (by simpa using h)]
    simp [Nat.mod_one]
  · rw [if_neg h, Array.getElem?_eq_none (by simpa using h)]
    rfl

theorem mk_bools {n : Nat} (hn : n ≤ 1000) (W : World) : (Instr.makeSlice 49 (.int .i64 (n : Int)) (.int .i64 (n : Int))).run Try.prog W = .ok (.slice (some ⟨W.heap.size, 0, none⟩) n n) (W.alloc (.cells (Array.replicate n (.bool false)) 4)) := by
  obtain ⟨i, hi, hz, hs, hb⟩ := info_parts info4
  rw [run_makeSlice W 49 4 i (.bool false) Try.underlying49 hi hz .i64 .i64 (n : Int) (n : Int) (by omega) (by omega) (by rw [hs]; omega) (by rw [hb]; omega) (by omega)]
  rw [hs, Int.toNat_natCast, Nat.mul_one]
  show Result.ok _ (W.alloc (.cells (madeCells #[Value.bool false] n) 4)) = _
  rw [made_one]
theorem mk_nils {n : Nat} (hn : n ≤ 1000) (W : World) : (Instr.makeSlice 40 (.int .i64 (n : Int)) (.int .i64 (n : Int))).run Try.prog W = .ok (.slice (some ⟨W.heap.size, 0, none⟩) n n) (W.alloc (.cells (Array.replicate n (.slice none 0 0)) 49)) := by
  obtain ⟨i, hi, hz, hs, hb⟩ := info_parts info49
  rw [run_makeSlice W 40 49 i (.slice none 0 0) Try.underlying40 hi hz .i64 .i64 (n : Int) (n : Int) (by omega) (by omega) (by rw [hs]; omega) (by rw [hb]; omega) (by omega)]
  rw [hs, Int.toNat_natCast, Nat.mul_one]
  show Result.ok _ (W.alloc (.cells (madeCells #[Value.slice none 0 0] n) 49)) = _
  rw [made_one]

theorem rows_cells {k : Nat} {w : World} {a : Option Addr} {n cap : Nat} {css : List (List Value)} (h : Rows k w (.slice a n cap) css) (h0 : 0 < n) :
    ∃ b off, a = some ⟨b, off, none⟩ ∧ ∀ (j : Nat) (u : Value), css.flatten[j]? = some u → w.cell? ((⟨b, off, none⟩ : Addr).add j) = some u := by
  obtain ⟨a', cap', e, h1, h2, h3, h4⟩ := h
  simp only [Value.slice.injEq] at e
  obtain ⟨b, off, ha, hc⟩ := h4 (by rintro rfl; simp at e; omega)
  refine ⟨b, off, e.1.trans ha, fun j u hj => ?_⟩
  rw [Addr.add_mid]
  exact flat_cells (k := k) css off h3 hc j u hj

theorem owns_pos {w : World} {base n : Nat} {e : TypeId} {size : Nat} {v : Value} {xs : List Value} (h : w.ownsRow base e size v n xs) (h0 : 0 < n) : ∃ g cap, v = .slice (some ⟨g, 0, none⟩) n cap ∧ n ≤ cap := by
  rcases h.2 with ⟨_, hn⟩ | ⟨g, cap, cur, hv, _, _, r1, _⟩
  · omega
  · exact ⟨g, cap, hv, r1⟩

theorem index_own {T e k : Nat} (hT : Try.prog.underlying T = some (.slice e)) (he : Try.prog.elem T = e) (hs : ∀ W, (sizeOf e).run Try.prog W = .ok k W) {g n cap i : Nat} (hi : i < n) (W : World) :
    (Instr.indexAt T (.slice (some ⟨g, 0, none⟩) n cap) (.int .i64 (i : Int))).run Try.prog W = .ok (.pointer (some ⟨g, i * k, none⟩)) W := by
  rw [run_indexAt_slice W T _ _ _ _ _ (by rw [he]; exact hT), if_pos ⟨by omega, by omega⟩, he, hs W]
  simp [Result.andThen, Addr.add_mid]

/-- A cell of a row of one's own. -/
theorem owns_at {w : World} {base n g cap i : Nat} {e : TypeId} {size : Nat} {xs : List Value} (h : w.ownsRow base e size (.slice (some ⟨g, 0, none⟩) n cap) n xs) (hi : i < n * size) :
    (∃ x, w.cell? ⟨g, i, none⟩ = some x ∧ xs[i]? = some x) ∧ w.frozen? ⟨g, i, none⟩ = false ∧ g < w.heap.size ∧ base ≤ g := by
  rcases h with ⟨h1, ⟨hv, _⟩ | ⟨g', cap', cur, hv, hg, hh, r1, r2, r3, r4⟩⟩
  · cases hv
  · simp only [Value.slice.injEq, Option.some.injEq, Addr.mk.injEq, and_true, true_and] at hv
    obtain ⟨rfl, rfl⟩ := hv
    refine ⟨?_, frozen_of_row _ _ _ _ _ hh, (Array.getElem?_eq_some_iff.1 hh).1, hg⟩
    have hxi : xs[i]? = cur[i]? := by
      rw [← r4, List.getElem?_take, if_pos hi]
      simp
    obtain ⟨x, hx⟩ : ∃ x, xs[i]? = some x := ⟨xs[i]'(by rw [h1]; exact hi), List.getElem?_eq_getElem _⟩
    exact ⟨x, by rw [cell_of_row _ _ _ _ _ _ hh, ← hxi, hx], hx⟩

def hv (p : (Option Addr × Nat) × List Bool) : List Value := [.slice p.1.1 p.2.length p.1.2]
theorem hv_flat (l : List ((Option Addr × Nat) × List Bool)) : (l.map hv).flatten = l.map fun p => Value.slice p.1.1 p.2.length p.1.2 := by
  induction l with
  | nil => rfl
  | cons p l ih => rw [List.map_cons, List.flatten_cons, ih]; rfl

/-- What is heard, from rows of one's own. -/
theorem hears_own {W : World} {B n : Nat} {v : Value} {zs : List ((Option Addr × Nat) × List Bool)} (h : W.ownsRow B 49 1 v n (zs.map fun p => Value.slice p.1.1 p.2.length p.1.2)) (hr : ∀ p ∈ zs, Rows 1 W (.slice p.1.1 p.2.length p.1.2) (p.2.map boV)) :
    HearsOk W v (zs.map (·.2)) := by
  have hn : n = zs.length := by have := h.1; simp at this; omega
  have hz : (zs.map (·.1)).zip (zs.map (·.2)) = zs := by
    rw [List.zip_map', List.map_id'']
    exact fun _ => rfl
  refine ⟨zs.map (·.1), ?_, by simp, by rw [hz]; exact hr⟩
  rw [hz]
  rw [← hv_flat] at h
  exact owns_rows h (zs.map hv) (by simpa using hn) rfl (by intro cs hc; obtain ⟨p, _, rfl⟩ := List.mem_map.1 hc; rfl)
theorem hears_parts {w : World} {v : Value} {hs : List (List Bool)} (h : HearsOk w v hs) : ∃ zs : List ((Option Addr × Nat) × List Bool), zs.map (·.2) = hs ∧ Rows 1 w v (zs.map hv) ∧ ∀ p ∈ zs, Rows 1 w (.slice p.1.1 p.2.length p.1.2) (p.2.map boV) := by
  obtain ⟨vs, h1, h2, h3⟩ := h
  refine ⟨vs.zip hs, ?_, h1, h3⟩
  rw [← List.unzip_snd, List.unzip_zip h2]

theorem bools_made (W : World) {n : Nat} (hn : n ≤ maxLen) : Rows 1 (W.alloc (.cells (Array.replicate n (.bool false)) 4)) (.slice (some ⟨W.heap.size, 0, none⟩) (List.replicate n false).length n) ((List.replicate n false).map boV) := by
  refine ⟨_, n, by simp, by simp, hn, ?_, fun _ => ⟨W.heap.size, 0, rfl, fun i cs hi j x hj => ?_⟩⟩
  · intro cs hc; obtain ⟨x, _, rfl⟩ := List.mem_map.1 hc; rfl
  · rw [List.getElem?_map, List.getElem?_replicate] at hi
    split at hi
    · simp only [Option.map_some, Option.some.injEq] at hi
      subst hi
      cases j with
      | succ j => simp [boV] at hj
      | zero =>
        simp only [boV, List.getElem?_cons_zero, Option.some.injEq] at hj
        subst hj
        rw [(Blk.new W _ 4).cell, Array.getElem?_replicate, if_pos (by omega)]
    · cases hi

theorem rows_block {k : Nat} {w w' : World} {b o n cap : Nat} {css : List (List Value)} (h : Rows k w (.slice (some ⟨b, o, none⟩) n cap) css) (hb : w'.heap[b]? = w.heap[b]?) : Rows k w' (.slice (some ⟨b, o, none⟩) n cap) css := by
  obtain ⟨a, c, hv, hc, hm, hk, hr⟩ := h
  refine ⟨a, c, hv, hc, hm, hk, fun h0 => ?_⟩
  obtain ⟨b', off, ha, hcell⟩ := hr h0
  simp only [Value.slice.injEq] at hv
  have hbb : b' = b := by rw [ha] at hv; have := hv.1; simp at this; exact this.1.symm
  subst hbb
  exact ⟨b', off, ha, fun i cs hi j x hj => (World.cell?_of_block hb).trans (hcell i cs hi j x hj)⟩
theorem owns_setne {w : World} {base n g cap b j : Nat} {e : TypeId} {size : Nat} {xs : List Value} {u : Value} (h : w.ownsRow base e size (.slice (some ⟨g, 0, none⟩) n cap) n xs) (hb : b ≠ g) : (w.setCell ⟨b, j, none⟩ u).ownsRow base e size (.slice (some ⟨g, 0, none⟩) n cap) n xs := by
  rcases h with ⟨h1, ⟨hv, _⟩ | ⟨g', cap', cur, hv, hg, hh, r⟩⟩
  · cases hv
  · have hgg : g' = g := by have := congrArg Value.ownBlock hv; simp only [Value.ownBlock, Option.some.injEq] at this; exact this.symm
    subst hgg
    exact ⟨h1, .inr ⟨g', cap', cur, hv, hg, (Below.heap_setCell _ _ _ _ (fun e => hb e.symm)).trans hh, r⟩⟩

theorem tabs_own {W : World} {B n : Nat} {v : Value} {ts : List Tb} (h : W.ownsRow B 26 3 v n (ts.map tbV).flatten) (hr : ∀ t ∈ ts, TbOk W t) : TabsOk W v ts := by
  have hn : n = ts.length := by
    have h1 := h.1
    rw [flat_len (k := 3) _ (by intro cs h; obtain ⟨x, _, rfl⟩ := List.mem_map.1 h; rfl), List.length_map] at h1
    omega
  exact ⟨owns_rows h (ts.map tbV) (by simpa using hn) rfl (by intro cs hc; obtain ⟨p, _, rfl⟩ := List.mem_map.1 hc; rfl), hr⟩

end Go.Proofs.Ytadiocpcpjbjpaa

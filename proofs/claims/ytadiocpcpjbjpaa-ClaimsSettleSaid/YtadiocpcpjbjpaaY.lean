import Derived.Test.YtadiocpcpjbjpaaV
import Derived.Test.YtadiocpcpjbjpaaS
namespace Go.Proofs.Ytadiocpcpjbjpaa
open Go.RowKit

/-! ### Frames, some of whose slots were put anew -/
def puts (s : Array Value) (is : List Nat) (t : Array Value) : Array Value := is.foldl (fun t i => t.setIfInBounds i (s.getD i undef)) t

theorem puts_size (s : Array Value) : ∀ (is : List Nat) (t : Array Value), (puts s is t).size = t.size
  | [], _ => rfl
  | i :: is, t => (puts_size s is (t.setIfInBounds i (s.getD i undef))).trans (by simp)

theorem puts_get (s : Array Value) : ∀ (is : List Nat) (t : Array Value) (j : Nat), j < s.size → s.size = t.size → (j ∉ is → s[j]? = t[j]?) → (puts s is t)[j]? = s[j]?
  | [], t, j, _, _, h => (h (by simp)).symm
  | i :: is, t, j, hj, hs, h => by
    refine puts_get s is (t.setIfInBounds i (s.getD i undef)) j hj (by simpa using hs) (fun hn => ?_)
    rw [Array.getElem?_setIfInBounds]
    by_cases e : i = j
    · subst e
      rw [if_pos rfl, if_pos (by omega)]
      simp [Array.getD_eq_getD_getElem?, Array.getElem?_eq_getElem hj]
    · rw [if_neg e]
      exact h (by simp only [List.mem_cons, not_or]; exact ⟨fun e' => e e'.symm, hn⟩)

theorem puts_of {s t : Array Value} (is : List Nat) (hs : s.size = t.size) (hne : ∀ i, i ∉ is → s[i]? = t[i]?) : s = puts s is t := by
  apply Array.ext_getElem?
  intro i
  by_cases hi : i < s.size
  · exact (puts_get s is t i hi hs (hne i)).symm
  · rw [Array.getElem?_eq_none (by omega), Array.getElem?_eq_none (by rw [puts_size]; omega)]

/-! ### What keeps the numbers in memory -/
def KeepInt (w w' : World) : Prop := ∀ p k i, w.cell? p = some (.int k i) → w'.cell? p = some (.int k i)

theorem KeepInt.of {w w' : World} (h : Below w.heap.size w w') : KeepInt w w' := fun _ _ _ hc => (h.cell (cell_block hc)).trans hc
theorem KeepInt.trans {a b c : World} (h : KeepInt a b) (h' : KeepInt b c) : KeepInt a c := fun p k i hc => h' p k i (h p k i hc)

theorem Rows.keep {k : Nat} {w w' : World} {v : Value} {css : List (List Value)} (h : Rows k w v css) (hk : KeepInt w w') (hi : ∀ cs ∈ css, ∀ x ∈ cs, ∃ q i, x = .int q i) : Rows k w' v css := by
  obtain ⟨a, cap, hv, hc, hm, hl, hr⟩ := h
  refine ⟨a, cap, hv, hc, hm, hl, fun h0 => ?_⟩
  obtain ⟨b, off, ha, hcell⟩ := hr h0
  refine ⟨b, off, ha, fun i cs hi' j x hj => ?_⟩
  obtain ⟨q, n, rfl⟩ := hi cs (List.mem_of_getElem? hi') x (List.mem_of_getElem? hj)
  exact hk _ _ _ (hcell i cs hi' j _ hj)

theorem TbOk.keep {w w' : World} {t : Tb} (h : TbOk w t) (hk : KeepInt w w') : TbOk w' t := by
  refine ⟨h.1.keep hk ?_, h.2.1.keep hk ?_, h.2.2.keep hk ?_⟩
  · intro cs hcs x hx
    obtain ⟨u, _, rfl⟩ := List.mem_map.1 hcs
    simp only [usV, List.mem_cons, List.not_mem_nil, or_false] at hx
    rcases hx with rfl | rfl | rfl | rfl <;> exact ⟨_, _, rfl⟩
  · intro cs hcs x hx
    obtain ⟨u, _, rfl⟩ := List.mem_map.1 hcs
    simp only [grV, List.mem_cons, List.not_mem_nil, or_false] at hx
    rcases hx with rfl | rfl | rfl | rfl | rfl <;> exact ⟨_, _, rfl⟩
  · intro cs hcs x hx
    obtain ⟨u, _, rfl⟩ := List.mem_map.1 hcs
    simp only [akV, List.mem_cons, List.not_mem_nil, or_false] at hx
    rcases hx with rfl | rfl | rfl <;> exact ⟨_, _, rfl⟩

/-- A block of three slices, put anew. -/
def nil3 : Array Value := #[.slice none 0 0, .slice none 0 0, .slice none 0 0]

theorem setRow_heap {w : World} {b : Nat} {cs ds : Array Value} {T : TypeId} (h : Blk w b cs T) : Blk (w.setRow b ds) b ds T := by
  unfold Blk World.setRow at *
  simp only [Array.getElem?_modify, h, if_true, Option.map_some]
theorem setRow_other {w : World} {b k : Nat} {ds : Array Value} (h : k ≠ b) : (w.setRow b ds).heap[k]? = w.heap[k]? := by
  unfold World.setRow
  simp only [Array.getElem?_modify]
  rw [if_neg (fun e => h e.symm)]

theorem KeepInt.setRow {w : World} {b : Nat} {T : TypeId} (ds : Array Value) (h : Blk w b nil3 T) : KeepInt w (w.setRow b ds) := by
  intro p k i hc
  by_cases e : p.block = b
  · exfalso
    unfold World.cell? at hc
    rw [e, h] at hc
    simp only at hc
    split at hc
    · cases hc
    · unfold nil3 at hc
      rcases hp : p.off with _ | _ | _ | n <;> rw [hp] at hc <;> simp at hc
  · rw [World.cell?_of_block (setRow_other e)]
    exact hc

/-! ### Parts of slices of neighbours -/
/-- The cells of neighbouring elements, one after another. -/
theorem flat_cells {k b : Nat} {W : World} : ∀ (css : List (List Value)) (off : Nat), (∀ cs ∈ css, cs.length = k) → (∀ (i : Nat) (cs : List Value), css[i]? = some cs → ∀ (j : Nat) (x : Value), cs[j]? = some x → W.cell? ⟨b, off + i * k + j, none⟩ = some x) →
    ∀ (j : Nat) (u : Value), css.flatten[j]? = some u → W.cell? ⟨b, off + j, none⟩ = some u
  | [], _, _, _, j, u, h => by simp at h
  | cs :: css, off, hk, hc, j, u, h => by
    have hl := hk cs List.mem_cons_self
    rw [List.flatten_cons] at h
    by_cases hj : j < k
    · rw [List.getElem?_append_left (by omega)] at h
      have := hc 0 cs rfl j u h
      rwa [Nat.zero_mul, Nat.add_zero] at this
    · rw [List.getElem?_append_right (by omega), hl] at h
      have := flat_cells css (off + k) (fun c h => hk c (List.mem_cons_of_mem _ h)) (fun i ds hi j x hj => by
        have := hc (i + 1) ds (by simpa using hi) j x hj
        rwa [show off + (i + 1) * k + j = off + k + i * k + j by rw [Nat.succ_mul]; omega] at this) (j - k) u h
      rwa [show off + k + (j - k) = off + j by omega] at this

theorem flat_len {k : Nat} : ∀ (css : List (List Value)), (∀ cs ∈ css, cs.length = k) → css.flatten.length = css.length * k
  | [], _ => by simp
  | cs :: css, h => by
    rw [List.flatten_cons, List.length_append, h cs List.mem_cons_self, flat_len css (fun c hc => h c (List.mem_cons_of_mem _ hc)), List.length_cons, Nat.succ_mul]
    omega

theorem near_flat_one (l : List Nr) : ∀ u ∈ (l.map nrV).flatten, u.oneCell' = true := by
  intro u hu
  obtain ⟨cs, hcs, hu⟩ := List.mem_flatten.1 hu
  obtain ⟨x, _, rfl⟩ := List.mem_map.1 hcs
  exact nrV_one x u hu

theorem near_len (l : List Nr) : (l.map nrV).flatten.length = l.length * 31 := by
  rw [flat_len (k := 31) _ (by intro cs h; obtain ⟨x, _, rfl⟩ := List.mem_map.1 h; rfl), List.length_map]

/-- A part of a slice of neighbours: its cells. -/
theorem near_part {W : World} {b off n cap : Nat} {near : List Nr} (h : NearOk W (.slice (some ⟨b, off, none⟩) n cap) near) (i m : Nat) :
    ∀ (j : Nat) (u : Value), (((near.drop i).take m).map nrV).flatten[j]? = some u → W.cell? ((⟨b, off + i * 31, none⟩ : Addr).add j) = some u := by
  obtain ⟨⟨a', cap', e, h1, h2, h3, h4⟩, _⟩ := h
  simp only [Value.slice.injEq] at e
  intro j u hj
  rw [Addr.add_mid]
  refine flat_cells (k := 31) _ (off + i * 31) (by intro cs h; obtain ⟨x, _, rfl⟩ := List.mem_map.1 h; rfl) (fun i' cs hi' j x hj => ?_) j u hj
  obtain ⟨b', off', e2, h5⟩ := h4 (by
    intro e0
    have : near = [] := by simpa using e0
    subst this
    simp at hi')
  rw [← e.1] at e2
  simp only [Option.some.injEq, Addr.mk.injEq, and_true] at e2
  obtain ⟨rfl, rfl⟩ := e2
  have hi2 : (near.map nrV)[i + i']? = some cs := by
    rw [List.getElem?_map] at hi' ⊢
    rw [List.getElem?_take] at hi'
    split at hi'
    · rwa [List.getElem?_drop] at hi'
    · simp at hi'
  have := h5 (i + i') cs hi2 j x hj
  rwa [show off + (i + i') * 31 + j = off + i * 31 + i' * 31 + j by omega] at this

theorem wrap64_fit {n : Int} (h0 : 0 ≤ n) (h1 : n ≤ 1000) : wrap64 n = n := by unfold wrap64; omega
theorem wrapi_fit {n : Int} (h0 : 0 ≤ n) (h1 : n ≤ 1000) : IntKind.i64.wrap n = n := by simp [IntKind.wrap, IntKind.bits, IntKind.signed]; omega

theorem cell_on {w w' : World} {a : Addr} {v : Value} (hb : Below w.heap.size w w') (h : w.cell? a = some v) : w'.cell? a = some v := (hb.cell (cell_block h)).trans h

/-- The neighbours but one. -/
def fewerL (near : List Nr) (k : Nat) : List Nr := near.take k ++ near.drop (k + 1)

/-- What the tests keep: the table's cells, and all that was there. -/
abbrev TS (b : Nat) (t : Tb) (A W : World) : Prop :=
  W.cell? ⟨b, 0, none⟩ = some (.slice t.uA t.uL t.uC) ∧ W.cell? ⟨b, 1, none⟩ = some (.slice t.gA t.gL t.gC) ∧ W.cell? ⟨b, 2, none⟩ = some (.slice t.kA t.kL t.kC) ∧ Below A.heap.size A W
theorem TS.on {b : Nat} {t : Tb} {A W W' : World} (h : TS b t A W) (hb : Below W.heap.size W W') : TS b t A W' :=
  ⟨cell_on hb h.1, cell_on hb h.2.1, cell_on hb h.2.2.1, h.2.2.2.trans (hb.mono h.2.2.2.size)⟩

theorem yield_kept (t : Tb) (me fr : Int) (a : Option Addr) (n cap : Nat) (near : List Nr) {b : Nat} {A W : World} (ht : TbOk A t) (hnear : NearOk A (.slice a n cap) near) (hu : t.uL ≤ 40) (hg : t.gL ≤ 40) (h : TS b t A W) :
    Calls Try.prog 13 #[.agg #[.slice t.uA t.uL t.uC, .slice t.gA t.gL t.gC, .slice t.kA t.kL t.kC], .int .i64 me, .slice a n cap, .int .i64 fr] W fun e w' =>
      ∃ t' : Tb, e = .returned (.agg #[.slice t'.uA t'.uL t'.uC, .slice t'.gA t'.gL t'.gC, .slice t'.kA t'.kL t'.kC]) ∧ (TbOk w' t' ∧ t'.us = t.us.filter (keepU fr me near) ∧ t'.gs = t.gs.filter (keepG fr near) ∧ t'.ks = t.ks) ∧ TS b t A w' := by
  have hl := hnear.1.length
  simp only [List.length_map] at hl
  refine (yield_any t me fr a n cap near W hl.2 hl.1 (ht.below h.2.2.2 (Nat.le_refl _)) (hnear.below h.2.2.2 (Nat.le_refl _)) (by omega) (by omega)).mono ?_
  rintro e w' ⟨t', h1, h2, h3, h4, h5, h6⟩
  exact ⟨t', h1, ⟨h2, h3, h4, h5⟩, h.on h6⟩

theorem fewer_ok {A W : World} {v : Value} {a : Option Addr} {n cap k B : Nat} {near : List Nr} (hnear : NearOk A (.slice a n cap) near) (hb : Below A.heap.size A W) (hn : n = near.length) (hk : k < n)
    (h : W.ownsRow B 71 31 v (0 + k + (n - (k + 1))) ([] ++ (((near.drop 0).take k).map nrV).flatten ++ (((near.drop (k + 1)).take (n - (k + 1))).map nrV).flatten)) : NearOk W v (fewerL near k) := by
  have hd : (near.drop (k + 1)).take (n - (k + 1)) = near.drop (k + 1) := List.take_of_length_le (by rw [List.length_drop]; omega)
  refine ⟨owns_rows h _ ?_ ?_ ?_, fun x hx => ?_⟩
  · rw [List.length_map, fewerL, List.length_append, List.length_take, List.length_drop]; omega
  · rw [hd, List.drop_zero, List.nil_append, fewerL, List.map_append, List.flatten_append]
  · intro cs h; obtain ⟨x, _, rfl⟩ := List.mem_map.1 h; rfl
  · rcases List.mem_append.1 hx with h1 | h1
    · exact (hnear.2 x (List.mem_of_mem_take h1)).below hb (Nat.le_refl _)
    · exact (hnear.2 x (List.mem_of_mem_drop h1)).below hb (Nat.le_refl _)

theorem info71b : (Try.prog.info? 71).map (fun i => (i.zero.map (·.cells.size), i.size, i.bytes)) = some (some 31, 31, 392) := by kernel_rfl
theorem info71_parts : ∃ i z, Try.prog.info? 71 = some i ∧ i.zero = some z ∧ i.size = 31 ∧ i.bytes = 392 ∧ z.cells.size = 31 := by
  have h := info71b
  cases hi : Try.prog.info? 71 with
  | none => rw [hi] at h; cases h
  | some i =>
    rw [hi] at h
    simp only [Option.map_some, Option.some.injEq, Prod.mk.injEq] at h
    cases hz : i.zero with
    | none => rw [hz] at h; simp at h
    | some z =>
      rw [hz] at h
      simp at h
      exact ⟨i, z, rfl, hz, h.2.1, h.2.2, h.1⟩


end Go.Proofs.Ytadiocpcpjbjpaa

import Derived.Test.YtadiocpcpjbjpaaProg
import Derived.WalkKit
import Derived.RowKit3
import Derived.WalkSpells
import Derived.WalkLawsBesides
import Derived.Lib.Hide
import Derived.Deep.QuietTactic
import Derived.BigQuiet
import Derived.Outline
import Derived.WalkSmall
import Derived.Deep.RegionHeld3
namespace Go.Proofs.Ytadiocpcpjbjpaa
open Go.RowKit

/-! ### The plain data -/
abbrev Cl := Int × Int
abbrev Us := Cl × Int × Int
abbrev Gr := Cl × Int × Int × Int
abbrev Ak := Cl × Int
abbrev Ch := Cl × Int × Int × Int

def usV (u : Us) : List Value := [.int .i64 u.1.1, .int .i64 u.1.2, .int .i64 u.2.1, .int .i64 u.2.2]
def grV (g : Gr) : List Value := [.int .i64 g.1.1, .int .i64 g.1.2, .int .i64 g.2.1, .int .i64 g.2.2.1, .int .i64 g.2.2.2]
def chV (c : Ch) : List Value := [.int .i64 c.1.1, .int .i64 c.1.2, .int .i64 c.2.1, .int .i64 c.2.2.1, .int .i64 c.2.2.2]
def akV (a : Ak) : List Value := [.int .i64 a.1.1, .int .i64 a.1.2, .int .i64 a.2]

/-! ### Slices of structs, as they lie in memory -/
/-- The slice value 'v' has the elements 'css', each of 'k' cells. -/
def Rows (k : Nat) (w : World) (v : Value) (css : List (List Value)) : Prop :=
  ∃ (a : Option Addr) (cap : Nat), v = .slice a css.length cap ∧ css.length ≤ cap ∧ cap ≤ maxLen ∧ (∀ cs ∈ css, cs.length = k) ∧
    (css ≠ [] → ∃ b off, a = some ⟨b, off, none⟩ ∧ ∀ i cs, css[i]? = some cs → ∀ j x, cs[j]? = some x → w.cell? ⟨b, off + i * k + j, none⟩ = some x)

theorem cell_block {w : World} {a : Addr} {v : Value} (h : w.cell? a = some v) : a.block < w.heap.size := block_lt_of_cell h

/-- What was read before reads the same where nothing old has changed. -/
theorem Rows.below {k n : Nat} {w w' : World} {v : Value} {css : List (List Value)} (h : Rows k w v css) (hb : Below n w w') (hn : w.heap.size ≤ n) : Rows k w' v css := by
  obtain ⟨a, cap, hv, hc, hm, hk, hr⟩ := h
  refine ⟨a, cap, hv, hc, hm, hk, fun h0 => ?_⟩
  obtain ⟨b, off, ha, hcell⟩ := hr h0
  refine ⟨b, off, ha, fun i cs hi j x hj => ?_⟩
  have h1 := hcell i cs hi j x hj
  have h2 := cell_block h1
  exact (hb.cell (p := ⟨b, off + i * k + j, none⟩) (Nat.lt_of_lt_of_le h2 hn)).trans h1

theorem Rows.len {k : Nat} {w : World} {v : Value} {css : List (List Value)} (h : Rows k w v css) : ∃ a cap, v = .slice a css.length cap ∧ css.length ≤ cap ∧ cap ≤ maxLen := by
  obtain ⟨a, cap, hv, hc, hm, _⟩ := h
  exact ⟨a, cap, hv, hc, hm⟩

/-- An element of a slice: where it lies (the walk's own step), and its cells. -/
theorem Rows.at {P : Program} {T e k : Nat} {w : World} {a : Option Addr} {n cap : Nat} {css : List (List Value)} (h : Rows k w (.slice a n cap) css)
    (hT : P.underlying T = some (.slice e)) (he : P.elem T = e) (hs : ∀ W, (sizeOf e).run P W = .ok k W) {i : Nat} {cs : List Value} (hi : css[i]? = some cs) :
    ∃ b off, (∀ W, (Instr.indexAt T (.slice a n cap) (.int .i64 (i : Int))).run P W = .ok (.pointer (some ⟨b, off + i * k, none⟩)) W) ∧
      ∀ j x, cs[j]? = some x → w.cell? ⟨b, off + i * k + j, none⟩ = some x := by
  obtain ⟨a', cap', hv, _, _, _, hr⟩ := h
  have hlt : i < css.length := (List.getElem?_eq_some_iff.1 hi).1
  obtain ⟨b, off, ha, hcell⟩ := hr (by intro e; rw [e] at hlt; simp at hlt)
  simp only [Value.slice.injEq] at hv
  obtain ⟨rfl, rfl, rfl⟩ := hv
  subst ha
  refine ⟨b, off, fun W => ?_, fun j x hj => hcell i cs hi j x hj⟩
  rw [run_indexAt_slice W T _ _ _ _ _ (by rw [he]; exact hT), if_pos ⟨by omega, by omega⟩, he, hs W]
  simp [Result.andThen, Addr.add_mid]

theorem sz3 (W : World) : (sizeOf 3).run Try.prog W = .ok 1 W := by rfl
theorem sz4 (W : World) : (sizeOf 4).run Try.prog W = .ok 1 W := by rfl
theorem sz26 (W : World) : (sizeOf 26).run Try.prog W = .ok 3 W := by rfl
theorem sz35 (W : World) : (sizeOf 35).run Try.prog W = .ok 4 W := by rfl
theorem sz38 (W : World) : (sizeOf 38).run Try.prog W = .ok 5 W := by rfl
theorem sz87 (W : World) : (sizeOf 87).run Try.prog W = .ok 3 W := by rfl
theorem sz48 (W : World) : (sizeOf 48).run Try.prog W = .ok 5 W := by rfl
theorem sz49 (W : World) : (sizeOf 49).run Try.prog W = .ok 1 W := by rfl
theorem sz71 (W : World) : (sizeOf 71).run Try.prog W = .ok 31 W := by rfl

/-- A use in a slice. -/
theorem us_at {w : World} {a : Option Addr} {n cap : Nat} {l : List Us} (h : Rows 4 w (.slice a n cap) (l.map usV)) {i : Nat} {u : Us} (hi : l[i]? = some u) :
    ∃ b off, (∀ W, (Instr.indexAt 22 (.slice a n cap) (.int .i64 (i : Int))).run Try.prog W = .ok (.pointer (some ⟨b, off + i * 4, none⟩)) W) ∧
      w.cell? ⟨b, off + i * 4, none⟩ = some (.int .i64 u.1.1) ∧ w.cell? ⟨b, off + i * 4 + 1, none⟩ = some (.int .i64 u.1.2) ∧ w.cell? ⟨b, off + i * 4 + 2, none⟩ = some (.int .i64 u.2.1) ∧
      w.cell? ⟨b, off + i * 4 + 3, none⟩ = some (.int .i64 u.2.2) := by
  obtain ⟨b, off, h1, h2⟩ := h.at (T := 22) (e := 35) Try.underlying22 rfl sz35 (i := i) (cs := usV u) (by simp [hi])
  exact ⟨b, off, h1, h2 0 _ rfl, h2 1 _ rfl, h2 2 _ rfl, h2 3 _ rfl⟩

/-- A grant in a slice. -/
theorem gr_at {w : World} {a : Option Addr} {n cap : Nat} {l : List Gr} (h : Rows 5 w (.slice a n cap) (l.map grV)) {i : Nat} {u : Gr} (hi : l[i]? = some u) :
    ∃ b off, (∀ W, (Instr.indexAt 23 (.slice a n cap) (.int .i64 (i : Int))).run Try.prog W = .ok (.pointer (some ⟨b, off + i * 5, none⟩)) W) ∧
      w.cell? ⟨b, off + i * 5, none⟩ = some (.int .i64 u.1.1) ∧ w.cell? ⟨b, off + i * 5 + 1, none⟩ = some (.int .i64 u.1.2) ∧ w.cell? ⟨b, off + i * 5 + 2, none⟩ = some (.int .i64 u.2.1) ∧
      w.cell? ⟨b, off + i * 5 + 3, none⟩ = some (.int .i64 u.2.2.1) ∧ w.cell? ⟨b, off + i * 5 + 4, none⟩ = some (.int .i64 u.2.2.2) := by
  obtain ⟨b, off, h1, h2⟩ := h.at (T := 23) (e := 38) Try.underlying23 rfl sz38 (i := i) (cs := grV u) (by simp [hi])
  exact ⟨b, off, h1, h2 0 _ rfl, h2 1 _ rfl, h2 2 _ rfl, h2 3 _ rfl, h2 4 _ rfl⟩

/-- An ask in a slice. -/
theorem ak_at {w : World} {a : Option Addr} {n cap : Nat} {l : List Ak} (h : Rows 3 w (.slice a n cap) (l.map akV)) {i : Nat} {u : Ak} (hi : l[i]? = some u) :
    ∃ b off, (∀ W, (Instr.indexAt 24 (.slice a n cap) (.int .i64 (i : Int))).run Try.prog W = .ok (.pointer (some ⟨b, off + i * 3, none⟩)) W) ∧
      w.cell? ⟨b, off + i * 3, none⟩ = some (.int .i64 u.1.1) ∧ w.cell? ⟨b, off + i * 3 + 1, none⟩ = some (.int .i64 u.1.2) ∧ w.cell? ⟨b, off + i * 3 + 2, none⟩ = some (.int .i64 u.2) := by
  obtain ⟨b, off, h1, h2⟩ := h.at (T := 24) (e := 87) Try.underlying24 rfl sz87 (i := i) (cs := akV u) (by simp [hi])
  exact ⟨b, off, h1, h2 0 _ rfl, h2 1 _ rfl, h2 2 _ rfl⟩

theorem bcell {W w1 : World} (hb : Below W.heap.size W w1) : (∀ b o, b < W.heap.size → w1.cell? ⟨b, o, none⟩ = W.cell? ⟨b, o, none⟩) ∧ (∀ b o, b < W.heap.size → w1.frozen? ⟨b, o, none⟩ = W.frozen? ⟨b, o, none⟩) :=
  ⟨fun b o h => hb.cell (p := ⟨b, o, none⟩) h, fun b o h => hb.frozen (p := ⟨b, o, none⟩) h⟩

theorem ret_bool {a b : Bool} (h : a = b) : Ending.returned (.bool a) = .returned (.bool b) := by rw [h]

theorem wp_name {P : Program} {c : Code} {Q : Exit → Act → World → Prop} {a : Act} {w : World} (h : ∀ W, W = w → c.wp P Q a W) : c.wp P Q a w := h w rfl

/-! ### '==' and '!=' on the structs, as one step -/
theorem cl_eql (x u : Cl) (W : World) : (binOp .eql 33 (.agg #[.int .i64 x.1, .int .i64 x.2]) (.agg #[.int .i64 u.1, .int .i64 u.2])).run Try.prog W = .ok (.bool (decide (x = u))) W := by
  go_simp
  obtain ⟨a, b⟩ := x
  obtain ⟨a', b'⟩ := u
  by_cases ha : a = a' <;> by_cases hb : b = b' <;> simp [*]
theorem cl_neq (x u : Cl) (W : World) : (binOp .neq 33 (.agg #[.int .i64 x.1, .int .i64 x.2]) (.agg #[.int .i64 u.1, .int .i64 u.2])).run Try.prog W = .ok (.bool (!decide (x = u))) W := by
  go_simp
  obtain ⟨a, b⟩ := x
  obtain ⟨a', b'⟩ := u
  by_cases ha : a = a' <;> by_cases hb : b = b' <;> simp [*]
theorem us_eql (x u : Us) (W : World) : (binOp .eql 35 (.agg #[.int .i64 x.1.1, .int .i64 x.1.2, .int .i64 x.2.1, .int .i64 x.2.2]) (.agg #[.int .i64 u.1.1, .int .i64 u.1.2, .int .i64 u.2.1, .int .i64 u.2.2])).run Try.prog W = .ok (.bool (decide (x = u))) W := by
  go_simp
  obtain ⟨⟨a, b⟩, c, d⟩ := x
  obtain ⟨⟨a', b'⟩, c', d'⟩ := u
  by_cases ha : a = a' <;> by_cases hb : b = b' <;> by_cases hc : c = c' <;> by_cases hd : d = d' <;> simp [*]
theorem us_neq (x u : Us) (W : World) : (binOp .neq 35 (.agg #[.int .i64 x.1.1, .int .i64 x.1.2, .int .i64 x.2.1, .int .i64 x.2.2]) (.agg #[.int .i64 u.1.1, .int .i64 u.1.2, .int .i64 u.2.1, .int .i64 u.2.2])).run Try.prog W = .ok (.bool (!decide (x = u))) W := by
  go_simp
  obtain ⟨⟨a, b⟩, c, d⟩ := x
  obtain ⟨⟨a', b'⟩, c', d'⟩ := u
  by_cases ha : a = a' <;> by_cases hb : b = b' <;> by_cases hc : c = c' <;> by_cases hd : d = d' <;> simp [*]
theorem gr_eql (x u : Gr) (W : World) : (binOp .eql 38 (.agg #[.int .i64 x.1.1, .int .i64 x.1.2, .int .i64 x.2.1, .int .i64 x.2.2.1, .int .i64 x.2.2.2]) (.agg #[.int .i64 u.1.1, .int .i64 u.1.2, .int .i64 u.2.1, .int .i64 u.2.2.1, .int .i64 u.2.2.2])).run Try.prog W = .ok (.bool (decide (x = u))) W := by
  go_simp
  obtain ⟨⟨a, b⟩, c, d, e⟩ := x
  obtain ⟨⟨a', b'⟩, c', d', e'⟩ := u
  by_cases ha : a = a' <;> by_cases hb : b = b' <;> by_cases hc : c = c' <;> by_cases hd : d = d' <;> by_cases he : e = e' <;> simp [*]
theorem gr_neq (x u : Gr) (W : World) : (binOp .neq 38 (.agg #[.int .i64 x.1.1, .int .i64 x.1.2, .int .i64 x.2.1, .int .i64 x.2.2.1, .int .i64 x.2.2.2]) (.agg #[.int .i64 u.1.1, .int .i64 u.1.2, .int .i64 u.2.1, .int .i64 u.2.2.1, .int .i64 u.2.2.2])).run Try.prog W = .ok (.bool (!decide (x = u))) W := by
  go_simp
  obtain ⟨⟨a, b⟩, c, d, e⟩ := x
  obtain ⟨⟨a', b'⟩, c', d', e'⟩ := u
  by_cases ha : a = a' <;> by_cases hb : b = b' <;> by_cases hc : c = c' <;> by_cases hd : d = d' <;> by_cases he : e = e' <;> simp [*]
theorem ak_eql (x u : Ak) (W : World) : (binOp .eql 87 (.agg #[.int .i64 x.1.1, .int .i64 x.1.2, .int .i64 x.2]) (.agg #[.int .i64 u.1.1, .int .i64 u.1.2, .int .i64 u.2])).run Try.prog W = .ok (.bool (decide (x = u))) W := by
  go_simp
  obtain ⟨⟨a, b⟩, c⟩ := x
  obtain ⟨⟨a', b'⟩, c'⟩ := u
  by_cases ha : a = a' <;> by_cases hb : b = b' <;> by_cases hc : c = c' <;> simp [*]
theorem ak_neq (x u : Ak) (W : World) : (binOp .neq 87 (.agg #[.int .i64 x.1.1, .int .i64 x.1.2, .int .i64 x.2]) (.agg #[.int .i64 u.1.1, .int .i64 u.1.2, .int .i64 u.2])).run Try.prog W = .ok (.bool (!decide (x = u))) W := by
  go_simp
  obtain ⟨⟨a, b⟩, c⟩ := x
  obtain ⟨⟨a', b'⟩, c'⟩ := u
  by_cases ha : a = a' <;> by_cases hb : b = b' <;> by_cases hc : c = c' <;> simp [*]
theorem ch_eql (x u : Ch) (W : World) : (binOp .eql 48 (.agg #[.int .i64 x.1.1, .int .i64 x.1.2, .int .i64 x.2.1, .int .i64 x.2.2.1, .int .i64 x.2.2.2]) (.agg #[.int .i64 u.1.1, .int .i64 u.1.2, .int .i64 u.2.1, .int .i64 u.2.2.1, .int .i64 u.2.2.2])).run Try.prog W = .ok (.bool (decide (x = u))) W := by
  go_simp
  obtain ⟨⟨a, b⟩, c, d, e⟩ := x
  obtain ⟨⟨a', b'⟩, c', d', e'⟩ := u
  by_cases ha : a = a' <;> by_cases hb : b = b' <;> by_cases hc : c = c' <;> by_cases hd : d = d' <;> by_cases he : e = e' <;> simp [*]
theorem ch_neq (x u : Ch) (W : World) : (binOp .neq 48 (.agg #[.int .i64 x.1.1, .int .i64 x.1.2, .int .i64 x.2.1, .int .i64 x.2.2.1, .int .i64 x.2.2.2]) (.agg #[.int .i64 u.1.1, .int .i64 u.1.2, .int .i64 u.2.1, .int .i64 u.2.2.1, .int .i64 u.2.2.2])).run Try.prog W = .ok (.bool (!decide (x = u))) W := by
  go_simp
  obtain ⟨⟨a, b⟩, c, d, e⟩ := x
  obtain ⟨⟨a', b'⟩, c', d', e'⟩ := u
  by_cases ha : a = a' <;> by_cases hb : b = b' <;> by_cases hc : c = c' <;> by_cases hd : d = d' <;> by_cases he : e = e' <;> simp [*]

end Go.Proofs.Ytadiocpcpjbjpaa

import Derived.Test.YtadiocpcpjbjpaaT
import Derived.ProofKit
import Derived.OpenShut
import Derived.ChangeSame
import Derived.JoinedOf
import Derived.JoinedAt
import Derived.Lib.SmallJoins
import Derived.Deep.Slices
import Derived.Deep.Fields
namespace Go.Proofs.Ytadiocpcpjbjpaa
open Go.ChangeShapes Go.WideShapes Go.ChangeAt Go.RowKit Go.Joins

/-! ### From the readings of the arguments to the plain data -/
section
variable {H : Type} {enc : TypeId × Value → H} {w : World} {base : Nat} {spare : Nat → Bool} {held : Bool}

theorem rows_read {α : Type} [Inhabited α] {t e : TypeId} {k fuel : Nat} {cs : List Value} {x : DataW H × List MemPlace} (V : α → List Value) (Q : α → Prop) (ht : Try.prog.underlying t = some (.slice e)) (hk : Try.prog.cellsOf e = k) (hp : 0 < k)
    (hV : ∀ a, (V a).length = k) (he : ∀ (n : Nat) (cs' : List Value) (y : DataW H × List MemPlace), DataW.trod enc Try.prog w base spare held n e cs' = some y → ∃ a, cs' = V a ∧ Q a)
    (h : DataW.trod enc Try.prog w base spare held fuel t cs = some x) : ∃ (a : Option Addr) (len cap : Nat) (xs : List α), cs = [.slice a len cap] ∧ Rows k w (.slice a len cap) (xs.map V) ∧ ∀ x ∈ xs, Q x := by
  rcases Go.Deep.open_slice ht h with ⟨rfl, _⟩ | ⟨a, len, cap, m, n, D, Pl, rfl, hb, hl, hm, hmm, _, hi⟩
  · exact ⟨none, 0, 0, [], rfl, ⟨none, 0, rfl, by simp, by simp, by simp, by simp⟩, by simp⟩
  · have hlm : len ≤ m := by rw [hmm]; split <;> omega
    obtain ⟨f, hf⟩ := Go.Deep.choose_lt (n := len) (p := fun i (x : α) => w.cells? base (a.add (i * k)) k = some (V x) ∧ Q x) (fun i hil => by
      obtain ⟨cs', h1, h2⟩ := hi i (by omega)
      obtain ⟨x, rfl, hq⟩ := he _ _ _ h2
      rw [hk] at h1
      exact ⟨x, h1, hq⟩)
    refine ⟨some a, len, cap, (List.range len).map f, rfl, ⟨some a, cap, by simp, by simpa using hl, hm, ?_, fun hne => ?_⟩, ?_⟩
    · intro cs h
      obtain ⟨x, _, rfl⟩ := List.mem_map.1 h
      exact hV x
    · have hpos : 0 < len := by
        cases len with
        | zero => simp at hne
        | succ n => omega
      obtain ⟨b, off, spot⟩ := a
      have h0 := (World.cells?_some (hf 0 hpos).1).2.2 0 hp
      rw [Nat.zero_mul] at h0
      have hsp : spot = none := by
        have h1 : w.cell? ⟨b, off, spot⟩ = (V (f 0))[0]? := h0
        rw [List.getElem?_eq_getElem (by rw [hV]; exact hp)] at h1
        unfold World.cell? at h1
        split at h1
        · split at h1
          · cases h1
          · rename_i hs
            simpa using hs
        · cases h1
      subst hsp
      refine ⟨b, off, rfl, fun i ds hi' j y hj => ?_⟩
      rw [List.getElem?_map, List.getElem?_map] at hi'
      cases hr : (List.range len)[i]? with
      | none => rw [hr] at hi'; cases hi'
      | some i' =>
        have hlt := (List.getElem?_eq_some_iff.1 hr).1
        have : i' = i := by
          have := (List.getElem?_eq_some_iff.1 hr).2
          simpa using this.symm
        subst this
        rw [hr] at hi'
        simp only [Option.map_some, Option.some.injEq] at hi'
        subst hi'
        have hil : i' < len := by simpa using hlt
        have hjl : j < k := by
          have := (List.getElem?_eq_some_iff.1 hj).1
          rw [hV] at this
          exact this
        have h2 := (World.cells?_some (hf i' hil).1).2.2 j hjl
        rw [Addr.add_mid, Addr.add_mid] at h2
        rw [h2, hj]
    · intro x hx
      obtain ⟨i, hi', rfl⟩ := List.mem_map.1 hx
      exact (hf i (List.mem_range.1 hi')).2

theorem slice_read {t e : TypeId} {fuel : Nat} {cs : List Value} {x : DataW H × List MemPlace} (ht : Try.prog.underlying t = some (.slice e)) (h : DataW.trod enc Try.prog w base spare held fuel t cs = some x) : ∃ (a : Option Addr) (len cap : Nat), cs = [.slice a len cap] := by
  rcases Go.Deep.open_slice ht h with ⟨rfl, _⟩ | ⟨a, len, cap, m, n, D, Pl, rfl, _⟩
  · exact ⟨_, _, _, rfl⟩
  · exact ⟨_, _, _, rfl⟩

theorem cl_read {fuel : Nat} {cs : List Value} {x : DataW H × List MemPlace} (h : DataW.trod enc Try.prog w base spare held fuel 33 cs = some x) : ∃ c : Cl, cs = [.int .i64 c.1, .int .i64 c.2] := by
  obtain ⟨ys, n, _, _, hlen, hyl, hf⟩ := DataW.trod_struct Try.underlying33 h
  have hc : Try.prog.cellsOf 33 = 2 := by kernel_rfl
  rw [hc] at hlen
  match cs, hlen with
  | [c0, c1], _ =>
    obtain ⟨y0, e0⟩ : ∃ y, ys[0]? = some y := ⟨ys[0]'(by rw [hyl]; simp), List.getElem?_eq_getElem _⟩
    have hh : DataW.trod enc Try.prog w base spare held n 3 ((([c0, c1] : List Value).drop 0).take (Try.prog.cellsOf 3)) = ys[0]? := hf 0 _ rfl
    have k0 : Try.prog.cellsOf 3 = 1 := by kernel_rfl
    rw [k0, e0] at hh
    have f0 : DataW.trod enc Try.prog w base spare held n 3 [c0] = some y0 := hh
    clear hh
    clear k0 e0
    obtain ⟨y1, e1⟩ : ∃ y, ys[1]? = some y := ⟨ys[1]'(by rw [hyl]; simp), List.getElem?_eq_getElem _⟩
    have hh : DataW.trod enc Try.prog w base spare held n 3 ((([c0, c1] : List Value).drop 1).take (Try.prog.cellsOf 3)) = ys[1]? := hf 1 _ rfl
    have k1 : Try.prog.cellsOf 3 = 1 := by kernel_rfl
    rw [k1, e1] at hh
    have f1 : DataW.trod enc Try.prog w base spare held n 3 [c1] = some y1 := hh
    clear hh
    clear k1 e1
    obtain ⟨v0, g0, _, _⟩ := DataW.trod_int Try.underlying3 f0
    simp only [List.cons.injEq, and_true] at g0
    subst g0
    obtain ⟨v1, g1, _, _⟩ := DataW.trod_int Try.underlying3 f1
    simp only [List.cons.injEq, and_true] at g1
    subst g1
    exact ⟨(v0, v1), rfl⟩

theorem us_read {fuel : Nat} {cs : List Value} {x : DataW H × List MemPlace} (h : DataW.trod enc Try.prog w base spare held fuel 35 cs = some x) : ∃ u : Us, cs = usV u ∧ True := by
  obtain ⟨ys, n, _, _, hlen, hyl, hf⟩ := DataW.trod_struct Try.underlying35 h
  have hc : Try.prog.cellsOf 35 = 4 := by kernel_rfl
  rw [hc] at hlen
  match cs, hlen with
  | [c0, c1, c2, c3], _ =>
    obtain ⟨y0, e0⟩ : ∃ y, ys[0]? = some y := ⟨ys[0]'(by rw [hyl]; simp), List.getElem?_eq_getElem _⟩
    have hh : DataW.trod enc Try.prog w base spare held n 33 ((([c0, c1, c2, c3] : List Value).drop 0).take (Try.prog.cellsOf 33)) = ys[0]? := hf 0 _ rfl
    have k0 : Try.prog.cellsOf 33 = 2 := by kernel_rfl
    rw [k0, e0] at hh
    have f0 : DataW.trod enc Try.prog w base spare held n 33 [c0, c1] = some y0 := hh
    clear hh
    clear k0 e0
    obtain ⟨y1, e1⟩ : ∃ y, ys[1]? = some y := ⟨ys[1]'(by rw [hyl]; simp), List.getElem?_eq_getElem _⟩
    have hh : DataW.trod enc Try.prog w base spare held n 3 ((([c0, c1, c2, c3] : List Value).drop 2).take (Try.prog.cellsOf 3)) = ys[1]? := hf 1 _ rfl
    have k1 : Try.prog.cellsOf 3 = 1 := by kernel_rfl
    rw [k1, e1] at hh
    have f1 : DataW.trod enc Try.prog w base spare held n 3 [c2] = some y1 := hh
    clear hh
    clear k1 e1
    obtain ⟨y2, e2⟩ : ∃ y, ys[2]? = some y := ⟨ys[2]'(by rw [hyl]; simp), List.getElem?_eq_getElem _⟩
    have hh : DataW.trod enc Try.prog w base spare held n 3 ((([c0, c1, c2, c3] : List Value).drop 3).take (Try.prog.cellsOf 3)) = ys[2]? := hf 2 _ rfl
    have k2 : Try.prog.cellsOf 3 = 1 := by kernel_rfl
    rw [k2, e2] at hh
    have f2 : DataW.trod enc Try.prog w base spare held n 3 [c3] = some y2 := hh
    clear hh
    clear k2 e2
    obtain ⟨v0, g0⟩ := cl_read f0
    simp only [List.cons.injEq, and_true] at g0
    obtain ⟨g0, g0'⟩ := g0
    subst g0 g0'
    obtain ⟨v1, g1, _, _⟩ := DataW.trod_int Try.underlying3 f1
    simp only [List.cons.injEq, and_true] at g1
    subst g1
    obtain ⟨v2, g2, _, _⟩ := DataW.trod_int Try.underlying3 f2
    simp only [List.cons.injEq, and_true] at g2
    subst g2
    exact ⟨(v0, v1, v2), rfl, trivial⟩

theorem gr_read {fuel : Nat} {cs : List Value} {x : DataW H × List MemPlace} (h : DataW.trod enc Try.prog w base spare held fuel 38 cs = some x) : ∃ u : Gr, cs = grV u ∧ True := by
  obtain ⟨ys, n, _, _, hlen, hyl, hf⟩ := DataW.trod_struct Try.underlying38 h
  have hc : Try.prog.cellsOf 38 = 5 := by kernel_rfl
  rw [hc] at hlen
  match cs, hlen with
  | [c0, c1, c2, c3, c4], _ =>
    obtain ⟨y0, e0⟩ : ∃ y, ys[0]? = some y := ⟨ys[0]'(by rw [hyl]; simp), List.getElem?_eq_getElem _⟩
    have hh : DataW.trod enc Try.prog w base spare held n 33 ((([c0, c1, c2, c3, c4] : List Value).drop 0).take (Try.prog.cellsOf 33)) = ys[0]? := hf 0 _ rfl
    have k0 : Try.prog.cellsOf 33 = 2 := by kernel_rfl
    rw [k0, e0] at hh
    have f0 : DataW.trod enc Try.prog w base spare held n 33 [c0, c1] = some y0 := hh
    clear hh
    clear k0 e0
    obtain ⟨y1, e1⟩ : ∃ y, ys[1]? = some y := ⟨ys[1]'(by rw [hyl]; simp), List.getElem?_eq_getElem _⟩
    have hh : DataW.trod enc Try.prog w base spare held n 3 ((([c0, c1, c2, c3, c4] : List Value).drop 2).take (Try.prog.cellsOf 3)) = ys[1]? := hf 1 _ rfl
    have k1 : Try.prog.cellsOf 3 = 1 := by kernel_rfl
    rw [k1, e1] at hh
    have f1 : DataW.trod enc Try.prog w base spare held n 3 [c2] = some y1 := hh
    clear hh
    clear k1 e1
    obtain ⟨y2, e2⟩ : ∃ y, ys[2]? = some y := ⟨ys[2]'(by rw [hyl]; simp), List.getElem?_eq_getElem _⟩
    have hh : DataW.trod enc Try.prog w base spare held n 3 ((([c0, c1, c2, c3, c4] : List Value).drop 3).take (Try.prog.cellsOf 3)) = ys[2]? := hf 2 _ rfl
    have k2 : Try.prog.cellsOf 3 = 1 := by kernel_rfl
    rw [k2, e2] at hh
    have f2 : DataW.trod enc Try.prog w base spare held n 3 [c3] = some y2 := hh
    clear hh
    clear k2 e2
    obtain ⟨y3, e3⟩ : ∃ y, ys[3]? = some y := ⟨ys[3]'(by rw [hyl]; simp), List.getElem?_eq_getElem _⟩
    have hh : DataW.trod enc Try.prog w base spare held n 3 ((([c0, c1, c2, c3, c4] : List Value).drop 4).take (Try.prog.cellsOf 3)) = ys[3]? := hf 3 _ rfl
    have k3 : Try.prog.cellsOf 3 = 1 := by kernel_rfl
    rw [k3, e3] at hh
    have f3 : DataW.trod enc Try.prog w base spare held n 3 [c4] = some y3 := hh
    clear hh
    clear k3 e3
    obtain ⟨v0, g0⟩ := cl_read f0
    simp only [List.cons.injEq, and_true] at g0
    obtain ⟨g0, g0'⟩ := g0
    subst g0 g0'
    obtain ⟨v1, g1, _, _⟩ := DataW.trod_int Try.underlying3 f1
    simp only [List.cons.injEq, and_true] at g1
    subst g1
    obtain ⟨v2, g2, _, _⟩ := DataW.trod_int Try.underlying3 f2
    simp only [List.cons.injEq, and_true] at g2
    subst g2
    obtain ⟨v3, g3, _, _⟩ := DataW.trod_int Try.underlying3 f3
    simp only [List.cons.injEq, and_true] at g3
    subst g3
    exact ⟨(v0, v1, v2, v3), rfl, trivial⟩

theorem ak_read {fuel : Nat} {cs : List Value} {x : DataW H × List MemPlace} (h : DataW.trod enc Try.prog w base spare held fuel 87 cs = some x) : ∃ u : Ak, cs = akV u ∧ True := by
  obtain ⟨ys, n, _, _, hlen, hyl, hf⟩ := DataW.trod_struct Try.underlying87 h
  have hc : Try.prog.cellsOf 87 = 3 := by kernel_rfl
  rw [hc] at hlen
  match cs, hlen with
  | [c0, c1, c2], _ =>
    obtain ⟨y0, e0⟩ : ∃ y, ys[0]? = some y := ⟨ys[0]'(by rw [hyl]; simp), List.getElem?_eq_getElem _⟩
    have hh : DataW.trod enc Try.prog w base spare held n 33 ((([c0, c1, c2] : List Value).drop 0).take (Try.prog.cellsOf 33)) = ys[0]? := hf 0 _ rfl
    have k0 : Try.prog.cellsOf 33 = 2 := by kernel_rfl
    rw [k0, e0] at hh
    have f0 : DataW.trod enc Try.prog w base spare held n 33 [c0, c1] = some y0 := hh
    clear hh
    clear k0 e0
    obtain ⟨y1, e1⟩ : ∃ y, ys[1]? = some y := ⟨ys[1]'(by rw [hyl]; simp), List.getElem?_eq_getElem _⟩
    have hh : DataW.trod enc Try.prog w base spare held n 3 ((([c0, c1, c2] : List Value).drop 2).take (Try.prog.cellsOf 3)) = ys[1]? := hf 1 _ rfl
    have k1 : Try.prog.cellsOf 3 = 1 := by kernel_rfl
    rw [k1, e1] at hh
    have f1 : DataW.trod enc Try.prog w base spare held n 3 [c2] = some y1 := hh
    clear hh
    clear k1 e1
    obtain ⟨v0, g0⟩ := cl_read f0
    simp only [List.cons.injEq, and_true] at g0
    obtain ⟨g0, g0'⟩ := g0
    subst g0 g0'
    obtain ⟨v1, g1, _, _⟩ := DataW.trod_int Try.underlying3 f1
    simp only [List.cons.injEq, and_true] at g1
    subst g1
    exact ⟨(v0, v1), rfl, trivial⟩

theorem uses_read {fuel : Nat} {cs : List Value} {x : DataW H × List MemPlace} (h : DataW.trod enc Try.prog w base spare held fuel 22 cs = some x) : ∃ (a : Option Addr) (len cap : Nat) (xs : List Us), cs = [.slice a len cap] ∧ Rows 4 w (.slice a len cap) (xs.map usV) := by
  obtain ⟨a, len, cap, xs, h1, h2, _⟩ := rows_read usV (fun _ => True) Try.underlying22 (k := 4) (by kernel_rfl) (by omega) (fun _ => rfl) (fun n cs' y h => us_read h) h
  exact ⟨a, len, cap, xs, h1, h2⟩

theorem grants_read {fuel : Nat} {cs : List Value} {x : DataW H × List MemPlace} (h : DataW.trod enc Try.prog w base spare held fuel 23 cs = some x) : ∃ (a : Option Addr) (len cap : Nat) (xs : List Gr), cs = [.slice a len cap] ∧ Rows 5 w (.slice a len cap) (xs.map grV) := by
  obtain ⟨a, len, cap, xs, h1, h2, _⟩ := rows_read grV (fun _ => True) Try.underlying23 (k := 5) (by kernel_rfl) (by omega) (fun _ => rfl) (fun n cs' y h => gr_read h) h
  exact ⟨a, len, cap, xs, h1, h2⟩

theorem asks_read {fuel : Nat} {cs : List Value} {x : DataW H × List MemPlace} (h : DataW.trod enc Try.prog w base spare held fuel 24 cs = some x) : ∃ (a : Option Addr) (len cap : Nat) (xs : List Ak), cs = [.slice a len cap] ∧ Rows 3 w (.slice a len cap) (xs.map akV) := by
  obtain ⟨a, len, cap, xs, h1, h2, _⟩ := rows_read akV (fun _ => True) Try.underlying24 (k := 3) (by kernel_rfl) (by omega) (fun _ => rfl) (fun n cs' y h => ak_read h) h
  exact ⟨a, len, cap, xs, h1, h2⟩

theorem tb_read {fuel : Nat} {cs : List Value} {x : DataW H × List MemPlace} (h : DataW.trod enc Try.prog w base spare held fuel 26 cs = some x) : ∃ t : Tb, cs = tbV t ∧ TbOk w t := by
  obtain ⟨ys, n, _, _, hlen, hyl, hf⟩ := DataW.trod_struct Try.underlying26 h
  have hc : Try.prog.cellsOf 26 = 3 := by kernel_rfl
  rw [hc] at hlen
  match cs, hlen with
  | [c0, c1, c2], _ =>
    obtain ⟨y0, e0⟩ : ∃ y, ys[0]? = some y := ⟨ys[0]'(by rw [hyl]; simp), List.getElem?_eq_getElem _⟩
    have hh : DataW.trod enc Try.prog w base spare held n 22 ((([c0, c1, c2] : List Value).drop 0).take (Try.prog.cellsOf 22)) = ys[0]? := hf 0 _ rfl
    have k0 : Try.prog.cellsOf 22 = 1 := by kernel_rfl
    rw [k0, e0] at hh
    have f0 : DataW.trod enc Try.prog w base spare held n 22 [c0] = some y0 := hh
    clear hh
    clear k0 e0
    obtain ⟨y1, e1⟩ : ∃ y, ys[1]? = some y := ⟨ys[1]'(by rw [hyl]; simp), List.getElem?_eq_getElem _⟩
    have hh : DataW.trod enc Try.prog w base spare held n 23 ((([c0, c1, c2] : List Value).drop 1).take (Try.prog.cellsOf 23)) = ys[1]? := hf 1 _ rfl
    have k1 : Try.prog.cellsOf 23 = 1 := by kernel_rfl
    rw [k1, e1] at hh
    have f1 : DataW.trod enc Try.prog w base spare held n 23 [c1] = some y1 := hh
    clear hh
    clear k1 e1
    obtain ⟨y2, e2⟩ : ∃ y, ys[2]? = some y := ⟨ys[2]'(by rw [hyl]; simp), List.getElem?_eq_getElem _⟩
    have hh : DataW.trod enc Try.prog w base spare held n 24 ((([c0, c1, c2] : List Value).drop 2).take (Try.prog.cellsOf 24)) = ys[2]? := hf 2 _ rfl
    have k2 : Try.prog.cellsOf 24 = 1 := by kernel_rfl
    rw [k2, e2] at hh
    have f2 : DataW.trod enc Try.prog w base spare held n 24 [c2] = some y2 := hh
    clear hh
    clear k2 e2
    obtain ⟨a0, l0, p0, x0, g0, r0⟩ := uses_read f0
    simp only [List.cons.injEq, and_true] at g0
    subst g0
    obtain ⟨a1, l1, p1, x1, g1, r1⟩ := grants_read f1
    simp only [List.cons.injEq, and_true] at g1
    subst g1
    obtain ⟨a2, l2, p2, x2, g2, r2⟩ := asks_read f2
    simp only [List.cons.injEq, and_true] at g2
    subst g2
    exact ⟨⟨a0, l0, p0, a1, l1, p1, a2, l2, p2, x0, x1, x2⟩, rfl, r0, r1, r2⟩

theorem pair55_read {fuel : Nat} {cs : List Value} {x : DataW H × List MemPlace} (h : DataW.trod enc Try.prog w base spare held fuel 55 cs = some x) : ∃ a b : Int, cs = [.int .i64 a, .int .i64 b] := by
  obtain ⟨ys, n, _, _, hlen, hyl, hf⟩ := DataW.trod_struct Try.underlying55 h
  have hc : Try.prog.cellsOf 55 = 2 := by kernel_rfl
  rw [hc] at hlen
  match cs, hlen with
  | [c0, c1], _ =>
    obtain ⟨y0, e0⟩ : ∃ y, ys[0]? = some y := ⟨ys[0]'(by rw [hyl]; simp), List.getElem?_eq_getElem _⟩
    have hh : DataW.trod enc Try.prog w base spare held n 3 ((([c0, c1] : List Value).drop 0).take (Try.prog.cellsOf 3)) = ys[0]? := hf 0 _ rfl
    have k0 : Try.prog.cellsOf 3 = 1 := by kernel_rfl
    rw [k0, e0] at hh
    have f0 : DataW.trod enc Try.prog w base spare held n 3 [c0] = some y0 := hh
    clear hh
    clear k0 e0
    obtain ⟨y1, e1⟩ : ∃ y, ys[1]? = some y := ⟨ys[1]'(by rw [hyl]; simp), List.getElem?_eq_getElem _⟩
    have hh : DataW.trod enc Try.prog w base spare held n 3 ((([c0, c1] : List Value).drop 1).take (Try.prog.cellsOf 3)) = ys[1]? := hf 1 _ rfl
    have k1 : Try.prog.cellsOf 3 = 1 := by kernel_rfl
    rw [k1, e1] at hh
    have f1 : DataW.trod enc Try.prog w base spare held n 3 [c1] = some y1 := hh
    clear hh
    clear k1 e1
    obtain ⟨v0, g0, _, _⟩ := DataW.trod_int Try.underlying3 f0
    simp only [List.cons.injEq, and_true] at g0
    subst g0
    obtain ⟨v1, g1, _, _⟩ := DataW.trod_int Try.underlying3 f1
    simp only [List.cons.injEq, and_true] at g1
    subst g1
    exact ⟨v0, v1, rfl⟩

theorem pair57_read {fuel : Nat} {cs : List Value} {x : DataW H × List MemPlace} (h : DataW.trod enc Try.prog w base spare held fuel 57 cs = some x) : ∃ a b : Int, cs = [.int .i64 a, .int .i64 b] := by
  obtain ⟨ys, n, _, _, hlen, hyl, hf⟩ := DataW.trod_struct Try.underlying57 h
  have hc : Try.prog.cellsOf 57 = 2 := by kernel_rfl
  rw [hc] at hlen
  match cs, hlen with
  | [c0, c1], _ =>
    obtain ⟨y0, e0⟩ : ∃ y, ys[0]? = some y := ⟨ys[0]'(by rw [hyl]; simp), List.getElem?_eq_getElem _⟩
    have hh : DataW.trod enc Try.prog w base spare held n 3 ((([c0, c1] : List Value).drop 0).take (Try.prog.cellsOf 3)) = ys[0]? := hf 0 _ rfl
    have k0 : Try.prog.cellsOf 3 = 1 := by kernel_rfl
    rw [k0, e0] at hh
    have f0 : DataW.trod enc Try.prog w base spare held n 3 [c0] = some y0 := hh
    clear hh
    clear k0 e0
    obtain ⟨y1, e1⟩ : ∃ y, ys[1]? = some y := ⟨ys[1]'(by rw [hyl]; simp), List.getElem?_eq_getElem _⟩
    have hh : DataW.trod enc Try.prog w base spare held n 3 ((([c0, c1] : List Value).drop 1).take (Try.prog.cellsOf 3)) = ys[1]? := hf 1 _ rfl
    have k1 : Try.prog.cellsOf 3 = 1 := by kernel_rfl
    rw [k1, e1] at hh
    have f1 : DataW.trod enc Try.prog w base spare held n 3 [c1] = some y1 := hh
    clear hh
    clear k1 e1
    obtain ⟨v0, g0, _, _⟩ := DataW.trod_int Try.underlying3 f0
    simp only [List.cons.injEq, and_true] at g0
    subst g0
    obtain ⟨v1, g1, _, _⟩ := DataW.trod_int Try.underlying3 f1
    simp only [List.cons.injEq, and_true] at g1
    subst g1
    exact ⟨v0, v1, rfl⟩

theorem notice_read {fuel : Nat} {cs : List Value} {x : DataW H × List MemPlace} (h : DataW.trod enc Try.prog w base spare held fuel 63 cs = some x) : ∃ a b c d : Int, cs = [.int .i64 a, .int .i64 b, .int .u64 c, .int .i64 d] := by
  obtain ⟨ys, n, _, _, hlen, hyl, hf⟩ := DataW.trod_struct Try.underlying63 h
  have hc : Try.prog.cellsOf 63 = 4 := by kernel_rfl
  rw [hc] at hlen
  match cs, hlen with
  | [c0, c1, c2, c3], _ =>
    obtain ⟨y0, e0⟩ : ∃ y, ys[0]? = some y := ⟨ys[0]'(by rw [hyl]; simp), List.getElem?_eq_getElem _⟩
    have hh : DataW.trod enc Try.prog w base spare held n 3 ((([c0, c1, c2, c3] : List Value).drop 0).take (Try.prog.cellsOf 3)) = ys[0]? := hf 0 _ rfl
    have k0 : Try.prog.cellsOf 3 = 1 := by kernel_rfl
    rw [k0, e0] at hh
    have f0 : DataW.trod enc Try.prog w base spare held n 3 [c0] = some y0 := hh
    clear hh
    clear k0 e0
    obtain ⟨y1, e1⟩ : ∃ y, ys[1]? = some y := ⟨ys[1]'(by rw [hyl]; simp), List.getElem?_eq_getElem _⟩
    have hh : DataW.trod enc Try.prog w base spare held n 3 ((([c0, c1, c2, c3] : List Value).drop 1).take (Try.prog.cellsOf 3)) = ys[1]? := hf 1 _ rfl
    have k1 : Try.prog.cellsOf 3 = 1 := by kernel_rfl
    rw [k1, e1] at hh
    have f1 : DataW.trod enc Try.prog w base spare held n 3 [c1] = some y1 := hh
    clear hh
    clear k1 e1
    obtain ⟨y2, e2⟩ : ∃ y, ys[2]? = some y := ⟨ys[2]'(by rw [hyl]; simp), List.getElem?_eq_getElem _⟩
    have hh : DataW.trod enc Try.prog w base spare held n 61 ((([c0, c1, c2, c3] : List Value).drop 2).take (Try.prog.cellsOf 61)) = ys[2]? := hf 2 _ rfl
    have k2 : Try.prog.cellsOf 61 = 1 := by kernel_rfl
    rw [k2, e2] at hh
    have f2 : DataW.trod enc Try.prog w base spare held n 61 [c2] = some y2 := hh
    clear hh
    clear k2 e2
    obtain ⟨y3, e3⟩ : ∃ y, ys[3]? = some y := ⟨ys[3]'(by rw [hyl]; simp), List.getElem?_eq_getElem _⟩
    have hh : DataW.trod enc Try.prog w base spare held n 3 ((([c0, c1, c2, c3] : List Value).drop 3).take (Try.prog.cellsOf 3)) = ys[3]? := hf 3 _ rfl
    have k3 : Try.prog.cellsOf 3 = 1 := by kernel_rfl
    rw [k3, e3] at hh
    have f3 : DataW.trod enc Try.prog w base spare held n 3 [c3] = some y3 := hh
    clear hh
    clear k3 e3
    obtain ⟨v0, g0, _, _⟩ := DataW.trod_int Try.underlying3 f0
    simp only [List.cons.injEq, and_true] at g0
    subst g0
    obtain ⟨v1, g1, _, _⟩ := DataW.trod_int Try.underlying3 f1
    simp only [List.cons.injEq, and_true] at g1
    subst g1
    obtain ⟨v2, g2, _, _⟩ := DataW.trod_int Try.underlying61 f2
    simp only [List.cons.injEq, and_true] at g2
    subst g2
    obtain ⟨v3, g3, _, _⟩ := DataW.trod_int Try.underlying3 f3
    simp only [List.cons.injEq, and_true] at g3
    subst g3
    exact ⟨v0, v1, v2, v3, rfl⟩

theorem block_read {fuel : Nat} {cs : List Value} {x : DataW H × List MemPlace} (h : DataW.trod enc Try.prog w base spare held fuel 67 cs = some x) : ∃ (a b : Int) (c : Option Addr) (d e : Nat) (f : Option Addr) (g i : Nat), cs = [.int .i64 a, .int .i64 b, .slice c d e, .slice f g i] := by
  obtain ⟨ys, n, _, _, hlen, hyl, hf⟩ := DataW.trod_struct Try.underlying67 h
  have hc : Try.prog.cellsOf 67 = 4 := by kernel_rfl
  rw [hc] at hlen
  match cs, hlen with
  | [c0, c1, c2, c3], _ =>
    obtain ⟨y0, e0⟩ : ∃ y, ys[0]? = some y := ⟨ys[0]'(by rw [hyl]; simp), List.getElem?_eq_getElem _⟩
    have hh : DataW.trod enc Try.prog w base spare held n 3 ((([c0, c1, c2, c3] : List Value).drop 0).take (Try.prog.cellsOf 3)) = ys[0]? := hf 0 _ rfl
    have k0 : Try.prog.cellsOf 3 = 1 := by kernel_rfl
    rw [k0, e0] at hh
    have f0 : DataW.trod enc Try.prog w base spare held n 3 [c0] = some y0 := hh
    clear hh
    clear k0 e0
    obtain ⟨y1, e1⟩ : ∃ y, ys[1]? = some y := ⟨ys[1]'(by rw [hyl]; simp), List.getElem?_eq_getElem _⟩
    have hh : DataW.trod enc Try.prog w base spare held n 3 ((([c0, c1, c2, c3] : List Value).drop 1).take (Try.prog.cellsOf 3)) = ys[1]? := hf 1 _ rfl
    have k1 : Try.prog.cellsOf 3 = 1 := by kernel_rfl
    rw [k1, e1] at hh
    have f1 : DataW.trod enc Try.prog w base spare held n 3 [c1] = some y1 := hh
    clear hh
    clear k1 e1
    obtain ⟨y2, e2⟩ : ∃ y, ys[2]? = some y := ⟨ys[2]'(by rw [hyl]; simp), List.getElem?_eq_getElem _⟩
    have hh : DataW.trod enc Try.prog w base spare held n 64 ((([c0, c1, c2, c3] : List Value).drop 2).take (Try.prog.cellsOf 64)) = ys[2]? := hf 2 _ rfl
    have k2 : Try.prog.cellsOf 64 = 1 := by kernel_rfl
    rw [k2, e2] at hh
    have f2 : DataW.trod enc Try.prog w base spare held n 64 [c2] = some y2 := hh
    clear hh
    clear k2 e2
    obtain ⟨y3, e3⟩ : ∃ y, ys[3]? = some y := ⟨ys[3]'(by rw [hyl]; simp), List.getElem?_eq_getElem _⟩
    have hh : DataW.trod enc Try.prog w base spare held n 65 ((([c0, c1, c2, c3] : List Value).drop 3).take (Try.prog.cellsOf 65)) = ys[3]? := hf 3 _ rfl
    have k3 : Try.prog.cellsOf 65 = 1 := by kernel_rfl
    rw [k3, e3] at hh
    have f3 : DataW.trod enc Try.prog w base spare held n 65 [c3] = some y3 := hh
    clear hh
    clear k3 e3
    obtain ⟨v0, g0, _, _⟩ := DataW.trod_int Try.underlying3 f0
    simp only [List.cons.injEq, and_true] at g0
    subst g0
    obtain ⟨v1, g1, _, _⟩ := DataW.trod_int Try.underlying3 f1
    simp only [List.cons.injEq, and_true] at g1
    subst g1
    obtain ⟨a2, l2, p2, g2⟩ := slice_read Try.underlying64 f2
    simp only [List.cons.injEq, and_true] at g2
    subst g2
    obtain ⟨a3, l3, p3, g3⟩ := slice_read Try.underlying65 f3
    simp only [List.cons.injEq, and_true] at g3
    subst g3
    exact ⟨v0, v1, a2, l2, p2, a3, l3, p3, rfl⟩

theorem bc_read {fuel : Nat} {cs : List Value} {x : DataW H × List MemPlace} (h : DataW.trod enc Try.prog w base spare held fuel 69 cs = some x) : ∃ b : Bc, cs = bcV b ∧ BcOk w b := by
  obtain ⟨ys, n, _, _, hlen, hyl, hf⟩ := DataW.trod_struct Try.underlying69 h
  have hc : Try.prog.cellsOf 69 = 30 := by kernel_rfl
  rw [hc] at hlen
  match cs, hlen with
  | [c0, c1, c2, c3, c4, c5, c6, c7, c8, c9, c10, c11, c12, c13, c14, c15, c16, c17, c18, c19, c20, c21, c22, c23, c24, c25, c26, c27, c28, c29], _ =>
    obtain ⟨y0, e0⟩ : ∃ y, ys[0]? = some y := ⟨ys[0]'(by rw [hyl]; simp), List.getElem?_eq_getElem _⟩
    have hh : DataW.trod enc Try.prog w base spare held n 3 ((([c0, c1, c2, c3, c4, c5, c6, c7, c8, c9, c10, c11, c12, c13, c14, c15, c16, c17, c18, c19, c20, c21, c22, c23, c24, c25, c26, c27, c28, c29] : List Value).drop 0).take (Try.prog.cellsOf 3)) = ys[0]? := hf 0 _ rfl
    have k0 : Try.prog.cellsOf 3 = 1 := by kernel_rfl
    rw [k0, e0] at hh
    have f0 : DataW.trod enc Try.prog w base spare held n 3 [c0] = some y0 := hh
    clear hh
    clear k0 e0
    obtain ⟨y1, e1⟩ : ∃ y, ys[1]? = some y := ⟨ys[1]'(by rw [hyl]; simp), List.getElem?_eq_getElem _⟩
    have hh : DataW.trod enc Try.prog w base spare held n 3 ((([c0, c1, c2, c3, c4, c5, c6, c7, c8, c9, c10, c11, c12, c13, c14, c15, c16, c17, c18, c19, c20, c21, c22, c23, c24, c25, c26, c27, c28, c29] : List Value).drop 1).take (Try.prog.cellsOf 3)) = ys[1]? := hf 1 _ rfl
    have k1 : Try.prog.cellsOf 3 = 1 := by kernel_rfl
    rw [k1, e1] at hh
    have f1 : DataW.trod enc Try.prog w base spare held n 3 [c1] = some y1 := hh
    clear hh
    clear k1 e1
    obtain ⟨y2, e2⟩ : ∃ y, ys[2]? = some y := ⟨ys[2]'(by rw [hyl]; simp), List.getElem?_eq_getElem _⟩
    have hh : DataW.trod enc Try.prog w base spare held n 3 ((([c0, c1, c2, c3, c4, c5, c6, c7, c8, c9, c10, c11, c12, c13, c14, c15, c16, c17, c18, c19, c20, c21, c22, c23, c24, c25, c26, c27, c28, c29] : List Value).drop 2).take (Try.prog.cellsOf 3)) = ys[2]? := hf 2 _ rfl
    have k2 : Try.prog.cellsOf 3 = 1 := by kernel_rfl
    rw [k2, e2] at hh
    have f2 : DataW.trod enc Try.prog w base spare held n 3 [c2] = some y2 := hh
    clear hh
    clear k2 e2
    obtain ⟨y3, e3⟩ : ∃ y, ys[3]? = some y := ⟨ys[3]'(by rw [hyl]; simp), List.getElem?_eq_getElem _⟩
    have hh : DataW.trod enc Try.prog w base spare held n 3 ((([c0, c1, c2, c3, c4, c5, c6, c7, c8, c9, c10, c11, c12, c13, c14, c15, c16, c17, c18, c19, c20, c21, c22, c23, c24, c25, c26, c27, c28, c29] : List Value).drop 3).take (Try.prog.cellsOf 3)) = ys[3]? := hf 3 _ rfl
    have k3 : Try.prog.cellsOf 3 = 1 := by kernel_rfl
    rw [k3, e3] at hh
    have f3 : DataW.trod enc Try.prog w base spare held n 3 [c3] = some y3 := hh
    clear hh
    clear k3 e3
    obtain ⟨y4, e4⟩ : ∃ y, ys[4]? = some y := ⟨ys[4]'(by rw [hyl]; simp), List.getElem?_eq_getElem _⟩
    have hh : DataW.trod enc Try.prog w base spare held n 3 ((([c0, c1, c2, c3, c4, c5, c6, c7, c8, c9, c10, c11, c12, c13, c14, c15, c16, c17, c18, c19, c20, c21, c22, c23, c24, c25, c26, c27, c28, c29] : List Value).drop 4).take (Try.prog.cellsOf 3)) = ys[4]? := hf 4 _ rfl
    have k4 : Try.prog.cellsOf 3 = 1 := by kernel_rfl
    rw [k4, e4] at hh
    have f4 : DataW.trod enc Try.prog w base spare held n 3 [c4] = some y4 := hh
    clear hh
    clear k4 e4
    obtain ⟨y5, e5⟩ : ∃ y, ys[5]? = some y := ⟨ys[5]'(by rw [hyl]; simp), List.getElem?_eq_getElem _⟩
    have hh : DataW.trod enc Try.prog w base spare held n 3 ((([c0, c1, c2, c3, c4, c5, c6, c7, c8, c9, c10, c11, c12, c13, c14, c15, c16, c17, c18, c19, c20, c21, c22, c23, c24, c25, c26, c27, c28, c29] : List Value).drop 5).take (Try.prog.cellsOf 3)) = ys[5]? := hf 5 _ rfl
    have k5 : Try.prog.cellsOf 3 = 1 := by kernel_rfl
    rw [k5, e5] at hh
    have f5 : DataW.trod enc Try.prog w base spare held n 3 [c5] = some y5 := hh
    clear hh
    clear k5 e5
    obtain ⟨y6, e6⟩ : ∃ y, ys[6]? = some y := ⟨ys[6]'(by rw [hyl]; simp), List.getElem?_eq_getElem _⟩
    have hh : DataW.trod enc Try.prog w base spare held n 55 ((([c0, c1, c2, c3, c4, c5, c6, c7, c8, c9, c10, c11, c12, c13, c14, c15, c16, c17, c18, c19, c20, c21, c22, c23, c24, c25, c26, c27, c28, c29] : List Value).drop 6).take (Try.prog.cellsOf 55)) = ys[6]? := hf 6 _ rfl
    have k6 : Try.prog.cellsOf 55 = 2 := by kernel_rfl
    rw [k6, e6] at hh
    have f6 : DataW.trod enc Try.prog w base spare held n 55 [c6, c7] = some y6 := hh
    clear hh
    clear k6 e6
    obtain ⟨y7, e7⟩ : ∃ y, ys[7]? = some y := ⟨ys[7]'(by rw [hyl]; simp), List.getElem?_eq_getElem _⟩
    have hh : DataW.trod enc Try.prog w base spare held n 3 ((([c0, c1, c2, c3, c4, c5, c6, c7, c8, c9, c10, c11, c12, c13, c14, c15, c16, c17, c18, c19, c20, c21, c22, c23, c24, c25, c26, c27, c28, c29] : List Value).drop 8).take (Try.prog.cellsOf 3)) = ys[7]? := hf 7 _ rfl
    have k7 : Try.prog.cellsOf 3 = 1 := by kernel_rfl
    rw [k7, e7] at hh
    have f7 : DataW.trod enc Try.prog w base spare held n 3 [c8] = some y7 := hh
    clear hh
    clear k7 e7
    obtain ⟨y8, e8⟩ : ∃ y, ys[8]? = some y := ⟨ys[8]'(by rw [hyl]; simp), List.getElem?_eq_getElem _⟩
    have hh : DataW.trod enc Try.prog w base spare held n 57 ((([c0, c1, c2, c3, c4, c5, c6, c7, c8, c9, c10, c11, c12, c13, c14, c15, c16, c17, c18, c19, c20, c21, c22, c23, c24, c25, c26, c27, c28, c29] : List Value).drop 9).take (Try.prog.cellsOf 57)) = ys[8]? := hf 8 _ rfl
    have k8 : Try.prog.cellsOf 57 = 2 := by kernel_rfl
    rw [k8, e8] at hh
    have f8 : DataW.trod enc Try.prog w base spare held n 57 [c9, c10] = some y8 := hh
    clear hh
    clear k8 e8
    obtain ⟨y9, e9⟩ : ∃ y, ys[9]? = some y := ⟨ys[9]'(by rw [hyl]; simp), List.getElem?_eq_getElem _⟩
    have hh : DataW.trod enc Try.prog w base spare held n 22 ((([c0, c1, c2, c3, c4, c5, c6, c7, c8, c9, c10, c11, c12, c13, c14, c15, c16, c17, c18, c19, c20, c21, c22, c23, c24, c25, c26, c27, c28, c29] : List Value).drop 11).take (Try.prog.cellsOf 22)) = ys[9]? := hf 9 _ rfl
    have k9 : Try.prog.cellsOf 22 = 1 := by kernel_rfl
    rw [k9, e9] at hh
    have f9 : DataW.trod enc Try.prog w base spare held n 22 [c11] = some y9 := hh
    clear hh
    clear k9 e9
    obtain ⟨y10, e10⟩ : ∃ y, ys[10]? = some y := ⟨ys[10]'(by rw [hyl]; simp), List.getElem?_eq_getElem _⟩
    have hh : DataW.trod enc Try.prog w base spare held n 23 ((([c0, c1, c2, c3, c4, c5, c6, c7, c8, c9, c10, c11, c12, c13, c14, c15, c16, c17, c18, c19, c20, c21, c22, c23, c24, c25, c26, c27, c28, c29] : List Value).drop 12).take (Try.prog.cellsOf 23)) = ys[10]? := hf 10 _ rfl
    have k10 : Try.prog.cellsOf 23 = 1 := by kernel_rfl
    rw [k10, e10] at hh
    have f10 : DataW.trod enc Try.prog w base spare held n 23 [c12] = some y10 := hh
    clear hh
    clear k10 e10
    obtain ⟨y11, e11⟩ : ∃ y, ys[11]? = some y := ⟨ys[11]'(by rw [hyl]; simp), List.getElem?_eq_getElem _⟩
    have hh : DataW.trod enc Try.prog w base spare held n 24 ((([c0, c1, c2, c3, c4, c5, c6, c7, c8, c9, c10, c11, c12, c13, c14, c15, c16, c17, c18, c19, c20, c21, c22, c23, c24, c25, c26, c27, c28, c29] : List Value).drop 13).take (Try.prog.cellsOf 24)) = ys[11]? := hf 11 _ rfl
    have k11 : Try.prog.cellsOf 24 = 1 := by kernel_rfl
    rw [k11, e11] at hh
    have f11 : DataW.trod enc Try.prog w base spare held n 24 [c13] = some y11 := hh
    clear hh
    clear k11 e11
    obtain ⟨y12, e12⟩ : ∃ y, ys[12]? = some y := ⟨ys[12]'(by rw [hyl]; simp), List.getElem?_eq_getElem _⟩
    have hh : DataW.trod enc Try.prog w base spare held n 58 ((([c0, c1, c2, c3, c4, c5, c6, c7, c8, c9, c10, c11, c12, c13, c14, c15, c16, c17, c18, c19, c20, c21, c22, c23, c24, c25, c26, c27, c28, c29] : List Value).drop 14).take (Try.prog.cellsOf 58)) = ys[12]? := hf 12 _ rfl
    have k12 : Try.prog.cellsOf 58 = 1 := by kernel_rfl
    rw [k12, e12] at hh
    have f12 : DataW.trod enc Try.prog w base spare held n 58 [c14] = some y12 := hh
    clear hh
    clear k12 e12
    obtain ⟨y13, e13⟩ : ∃ y, ys[13]? = some y := ⟨ys[13]'(by rw [hyl]; simp), List.getElem?_eq_getElem _⟩
    have hh : DataW.trod enc Try.prog w base spare held n 4 ((([c0, c1, c2, c3, c4, c5, c6, c7, c8, c9, c10, c11, c12, c13, c14, c15, c16, c17, c18, c19, c20, c21, c22, c23, c24, c25, c26, c27, c28, c29] : List Value).drop 15).take (Try.prog.cellsOf 4)) = ys[13]? := hf 13 _ rfl
    have k13 : Try.prog.cellsOf 4 = 1 := by kernel_rfl
    rw [k13, e13] at hh
    have f13 : DataW.trod enc Try.prog w base spare held n 4 [c15] = some y13 := hh
    clear hh
    clear k13 e13
    obtain ⟨y14, e14⟩ : ∃ y, ys[14]? = some y := ⟨ys[14]'(by rw [hyl]; simp), List.getElem?_eq_getElem _⟩
    have hh : DataW.trod enc Try.prog w base spare held n 59 ((([c0, c1, c2, c3, c4, c5, c6, c7, c8, c9, c10, c11, c12, c13, c14, c15, c16, c17, c18, c19, c20, c21, c22, c23, c24, c25, c26, c27, c28, c29] : List Value).drop 16).take (Try.prog.cellsOf 59)) = ys[14]? := hf 14 _ rfl
    have k14 : Try.prog.cellsOf 59 = 1 := by kernel_rfl
    rw [k14, e14] at hh
    have f14 : DataW.trod enc Try.prog w base spare held n 59 [c16] = some y14 := hh
    clear hh
    clear k14 e14
    obtain ⟨y15, e15⟩ : ∃ y, ys[15]? = some y := ⟨ys[15]'(by rw [hyl]; simp), List.getElem?_eq_getElem _⟩
    have hh : DataW.trod enc Try.prog w base spare held n 59 ((([c0, c1, c2, c3, c4, c5, c6, c7, c8, c9, c10, c11, c12, c13, c14, c15, c16, c17, c18, c19, c20, c21, c22, c23, c24, c25, c26, c27, c28, c29] : List Value).drop 17).take (Try.prog.cellsOf 59)) = ys[15]? := hf 15 _ rfl
    have k15 : Try.prog.cellsOf 59 = 1 := by kernel_rfl
    rw [k15, e15] at hh
    have f15 : DataW.trod enc Try.prog w base spare held n 59 [c17] = some y15 := hh
    clear hh
    clear k15 e15
    obtain ⟨y16, e16⟩ : ∃ y, ys[16]? = some y := ⟨ys[16]'(by rw [hyl]; simp), List.getElem?_eq_getElem _⟩
    have hh : DataW.trod enc Try.prog w base spare held n 60 ((([c0, c1, c2, c3, c4, c5, c6, c7, c8, c9, c10, c11, c12, c13, c14, c15, c16, c17, c18, c19, c20, c21, c22, c23, c24, c25, c26, c27, c28, c29] : List Value).drop 18).take (Try.prog.cellsOf 60)) = ys[16]? := hf 16 _ rfl
    have k16 : Try.prog.cellsOf 60 = 1 := by kernel_rfl
    rw [k16, e16] at hh
    have f16 : DataW.trod enc Try.prog w base spare held n 60 [c18] = some y16 := hh
    clear hh
    clear k16 e16
    obtain ⟨y17, e17⟩ : ∃ y, ys[17]? = some y := ⟨ys[17]'(by rw [hyl]; simp), List.getElem?_eq_getElem _⟩
    have hh : DataW.trod enc Try.prog w base spare held n 63 ((([c0, c1, c2, c3, c4, c5, c6, c7, c8, c9, c10, c11, c12, c13, c14, c15, c16, c17, c18, c19, c20, c21, c22, c23, c24, c25, c26, c27, c28, c29] : List Value).drop 19).take (Try.prog.cellsOf 63)) = ys[17]? := hf 17 _ rfl
    have k17 : Try.prog.cellsOf 63 = 4 := by kernel_rfl
    rw [k17, e17] at hh
    have f17 : DataW.trod enc Try.prog w base spare held n 63 [c19, c20, c21, c22] = some y17 := hh
    clear hh
    clear k17 e17
    obtain ⟨y18, e18⟩ : ∃ y, ys[18]? = some y := ⟨ys[18]'(by rw [hyl]; simp), List.getElem?_eq_getElem _⟩
    have hh : DataW.trod enc Try.prog w base spare held n 3 ((([c0, c1, c2, c3, c4, c5, c6, c7, c8, c9, c10, c11, c12, c13, c14, c15, c16, c17, c18, c19, c20, c21, c22, c23, c24, c25, c26, c27, c28, c29] : List Value).drop 23).take (Try.prog.cellsOf 3)) = ys[18]? := hf 18 _ rfl
    have k18 : Try.prog.cellsOf 3 = 1 := by kernel_rfl
    rw [k18, e18] at hh
    have f18 : DataW.trod enc Try.prog w base spare held n 3 [c23] = some y18 := hh
    clear hh
    clear k18 e18
    obtain ⟨y19, e19⟩ : ∃ y, ys[19]? = some y := ⟨ys[19]'(by rw [hyl]; simp), List.getElem?_eq_getElem _⟩
    have hh : DataW.trod enc Try.prog w base spare held n 3 ((([c0, c1, c2, c3, c4, c5, c6, c7, c8, c9, c10, c11, c12, c13, c14, c15, c16, c17, c18, c19, c20, c21, c22, c23, c24, c25, c26, c27, c28, c29] : List Value).drop 24).take (Try.prog.cellsOf 3)) = ys[19]? := hf 19 _ rfl
    have k19 : Try.prog.cellsOf 3 = 1 := by kernel_rfl
    rw [k19, e19] at hh
    have f19 : DataW.trod enc Try.prog w base spare held n 3 [c24] = some y19 := hh
    clear hh
    clear k19 e19
    obtain ⟨y20, e20⟩ : ∃ y, ys[20]? = some y := ⟨ys[20]'(by rw [hyl]; simp), List.getElem?_eq_getElem _⟩
    have hh : DataW.trod enc Try.prog w base spare held n 67 ((([c0, c1, c2, c3, c4, c5, c6, c7, c8, c9, c10, c11, c12, c13, c14, c15, c16, c17, c18, c19, c20, c21, c22, c23, c24, c25, c26, c27, c28, c29] : List Value).drop 25).take (Try.prog.cellsOf 67)) = ys[20]? := hf 20 _ rfl
    have k20 : Try.prog.cellsOf 67 = 4 := by kernel_rfl
    rw [k20, e20] at hh
    have f20 : DataW.trod enc Try.prog w base spare held n 67 [c25, c26, c27, c28] = some y20 := hh
    clear hh
    clear k20 e20
    obtain ⟨y21, e21⟩ : ∃ y, ys[21]? = some y := ⟨ys[21]'(by rw [hyl]; simp), List.getElem?_eq_getElem _⟩
    have hh : DataW.trod enc Try.prog w base spare held n 4 ((([c0, c1, c2, c3, c4, c5, c6, c7, c8, c9, c10, c11, c12, c13, c14, c15, c16, c17, c18, c19, c20, c21, c22, c23, c24, c25, c26, c27, c28, c29] : List Value).drop 29).take (Try.prog.cellsOf 4)) = ys[21]? := hf 21 _ rfl
    have k21 : Try.prog.cellsOf 4 = 1 := by kernel_rfl
    rw [k21, e21] at hh
    have f21 : DataW.trod enc Try.prog w base spare held n 4 [c29] = some y21 := hh
    clear hh
    clear k21 e21
    obtain ⟨v0, g0, _, _⟩ := DataW.trod_int Try.underlying3 f0
    simp only [List.cons.injEq, and_true] at g0
    subst g0
    obtain ⟨v1, g1, _, _⟩ := DataW.trod_int Try.underlying3 f1
    simp only [List.cons.injEq, and_true] at g1
    subst g1
    obtain ⟨v2, g2, _, _⟩ := DataW.trod_int Try.underlying3 f2
    simp only [List.cons.injEq, and_true] at g2
    subst g2
    obtain ⟨v3, g3, _, _⟩ := DataW.trod_int Try.underlying3 f3
    simp only [List.cons.injEq, and_true] at g3
    subst g3
    obtain ⟨v4, g4, _, _⟩ := DataW.trod_int Try.underlying3 f4
    simp only [List.cons.injEq, and_true] at g4
    subst g4
    obtain ⟨v5, g5, _, _⟩ := DataW.trod_int Try.underlying3 f5
    simp only [List.cons.injEq, and_true] at g5
    subst g5
    obtain ⟨v6, u6, g6⟩ := pair55_read f6
    simp only [List.cons.injEq, and_true] at g6
    obtain ⟨g6, g6'⟩ := g6
    subst g6 g6'
    obtain ⟨v7, g7, _, _⟩ := DataW.trod_int Try.underlying3 f7
    simp only [List.cons.injEq, and_true] at g7
    subst g7
    obtain ⟨v8, u8, g8⟩ := pair57_read f8
    simp only [List.cons.injEq, and_true] at g8
    obtain ⟨g8, g8'⟩ := g8
    subst g8 g8'
    obtain ⟨a9, l9, p9, x9, g9, r9⟩ := uses_read f9
    simp only [List.cons.injEq, and_true] at g9
    subst g9
    obtain ⟨a10, l10, p10, x10, g10, r10⟩ := grants_read f10
    simp only [List.cons.injEq, and_true] at g10
    subst g10
    obtain ⟨a11, l11, p11, g11⟩ := slice_read Try.underlying24 f11
    simp only [List.cons.injEq, and_true] at g11
    subst g11
    obtain ⟨a12, l12, p12, g12⟩ := slice_read Try.underlying58 f12
    simp only [List.cons.injEq, and_true] at g12
    subst g12
    obtain ⟨v13, g13, _⟩ := DataW.trod_bool Try.underlying4 f13
    simp only [List.cons.injEq, and_true] at g13
    subst g13
    obtain ⟨a14, l14, p14, g14⟩ := slice_read Try.underlying59 f14
    simp only [List.cons.injEq, and_true] at g14
    subst g14
    obtain ⟨a15, l15, p15, g15⟩ := slice_read Try.underlying59 f15
    simp only [List.cons.injEq, and_true] at g15
    subst g15
    obtain ⟨a16, l16, p16, g16⟩ := slice_read Try.underlying60 f16
    simp only [List.cons.injEq, and_true] at g16
    subst g16
    obtain ⟨v17, u17, q17, s17, g17⟩ := notice_read f17
    simp only [List.cons.injEq, and_true] at g17
    obtain ⟨g17, g17', g17'', g17'''⟩ := g17
    subst g17 g17' g17'' g17'''
    obtain ⟨v18, g18, _, _⟩ := DataW.trod_int Try.underlying3 f18
    simp only [List.cons.injEq, and_true] at g18
    subst g18
    obtain ⟨v19, g19, _, _⟩ := DataW.trod_int Try.underlying3 f19
    simp only [List.cons.injEq, and_true] at g19
    subst g19
    obtain ⟨v20, u20, a20, l20, p20, a20', l20', p20', g20⟩ := block_read f20
    simp only [List.cons.injEq, and_true] at g20
    obtain ⟨g20, g20', g20'', g20'''⟩ := g20
    subst g20 g20' g20'' g20'''
    obtain ⟨v21, g21, _⟩ := DataW.trod_bool Try.underlying4 f21
    simp only [List.cons.injEq, and_true] at g21
    subst g21
    exact ⟨⟨v0, v1, v2, v3, v4, v5, v6, u6, v7, v8, u8, a9, l9, p9, a10, l10, p10, a11, l11, p11, a12, l12, p12, v13, a14, l14, p14, a15, l15, p15, a16, l16, p16, v17, u17, q17, s17, v18, v19, v20, u20, a20, l20, p20, a20', l20', p20', v21, x9, x10⟩, rfl, r9, r10⟩

theorem nr_read {fuel : Nat} {cs : List Value} {x : DataW H × List MemPlace} (h : DataW.trod enc Try.prog w base spare held fuel 71 cs = some x) : ∃ n : Nr, cs = nrV n ∧ BcOk w n.told := by
  obtain ⟨ys, n, _, _, hlen, hyl, hf⟩ := DataW.trod_struct Try.underlying71 h
  have hc : Try.prog.cellsOf 71 = 31 := by kernel_rfl
  rw [hc] at hlen
  match cs, hlen with
  | [c0, c1, c2, c3, c4, c5, c6, c7, c8, c9, c10, c11, c12, c13, c14, c15, c16, c17, c18, c19, c20, c21, c22, c23, c24, c25, c26, c27, c28, c29, c30], _ =>
    obtain ⟨y0, e0⟩ : ∃ y, ys[0]? = some y := ⟨ys[0]'(by rw [hyl]; simp), List.getElem?_eq_getElem _⟩
    have hh : DataW.trod enc Try.prog w base spare held n 3 ((([c0, c1, c2, c3, c4, c5, c6, c7, c8, c9, c10, c11, c12, c13, c14, c15, c16, c17, c18, c19, c20, c21, c22, c23, c24, c25, c26, c27, c28, c29, c30] : List Value).drop 0).take (Try.prog.cellsOf 3)) = ys[0]? := hf 0 _ rfl
    have k0 : Try.prog.cellsOf 3 = 1 := by kernel_rfl
    rw [k0, e0] at hh
    have f0 : DataW.trod enc Try.prog w base spare held n 3 [c0] = some y0 := hh
    clear hh
    clear k0 e0
    obtain ⟨y1, e1⟩ : ∃ y, ys[1]? = some y := ⟨ys[1]'(by rw [hyl]; simp), List.getElem?_eq_getElem _⟩
    have hh : DataW.trod enc Try.prog w base spare held n 69 ((([c0, c1, c2, c3, c4, c5, c6, c7, c8, c9, c10, c11, c12, c13, c14, c15, c16, c17, c18, c19, c20, c21, c22, c23, c24, c25, c26, c27, c28, c29, c30] : List Value).drop 1).take (Try.prog.cellsOf 69)) = ys[1]? := hf 1 _ rfl
    have k1 : Try.prog.cellsOf 69 = 30 := by kernel_rfl
    rw [k1, e1] at hh
    have f1 : DataW.trod enc Try.prog w base spare held n 69 [c1, c2, c3, c4, c5, c6, c7, c8, c9, c10, c11, c12, c13, c14, c15, c16, c17, c18, c19, c20, c21, c22, c23, c24, c25, c26, c27, c28, c29, c30] = some y1 := hh
    clear hh
    clear k1 e1
    obtain ⟨v0, g0, _, _⟩ := DataW.trod_int Try.underlying3 f0
    simp only [List.cons.injEq, and_true] at g0
    subst g0
    obtain ⟨b1, g1, r1⟩ := bc_read f1
    rw [g1]
    exact ⟨⟨v0, b1⟩, rfl, r1⟩

instance : Inhabited Nr := ⟨beaconN 0 0 tabZ⟩
instance : Inhabited Tb := ⟨tabZ⟩

theorem nears_read {fuel : Nat} {cs : List Value} {x : DataW H × List MemPlace} (h : DataW.trod enc Try.prog w base spare held fuel 27 cs = some x) : ∃ (a : Option Addr) (len cap : Nat) (xs : List Nr), cs = [.slice a len cap] ∧ NearOk w (.slice a len cap) xs := by
  obtain ⟨a, len, cap, xs, h1, h2, h3⟩ := rows_read nrV (fun n => BcOk w n.told) Try.underlying27 (k := 31) (by kernel_rfl) (by omega) nrV_len (fun n cs' y h => nr_read h) h
  exact ⟨a, len, cap, xs, h1, h2, h3⟩
theorem tabs_read {fuel : Nat} {cs : List Value} {x : DataW H × List MemPlace} (h : DataW.trod enc Try.prog w base spare held fuel 41 cs = some x) : ∃ (a : Option Addr) (len cap : Nat) (xs : List Tb), cs = [.slice a len cap] ∧ TabsOk w (.slice a len cap) xs := by
  obtain ⟨a, len, cap, xs, h1, h2, h3⟩ := rows_read tbV (fun n => TbOk w n) Try.underlying41 (k := 3) (by kernel_rfl) (by omega) (fun _ => rfl) (fun n cs' y h => tb_read h) h
  exact ⟨a, len, cap, xs, h1, h2, h3⟩

end
end Go.Proofs.Ytadiocpcpjbjpaa

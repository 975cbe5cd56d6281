import Derived.Test.YtadiocpcpjbjpaaRc
import Derived.Maps.RangeRun
namespace Go.Proofs.Ytadiocpcpjbjpaa
open Go.RowKit
open Go.ChangeMaps (setBlock)

/-! ### Sets of clashes: maps from clashes to true -/
def chK (c : Ch) : Value := .agg #[.int .i64 c.1.1, .int .i64 c.1.2, .int .i64 c.2.1, .int .i64 c.2.2.1, .int .i64 c.2.2.2]

theorem equal48 (x u : Ch) (W : World) : (Op.equal 48 (chK x) (chK u)).run Try.prog W = .ok (decide (x = u)) W :=
  run_of_bool (ch_eql x u W)
theorem check48 (b : Bool) (c : Ch) (W : World) : (Instr.checkKey b 10000 48 (chK c)).run Try.prog W = .ok () W := by
  kernel_rfl
theorem find48 (x : Ch) : ∀ (es : List MapEntry) (ps : List (Ch × Value)) (i : Nat), Ents chK es ps → ∀ W, (Instr.findAsking 48 (chK x) es i).run Try.prog W = .ok (look x ps i) W
  | [], ps, i, h, W => by
    cases ps with
    | nil => rfl
    | cons p ps => simp [Ents] at h
  | e :: es, ps, i, h, W => by
    cases ps with
    | nil => simp [Ents] at h
    | cons p ps =>
      simp only [Ents, List.map_cons, List.cons.injEq, Prod.mk.injEq] at h
      obtain ⟨⟨h1, h2⟩, h3⟩ := h
      unfold Instr.findAsking look
      simp only [Sem.run_bind, h1, equal48, Result.andThen]
      by_cases hx : x = p.1
      · simp [hx, h2]
      · simp only [hx, decide_false, if_false]
        exact find48 x es ps (i + 1) h3 W
theorem keys48 : KeyRun 48 chK where
  check := check48
  find := fun x es ps h W => (run_findKey_eq (k := 48) (w := W) (by rfl) _ _).trans (find48 x es ps 0 h W)
  bits := fun x => by simp [chK, Instr.sameBits]

/-- A set of clashes in memory. -/
def SetAt (w : World) (b : Nat) (ns : List Ch) : Prop :=
  ∃ es clock, w.heap[b]? = some (.map es clock) ∧ Ents chK es.toList (ns.map fun c => (c, .bool true)) ∧ (∀ e ∈ es.toList, e.born < clock) ∧ (es.toList.map (·.born)).Nodup ∧ ns.Nodup

theorem SetAt.mapAt {w : World} {b : Nat} {ns : List Ch} (h : SetAt w b ns) : MapAt w b chK (ns.map fun c => (c, .bool true)) := by
  obtain ⟨es, ck, h1, h2, _⟩ := h
  exact ⟨es, ck, h1, h2⟩
theorem SetAt.lt {w : World} {b : Nat} {ns : List Ch} (h : SetAt w b ns) : b < w.heap.size := h.mapAt.lt
theorem SetAt.new (w : World) : SetAt (w.alloc (.map #[] 0)) w.heap.size [] := ⟨#[], 0, heap_new w _, rfl, by simp, by simp, by simp⟩
theorem SetAt.on {w w' : World} {b : Nat} {ns : List Ch} (h : SetAt w b ns) (hb : w'.heap[b]? = w.heap[b]?) : SetAt w' b ns := by
  obtain ⟨es, ck, h1, r⟩ := h
  exact ⟨es, ck, hb.trans h1, r⟩
theorem SetAt.below {w w' : World} {b : Nat} {ns : List Ch} (h : SetAt w b ns) (hb : Below w.heap.size w w') : SetAt w' b ns := h.on (hb.block b h.lt)
theorem SetAt.look {w : World} {b : Nat} {ns : List Ch} (h : SetAt w b ns) (c : Ch) : (Instr.lookup 44 (.map (some b)) (chK c) false).run Try.prog w = .ok (.bool (decide (c ∈ ns))) w := by
  have hl := map_look keys48 Try.underlying44 zero4 h.mapAt c
  rcases look_set (x := c) (v := Value.bool true) (ns := ns) (i := 0) with ⟨j, e⟩ | ⟨e1, e2⟩
  · rw [e] at hl
    have hm := look_some e
    rw [decide_eq_true (by simpa using hm)]
    exact hl
  · rw [e2] at hl
    rw [decide_eq_false e1]
    exact hl
theorem SetAt.len {w : World} {b : Nat} {ns : List Ch} (h : SetAt w b ns) (ty : TypeId) : (Builtin.len_ #[44] ty #[.map (some b)]).run Try.prog w = .ok (.int .i64 ns.length) w := by
  obtain ⟨es, ck, h1, h2, _⟩ := h
  have hs : es.size = ns.length := by
    have := congrArg List.length h2
    simpa using this
  simp [Builtin.len_, run_underlying Try.underlying44, MapKept.run_getObj_map h1, goInt, Result.andThen, hs]

theorem SetAt.put {w : World} {b : Nat} {ns : List Ch} (h : SetAt w b ns) (c : Ch) :
    ∃ o, (Instr.mapUpdate 44 (.map (some b)) (chK c) (.bool true)).run Try.prog w = .ok () (w.putObj b o) ∧ SetAt (w.putObj b o) b (if c ∈ ns then ns else ns ++ [c]) := by
  have hlt := h.lt
  obtain ⟨es, ck, h1, h2, h3, h4, h5⟩ := h
  have hnd : (if c ∈ ns then ns else ns ++ [c]).Nodup := by
    by_cases hc : c ∈ ns
    · rw [if_pos hc]; exact h5
    · rw [if_neg hc, List.nodup_append]
      exact ⟨h5, by simp, fun a ha b hb => by rintro rfl; exact hc (by rwa [List.mem_singleton.1 hb] at ha)⟩
  rcases ents_put h2 c (Value.bool true) with ⟨g1, g2⟩ | ⟨i, u, g1, g2, g3⟩
  · refine ⟨.map (es.push { key := chK c, val := .bool true, born := ck }) (ck + 1), ?_, es.push { key := chK c, val := .bool true, born := ck }, ck + 1, World.putObj_heap_same hlt, ?_, ?_, ?_, hnd⟩
    · simp [Instr.mapUpdate, run_underlying Try.underlying44, MapKept.run_getObj_map h1, Result.andThen, keys48.check, keys48.find c _ _ h2, g1, MapKept.run_setObj_map _ h1, World.putObj]
    · have := g2 ck
      rw [put_all] at this
      by_cases hc : c ∈ ns <;> simp only [hc, if_true, if_false] at this ⊢ <;> exact this
    · intro e he
      simp only [Array.toList_push, List.mem_append, List.mem_singleton] at he
      rcases he with he | rfl
      · have := h3 e he; omega
      · exact Nat.lt_succ_self _
    · rw [Array.toList_push, List.map_append, List.nodup_append]
      refine ⟨h4, by simp, fun a ha b hb => ?_⟩
      simp only [List.map_cons, List.map_nil, List.mem_singleton] at hb
      obtain ⟨e, he, rfl⟩ := List.mem_map.1 ha
      have := h3 e he
      omega
  · have hmod : (es.modify i fun e => { e with key := chK c, val := .bool true }).toList.map (·.born) = es.toList.map (·.born) := by
      rw [Array.toList_modify]
      apply List.ext_getElem?
      intro k
      simp only [List.getElem?_map, List.getElem?_modify]
      cases es.toList[k]? with
      | none => rfl
      | some e => by_cases hik : i = k <;> simp [hik]
    refine ⟨.map (es.modify i fun e => { e with key := chK c, val := .bool true }) ck, ?_, es.modify i fun e => { e with key := chK c, val := .bool true }, ck, World.putObj_heap_same hlt, ?_, ?_, ?_, hnd⟩
    · simp only [Instr.mapUpdate, Sem.run_bind, run_underlying Try.underlying44, MapKept.run_getObj_map h1, Result.andThen, keys48.check, keys48.find c _ _ h2, g1, g2, Option.getD_some, Instr.keyThatStays, keys48.bits, if_true, Sem.run_pure, MapKept.run_setObj_map _ h1, World.putObj]
    · rw [put_all] at g3
      by_cases hc : c ∈ ns <;> simp only [hc, if_true, if_false] at g3 ⊢ <;> exact g3
    · intro e he
      have hb : e.born ∈ (es.modify i fun e => { e with key := chK c, val := .bool true }).toList.map (·.born) := List.mem_map.2 ⟨e, he, rfl⟩
      rw [hmod] at hb
      obtain ⟨e', he', hee⟩ := List.mem_map.1 hb
      have := h3 e' he'
      omega
    · rw [hmod]; exact h4

theorem mem_put {c x : Ch} {ns W : List Ch} (h : ∀ x, x ∈ ns ↔ x ∈ W) : x ∈ (if c ∈ ns then ns else ns ++ [c]) ↔ x ∈ W ++ [c] := by
  by_cases hc : c ∈ ns
  · rw [if_pos hc, List.mem_append, h x]
    constructor
    · exact .inl
    · rintro (h1 | h1)
      · exact h1
      · rw [List.mem_singleton.1 h1]; exact (h c).1 hc
  · rw [if_neg hc, List.mem_append, List.mem_append, h x]

/-- Two sets: what was found (done), and what is wanted (so far). -/
def FW (w0 : World) (bf bw : Nat) (nsF W : List Ch) (w : World) : Prop :=
  SetAt w bf nsF ∧ (∃ ns, SetAt w bw ns ∧ ∀ x, x ∈ ns ↔ x ∈ W) ∧ bf ≠ bw ∧ w0.heap.size ≤ bf ∧ w0.heap.size ≤ bw ∧ Below w0.heap.size w0 w
theorem FW.below {w0 w w' : World} {bf bw : Nat} {nsF W : List Ch} (h : FW w0 bf bw nsF W w) (hb : Below w.heap.size w w') : FW w0 bf bw nsF W w' := by
  obtain ⟨h1, ⟨ns, h2, h3⟩, h4, h5, h6, h7⟩ := h
  exact ⟨h1.below hb, ⟨ns, h2.below hb, h3⟩, h4, h5, h6, h7.trans (hb.mono h7.size)⟩
theorem FW.put {w0 w : World} {bf bw : Nat} {nsF W : List Ch} (h : FW w0 bf bw nsF W w) (c : Ch) :
    ∃ W', (Instr.mapUpdate 44 (.map (some bw)) (.agg #[.int .i64 c.1.1, .int .i64 c.1.2, .int .i64 c.2.1, .int .i64 c.2.2.1, .int .i64 c.2.2.2]) (.bool true)).run Try.prog w = .ok () W' ∧ FW w0 bf bw nsF (W ++ [c]) W' ∧ KeepC w W' ∧ W'.heap.size = w.heap.size := by
  obtain ⟨h1, ⟨ns, h2, h3⟩, h4, h5, h6, h7⟩ := h
  obtain ⟨o, hr, hs⟩ := h2.put c
  exact ⟨_, hr, ⟨h1.on (World.putObj_heap_other h4), ⟨_, hs, fun x => mem_put h3⟩, h4, h5, h6, h7.trans (below_putObj _ h6)⟩, h2.mapAt.keepC o, by simp⟩
theorem set_put {w0 w : World} {bf : Nat} {ns W : List Ch} (h : SetAt w bf ns) (hm : ∀ x, x ∈ ns ↔ x ∈ W) (h0 : w0.heap.size ≤ bf) (hb : Below w0.heap.size w0 w) (c : Ch) :
    ∃ W', (Instr.mapUpdate 44 (.map (some bf)) (.agg #[.int .i64 c.1.1, .int .i64 c.1.2, .int .i64 c.2.1, .int .i64 c.2.2.1, .int .i64 c.2.2.2]) (.bool true)).run Try.prog w = .ok () W' ∧ (∃ ns', SetAt W' bf ns' ∧ ∀ x, x ∈ ns' ↔ x ∈ W ++ [c]) ∧ Below w0.heap.size w0 W' ∧ KeepC w W' ∧ W'.heap.size = w.heap.size := by
  obtain ⟨o, hr, hs⟩ := h.put c
  exact ⟨_, hr, ⟨_, hs, fun x => mem_put hm⟩, hb.trans (below_putObj _ h0), h.mapAt.keepC o, by simp⟩

theorem KeepC.below {w w' : World} (h : Below w.heap.size w w') : KeepC w w' := fun _ _ _ hc => cell_on h hc
theorem KeepC.refl (w : World) : KeepC w w := fun _ _ _ h => h
theorem Rows.keepC {k : Nat} {w w' : World} {v : Value} {css : List (List Value)} (h : Rows k w v css) (hk : KeepC w w') : Rows k w' v css := by
  obtain ⟨a, cap, hv, hc, hm, hl, hr⟩ := h
  refine ⟨a, cap, hv, hc, hm, hl, fun h0 => ?_⟩
  obtain ⟨b, off, ha, hcell⟩ := hr h0
  exact ⟨b, off, ha, fun i cs hi j x hj => hk _ _ _ (hcell i cs hi j x hj)⟩
theorem nodup_len {α : Type} [DecidableEq α] {l l' : List α} (h1 : l.Nodup) (h2 : l'.Nodup) (h : ∀ x, x ∈ l ↔ x ∈ l') : l.length = l'.length :=
  ((List.perm_ext_iff_of_nodup h1 h2).2 h).length_eq

/-! ### A range over a set -/
theorem run_range44 {w : World} {b : Nat} {es : Array MapEntry} {ck : Nat} (h : w.heap[b]? = some (.map es ck)) : (Instr.range 44 (.map (some b))).run Try.prog w = .ok (.pointer (some ⟨w.heap.size, 0, none⟩)) (w.alloc (.mapIter (some b) ck #[] ck)) := by
  simp [Instr.range, run_underlying Try.underlying44, MapKept.run_getObj_map h, Result.andThen, newObj]
  rfl

/-- The iterator, while nothing is laid into the map. -/
def ItAt (w : World) (r b : Nat) (es : Array MapEntry) (ck : Nat) (seen : Array Nat) : Prop := w.heap[b]? = some (.map es ck) ∧ ∃ c0, w.heap[r]? = some (.mapIter (some b) ck seen c0) ∧ ck ≤ c0
def leftN (es : Array MapEntry) (r : Nat) (w : World) : Nat := match w.heap[r]? with
  | some (.mapIter _ _ seen _) => (leftOf es seen).size
  | _ => 0
theorem ItAt.left {w : World} {r b : Nat} {es : Array MapEntry} {ck : Nat} {seen : Array Nat} (h : ItAt w r b es ck seen) : leftN es r w = (leftOf es seen).size := by
  obtain ⟨_, c0, h1, _⟩ := h
  simp [leftN, h1]
theorem ItAt.below {w w' : World} {r b : Nat} {es : Array MapEntry} {ck : Nat} {seen : Array Nat} (h : ItAt w r b es ck seen) (hb : Below w.heap.size w w') : ItAt w' r b es ck seen := by
  obtain ⟨h1, c0, h2, h3⟩ := h
  exact ⟨(hb.block b (Array.getElem?_eq_some_iff.1 h1).1).trans h1, c0, (hb.block r (Array.getElem?_eq_some_iff.1 h2).1).trans h2, h3⟩

theorem ItAt.step {w : World} {r b : Nat} {es : Array MapEntry} {ck : Nat} {seen : Array Nat} {ns : List Ch} (h : ItAt w r b es ck seen) (hE : Ents chK es.toList (ns.map fun c => (c, .bool true))) (hB : ∀ e ∈ es.toList, e.born < ck) (hN : (es.toList.map (·.born)).Nodup) :
    (∀ ty, (Instr.next (.pointer (some ⟨r, 0, none⟩)) false ty).run Try.prog w = .ok (.tuple #[.bool false]) w) ∨
    ∃ (c : Ch) (w' : World) (seen' : Array Nat) (v : Value), c ∈ ns ∧ (Instr.next (.pointer (some ⟨r, 0, none⟩)) false 0).run Try.prog w = .ok (.tuple #[.bool true, chK c, v]) w' ∧ (Instr.entry (.pointer (some ⟨r, 0, none⟩))).run Try.prog w' = .ok (.tuple #[chK c, v]) w' ∧
      ItAt w' r b es ck seen' ∧ (leftOf es seen').size < (leftOf es seen).size ∧ Below r w w' ∧ w'.heap.size = w.heap.size ∧ (∀ k, k ≠ r → w'.heap[k]? = w.heap[k]?) ∧ KeepC w w' := by
  obtain ⟨h1, c0, h2, h3⟩ := h
  have hne : b ≠ r := by rintro rfl; rw [h1] at h2; cases h2
  have hrl := (Array.getElem?_eq_some_iff.1 h2).1
  by_cases h0 : (leftOf es seen).size = 0
  · refine .inl fun ty => ?_
    rcases run_next_at (P := Try.prog) w ty r b ck c0 seen es ck h2 h1 hB h3 with ⟨_, hr⟩ | ⟨e, he, _⟩
    · exact hr
    · exfalso
      have := List.length_pos_of_mem he
      simp at this
      omega
  · rcases run_next_at (P := Try.prog) w 0 r b ck c0 seen es ck h2 h1 hB h3 with ⟨hz, _⟩ | ⟨e, he, w1, hw1, hr⟩
    · exact absurd hz h0
    · have hme := (mem_left he).1
      have hmem : (e.key, e.val) ∈ ns.map fun c => (chK c, Value.bool true) := by
        have : (e.key, e.val) ∈ es.toList.map fun e => (e.key, e.val) := List.mem_map.2 ⟨e, hme, rfl⟩
        rw [hE] at this
        simpa using this
      obtain ⟨c, hc, hk⟩ := List.mem_map.1 hmem
      simp only [Prod.mk.injEq] at hk
      have hw1h : w1.heap = w.heap := by rcases hw1 with rfl | rfl <;> rfl
      have hw1o : w1.os = w.os ∧ w1.tape = w.tape ∧ w1.output = w.output := by rcases hw1 with rfl | rfl <;> exact ⟨rfl, rfl, rfl⟩
      obtain ⟨w', hw'⟩ : ∃ w', setBlock w1 r (.mapIter (some b) ck (seen.push e.born) ck) = w' := ⟨_, rfl⟩
      have hh : w'.heap = w.heap.setIfInBounds r (.mapIter (some b) ck (seen.push e.born) ck) := by rw [← hw', ← hw1h]; rfl
      have ho : w'.os = w.os ∧ w'.tape = w.tape ∧ w'.output = w.output := by rw [← hw']; exact hw1o
      have hr' : w'.heap[r]? = some (.mapIter (some b) ck (seen.push e.born) ck) := by rw [hh]; simp [hrl]
      have hoth : ∀ k, k ≠ r → w'.heap[k]? = w.heap[k]? := fun k hk => by rw [hh, Array.getElem?_setIfInBounds, if_neg (fun e => hk e.symm)]
      have hsz : w'.heap.size = w.heap.size := by rw [hh]; simp
      have hen := run_entry_at (P := Try.prog) w' r b ck seen es ck e hr' ((hoth b hne).trans h1) hme hN
      refine .inr ⟨c, w', seen.push e.born, e.val, hc, ?_, ?_, ⟨(hoth b hne).trans h1, ck, hr', Nat.le_refl _⟩, left_shrinks es seen e he, ⟨ho.1, ho.2.1, ho.2.2, by omega, fun k hk => hoth k (by omega)⟩, hsz, hoth, ?_⟩
      · rw [hr, ← hk.1, hw']
      · rw [hen, ← hk.1]
      · intro b' j v hv
        have : b' ≠ r := by
          rintro rfl
          simp [World.cell?, h2] at hv
        rw [World.cell?_of_block (hoth b' this)]
        exact hv

end Go.Proofs.Ytadiocpcpjbjpaa

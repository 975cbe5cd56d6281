import Derived.Test.YtadiocpcpjbjpaaC
import Derived.Deep.MidRow
namespace Go
/-! ### Long structs by value: loads and stores of all cells at once -/
section
variable {F : Fence} {n : Nat} {P : Program}

theorem setRow_alloc (W : World) (zs cs : Array Value) (T : TypeId) : (W.alloc (.cells zs T)).setRow W.heap.size cs = W.alloc (.cells cs T) := by
  have h : (W.heap.push (.cells zs T)).modify W.heap.size (fun
      | .cells _ elem frozen => .cells cs elem frozen
      | o => o) = W.heap.push (.cells cs T) := by
    apply Array.ext
    · simp
    · intro i h1 h2
      rw [Array.getElem_modify]
      by_cases e : i = W.heap.size
      · subst e
        simp
      · have : i < W.heap.size := by simp at h2; omega
        rw [if_neg (fun h => e h.symm), Array.getElem_push_lt this, Array.getElem_push_lt this]
  exact congrArg (fun hp => ({ W with heap := hp } : World)) h

theorem heap_new (W : World) (o : Obj) : (W.alloc o).heap[W.heap.size]? = some o := by
  show (W.heap.push o)[W.heap.size]? = some o
  simp

theorem wpIn_load_row {op : Oper} {a : Act} {w : World} {K : Act → World → Prop} {Q : Exit → Act → World → Prop} (ty : TypeId) (x : Operand) (ho : op.op = .load ty x)
    (b o : Nat) (hx : a.eval x = .pointer (some ⟨b, o, none⟩)) (cs : List Value) (d : TypeDesc) (hc : w.rangeAt b o cs)
    (hu : P.underlying ty = some d) (hd : d.isRow = true) (hi : (P.info? ty).map (·.size) = some cs.length)
    (h : K (a.put op.dst (.agg cs.toArray)) w) : op.wpIn F n P a w K Q := by
  refine ⟨fun f hf => ?_, ?_⟩
  · simp [Oper.about, ho] at hf
  · rw [Oper.semAt_plain F _ _ (by rw [ho]; intro c hc'; cases hc')]
    unfold execOp
    simp only [ho, hx, Instr.loadAt, Instr.sureAddr, Sem.run_bind, Sem.run_pure, Result.andThen_ok, run_loadVar_mid w b o ty cs d hc hu hd hi]
    exact h

theorem wpListIn_load_row {ops : Array Oper} {rest : List Oper} {op : Oper} {a : Act} {w : World} {Q : Exit → Act → World → Prop} (hgd : Region.wanted op (yielded ops a.tmps) = true) (ty : TypeId) (x : Operand) (ho : op.op = .load ty x)
    (b o : Nat) (hx : a.eval x = .pointer (some ⟨b, o, none⟩)) (cs : List Value) (d : TypeDesc) (hc : w.rangeAt b o cs)
    (hu : P.underlying ty = some d) (hd : d.isRow = true) (hi : (P.info? ty).map (·.size) = some cs.length)
    (h : wpListIn F n P ops Q rest (a.put op.dst (.agg cs.toArray)) w) : wpListIn F n P ops Q (op :: rest) a w :=
  wpListIn_step fun _ hK => by rw [if_pos hgd]; exact wpIn_load_row ty x ho b o hx cs d hc hu hd hi (hK _ _ h)

theorem wpListIn_store_new {ops : Array Oper} {rest : List Oper} {op : Oper} {a : Act} {w : World} {Q : Exit → Act → World → Prop} (hgd : op.guard = none) (ty : TypeId) (x y : Operand) (ho : op.op = .store ty x y)
    (W : World) (T : TypeId) (cs : List Value) (hw : ∃ zs, w = W.alloc (.cells zs T) ∧ zs.size = cs.length) (hx : a.eval x = .pointer (some ⟨W.heap.size, 0, none⟩)) (hy : a.eval y = .agg cs.toArray) (h1 : ∀ c ∈ cs, c.oneCell' = true)
    (hi : (P.info? ty).map (·.size) = some cs.length)
    (h : wpListIn F n P ops Q rest (a.put op.dst undef) (W.alloc (.cells cs.toArray T))) : wpListIn F n P ops Q (op :: rest) a w := by
  obtain ⟨zs, rfl, hz⟩ := hw
  refine wpListIn_plain hgd fun K hK => ?_
  refine ⟨fun f hf => ?_, ?_⟩
  · simp [Oper.about, ho] at hf
  · rw [Oper.semAt_plain F _ _ (by rw [ho]; intro c hc'; cases hc')]
    unfold execOp
    have hr := run_storeVar_row (P := P) (W.alloc (.cells zs T)) W.heap.size T ty zs cs.toArray (heap_new _ _) (by simpa using hi) (by simpa using hz) (all_oneCell_toArray h1)
    rw [setRow_alloc] at hr
    simp only [ho, hx, hy, Instr.storeAt, Instr.sureAddr, Sem.run_bind, Sem.run_pure, Result.andThen_ok, hr]
    exact hK _ _ h

theorem wpList_store_new {ops : Array Oper} {rest : List Oper} {op : Oper} {a : Act} {w : World} {Q : Exit → Act → World → Prop} (hgd : op.guard = none) (ty : TypeId) (x y : Operand) (ho : op.op = .store ty x y)
    (W : World) (T : TypeId) (cs : List Value) (hw : ∃ zs, w = W.alloc (.cells zs T) ∧ zs.size = cs.length) (hx : a.eval x = .pointer (some ⟨W.heap.size, 0, none⟩)) (hy : a.eval y = .agg cs.toArray) (h1 : ∀ c ∈ cs, c.oneCell' = true)
    (hi : (P.info? ty).map (·.size) = some cs.length)
    (h : wpList P ops Q rest (a.put op.dst undef) (W.alloc (.cells cs.toArray T))) : wpList P ops Q (op :: rest) a w := by
  obtain ⟨zs, rfl, hz⟩ := hw
  refine wpList_plain hgd fun K hK => ?_
  have hr := run_storeVar_row (P := P) (W.alloc (.cells zs T)) W.heap.size T ty zs cs.toArray (heap_new _ _) (by simpa using hi) (by simpa using hz) (all_oneCell_toArray h1)
  rw [setRow_alloc] at hr
  unfold Oper.wp execOp
  simp only [ho, hx, hy, Instr.storeAt, Instr.sureAddr, Sem.run_bind, Sem.run_pure, Result.andThen_ok, hr]
  exact hK _ _ h

theorem wpList_load_row' {ops : Array Oper} {rest : List Oper} {op : Oper} {a : Act} {w : World} {Q : Exit → Act → World → Prop} (hgd : Region.wanted op (yielded ops a.tmps) = true) (ty : TypeId) (x : Operand) (ho : op.op = .load ty x)
    (b o : Nat) (hx : a.eval x = .pointer (some ⟨b, o, none⟩)) (cs : List Value) (d : TypeDesc) (hc : w.rangeAt b o cs)
    (hu : P.underlying ty = some d) (hd : d.isRow = true) (hi : (P.info? ty).map (·.size) = some cs.length)
    (h : wpList P ops Q rest (a.put op.dst (.agg cs.toArray)) w) : wpList P ops Q (op :: rest) a w :=
  wpList_step fun _ hK => by rw [if_pos hgd]; exact wp_load_mid ty x ho b o hx cs d hc hu hd hi (hK _ _ h)

/-- The cells of a block just laid, as a range. -/
theorem rangeAt_new (W : World) (cs : List Value) (T : TypeId) (o : Nat) (ds : List Value) (h : ∀ j v, ds[j]? = some v → cs[o + j]? = some v) : (W.alloc (.cells cs.toArray T)).rangeAt W.heap.size o ds := by
  intro j v hj
  rw [cell_of_row _ _ _ _ _ _ (heap_new _ _)]
  simpa using h j v hj
end
end Go

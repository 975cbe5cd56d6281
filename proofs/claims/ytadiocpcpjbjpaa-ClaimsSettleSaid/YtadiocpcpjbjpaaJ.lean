import Derived.Test.YtadiocpcpjbjpaaI
namespace Go.Proofs.Ytadiocpcpjbjpaa
open Go.RowKit

/-! ### Maps by plain keys -/
def clV (c : Cl) : Value := .agg #[.int .i64 c.1, .int .i64 c.2]
def inV (i : Int) : Value := .int .i64 i

theorem run_of_bool {p : Sem Bool} {W : World} {b : Bool} (h : (do let r ← p; pure (Value.bool r) : Sem Value).run Try.prog W = .ok (.bool b) W) : p.run Try.prog W = .ok b W := by
  simp only [Sem.run_bind] at h
  cases hp : p.run Try.prog W with
  | halt a => rw [hp] at h; simp [Result.andThen] at h
  | ok r w' =>
    rw [hp] at h
    simp [Result.andThen] at h
    rw [h.1, h.2]

theorem equal33 (x u : Cl) (W : World) : (Op.equal 33 (clV x) (clV u)).run Try.prog W = .ok (decide (x = u)) W :=
  run_of_bool (cl_eql x u W)

theorem check33 (b : Bool) (c : Cl) (W : World) : (Instr.checkKey b 10000 33 (clV c)).run Try.prog W = .ok () W := by
  kernel_rfl
theorem check3 (b : Bool) (i : Int) (W : World) : (Instr.checkKey b 10000 3 (.int .i64 i)).run Try.prog W = .ok () W := by
  kernel_rfl
theorem zero85 (W : World) : (zeroValue 85).run Try.prog W = .ok (.map none) W := by kernel_rfl
theorem zero4 (W : World) : (zeroValue 4).run Try.prog W = .ok (.bool false) W := by kernel_rfl

/-- The first pair with a key: its place, and what it holds. -/
def look {α β : Type} [DecidableEq α] (x : α) : List (α × β) → Nat → Option (Nat × β)
  | [], _ => none
  | p :: ps, i => if x = p.1 then some (i, p.2) else look x ps (i + 1)
/-- The first pair with a key put anew, or a pair more. -/
def put {α β : Type} [DecidableEq α] (x : α) (v : β) : List (α × β) → List (α × β)
  | [] => [(x, v)]
  | p :: ps => if x = p.1 then (x, v) :: ps else p :: put x v ps

/-- The entries of a map read as these pairs. -/
def Ents {α : Type} (kv : α → Value) (es : List MapEntry) (ps : List (α × Value)) : Prop := es.map (fun e => (e.key, e.val)) = ps.map fun p => (kv p.1, p.2)

/-- What is needed of a type of keys. -/
structure KeyRun {α : Type} [DecidableEq α] (kt : TypeId) (kv : α → Value) : Prop where
  check : ∀ b x W, (Instr.checkKey b 10000 kt (kv x)).run Try.prog W = .ok () W
  find : ∀ x es ps, Ents kv es ps → ∀ W, (Instr.findKey kt (kv x) es).run Try.prog W = .ok (look x ps 0) W
  bits : ∀ x, Instr.sameBits 10000 (kv x) (kv x) = true

theorem find33 (x : Cl) : ∀ (es : List MapEntry) (ps : List (Cl × Value)) (i : Nat), Ents clV es ps → ∀ W, (Instr.findAsking 33 (clV x) es i).run Try.prog W = .ok (look x ps i) W
  | [], ps, i, h, W => by
    cases ps with
    | nil => rfl
    | cons p ps => simp [Ents] at h
  | e :: es, ps, i, h, W => by
    cases ps with
    | nil => simp [Ents] at h
    | cons p ps =>
      simp only [Ents, List.map_cons, List.cons.injEq, Prod.mk.injEq] at h
      obtain ⟨⟨h1, h2⟩, h3⟩ := h
      unfold Instr.findAsking look
      simp only [Sem.run_bind, h1, equal33, Result.andThen]
      by_cases hx : x = p.1
      · simp [hx, h2]
      · simp only [hx, decide_false, if_false]
        exact find33 x es ps (i + 1) h3 W

theorem find3 (x : Int) : ∀ (es : List MapEntry) (ps : List (Int × Value)) (i : Nat), Ents inV es ps → Instr.findNow (.int .i64) (inV x) es i = some (look x ps i)
  | [], ps, i, h => by
    cases ps with
    | nil => rfl
    | cons p ps => simp [Ents] at h
  | e :: es, ps, i, h => by
    cases ps with
    | nil => simp [Ents] at h
    | cons p ps =>
      simp only [Ents, List.map_cons, List.cons.injEq, Prod.mk.injEq] at h
      obtain ⟨⟨h1, h2⟩, h3⟩ := h
      unfold Instr.findNow look
      by_cases hx : x = p.1
      · simp [h1, inV, Instr.sameNow, hx, h2]
      · have hb : (x == p.1) = false := by simpa using hx
        simp only [h1, inV, Instr.sameNow, if_true, hb, hx, if_false]
        exact find3 x es ps (i + 1) h3

theorem keys33 : KeyRun 33 clV where
  check := check33
  find := fun x es ps h W => (run_findKey_eq (k := 33) (w := W) (by rfl) _ _).trans (find33 x es ps 0 h W)
  bits := fun x => by simp [clV, Instr.sameBits]
theorem keys3 : KeyRun 3 inV where
  check := check3
  find := fun x es ps h W => MapKept.run_findKey Try.underlying3 (find3 x es ps 0 h)
  bits := fun x => by simp [inV, Instr.sameBits]

/-- A map in memory. -/
def MapAt {α : Type} (w : World) (b : Nat) (kv : α → Value) (ps : List (α × Value)) : Prop := ∃ es clock, w.heap[b]? = some (.map es clock) ∧ Ents kv es.toList ps

section
variable {α : Type} [DecidableEq α] {kv : α → Value} {kt e t : TypeId}

omit [DecidableEq α] in
theorem MapAt.new (w : World) : MapAt (w.alloc (.map #[] 0)) w.heap.size kv [] := ⟨#[], 0, heap_new w _, rfl⟩
omit [DecidableEq α] in
theorem MapAt.lt {w : World} {b : Nat} {ps : List (α × Value)} (h : MapAt w b kv ps) : b < w.heap.size := by
  obtain ⟨es, ck, h, _⟩ := h
  exact (Array.getElem?_eq_some_iff.1 h).1
omit [DecidableEq α] in
theorem MapAt.on {w w' : World} {b : Nat} {ps : List (α × Value)} (h : MapAt w b kv ps) (hb : w'.heap[b]? = w.heap[b]?) : MapAt w' b kv ps := by
  obtain ⟨es, ck, h, h2⟩ := h
  exact ⟨es, ck, hb.trans h, h2⟩

theorem map_look (K : KeyRun kt kv) (ht : Try.prog.underlying t = some (.map kt e)) {z : Value} (hz : ∀ W, (zeroValue e).run Try.prog W = .ok z W) {w : World} {b : Nat} {ps : List (α × Value)} (h : MapAt w b kv ps) (x : α) :
    (Instr.lookup t (.map (some b)) (kv x) false).run Try.prog w = .ok (match look x ps 0 with | some (_, v) => v | none => z) w := by
  obtain ⟨es, ck, h1, h2⟩ := h
  simp only [Instr.lookup, Sem.run_bind, run_underlying ht, MapKept.run_getObj_map h1, Result.andThen, Sem.run_pure, K.check, K.find x _ _ h2]
  cases look x ps 0 with
  | none => simp [hz]
  | some p => obtain ⟨i, v⟩ := p; simp

theorem map_look_nil (K : KeyRun kt kv) (ht : Try.prog.underlying t = some (.map kt e)) {z : Value} (hz : ∀ W, (zeroValue e).run Try.prog W = .ok z W) {w : World} (x : α) :
    (Instr.lookup t (.map none) (kv x) false).run Try.prog w = .ok z w := by
  simp only [Instr.lookup, Sem.run_bind, run_underlying ht, Result.andThen, Sem.run_pure, K.check, K.find x [] [] rfl]
  simp [look, hz]

theorem ents_put {es : Array MapEntry} {ps : List (α × Value)} (h : Ents kv es.toList ps) (x : α) (v : Value) :
    (look x ps 0 = none ∧ ∀ ck, Ents kv (es.push { key := kv x, val := v, born := ck }).toList (put x v ps)) ∨
    ∃ i u, look x ps 0 = some (i, u) ∧ ((es[i]?).map (·.key)) = some (kv x) ∧ Ents kv (es.modify i fun e => { e with key := kv x, val := v }).toList (put x v ps) := by
  have gen : ∀ (l : List MapEntry) (ps : List (α × Value)) (k : Nat), Ents kv l ps →
      (look x ps k = none ∧ ∀ ck, Ents kv (l ++ [{ key := kv x, val := v, born := ck }]) (put x v ps)) ∨
      ∃ i u, look x ps k = some (i + k, u) ∧ ((l[i]?).map (·.key)) = some (kv x) ∧ Ents kv (l.modify i fun e => { e with key := kv x, val := v }) (put x v ps) := by
    intro l
    induction l with
    | nil =>
      intro ps k h
      cases ps with
      | nil => exact .inl ⟨rfl, fun ck => rfl⟩
      | cons p ps => simp [Ents] at h
    | cons e l ih =>
      intro ps k h
      cases ps with
      | nil => simp [Ents] at h
      | cons p ps =>
        have h0 := h
        simp only [Ents, List.map_cons, List.cons.injEq, Prod.mk.injEq] at h
        obtain ⟨⟨h1, h2⟩, h3⟩ := h
        by_cases hx : x = p.1
        · refine .inr ⟨0, p.2, by simp [look, hx], by simp [h1, hx], ?_⟩
          simp only [put, hx, if_true, Ents, List.modify_zero_cons, List.map_cons]
          rw [h3]
        · rcases ih ps (k + 1) h3 with ⟨g1, g2⟩ | ⟨i, u, g1, g2, g3⟩
          · refine .inl ⟨by simp [look, hx, g1], fun ck => ?_⟩
            have := g2 ck
            simp only [Ents] at this
            simp only [put, hx, if_false, Ents, List.cons_append, List.map_cons, h1, h2, this]
          · refine .inr ⟨i + 1, u, by simp only [look, hx, if_false, g1]; congr 2; omega, by simpa using g2, ?_⟩
            simp only [Ents] at g3
            simp only [put, hx, if_false, Ents, List.modify_succ_cons, List.map_cons, h1, h2, g3]
  rcases gen es.toList ps 0 h with ⟨h1, h2⟩ | ⟨i, u, h1, h2, h3⟩
  · exact .inl ⟨h1, fun ck => by simpa using h2 ck⟩
  · exact .inr ⟨i, u, by simpa using h1, by simpa using h2, by simpa using h3⟩

theorem map_put (K : KeyRun kt kv) (ht : Try.prog.underlying t = some (.map kt e)) {w : World} {b : Nat} {ps : List (α × Value)} (h : MapAt w b kv ps) (x : α) (v : Value) :
    ∃ o, (Instr.mapUpdate t (.map (some b)) (kv x) v).run Try.prog w = .ok () (w.putObj b o) ∧ MapAt (w.putObj b o) b kv (put x v ps) := by
  have hlt := h.lt
  obtain ⟨es, ck, h1, h2⟩ := h
  rcases ents_put h2 x v with ⟨g1, g2⟩ | ⟨i, u, g1, g2, g3⟩
  · refine ⟨.map (es.push { key := kv x, val := v, born := ck }) (ck + 1), ?_, ?_⟩
    · simp [Instr.mapUpdate, run_underlying ht, MapKept.run_getObj_map h1, Result.andThen, K.check, K.find x _ _ h2, g1, MapKept.run_setObj_map _ h1, World.putObj]
    · exact ⟨_, _, World.putObj_heap_same hlt, g2 ck⟩
  · refine ⟨.map (es.modify i fun e => { e with key := kv x, val := v }) ck, ?_, ?_⟩
    · simp only [Instr.mapUpdate, Sem.run_bind, run_underlying ht, MapKept.run_getObj_map h1, Result.andThen, K.check, K.find x _ _ h2, g1, g2, Option.getD_some, Instr.keyThatStays, K.bits, if_true, Sem.run_pure, MapKept.run_setObj_map _ h1, World.putObj]
    · exact ⟨_, _, World.putObj_heap_same hlt, g3⟩

end

end Go.Proofs.Ytadiocpcpjbjpaa

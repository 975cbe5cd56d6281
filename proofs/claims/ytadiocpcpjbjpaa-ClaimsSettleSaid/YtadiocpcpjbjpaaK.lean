import Derived.Test.YtadiocpcpjbjpaaJ
namespace Go.Proofs.Ytadiocpcpjbjpaa
open Go.RowKit

section
variable {α β : Type} [DecidableEq α]
theorem look_none {x : α} : ∀ {ps : List (α × β)} {i : Nat}, look x ps i = none → ∀ p ∈ ps, p.1 ≠ x
  | [], _, _ => by simp
  | p :: ps, i, h => by
    unfold look at h
    by_cases hx : x = p.1
    · simp [hx] at h
    · simp only [hx, if_false] at h
      intro q hq
      rcases List.mem_cons.1 hq with rfl | hq
      · exact fun e => hx e.symm
      · exact look_none h q hq
theorem look_some {x : α} : ∀ {ps : List (α × β)} {i j : Nat} {v : β}, look x ps i = some (j, v) → (x, v) ∈ ps
  | [], _, _, _, h => by simp [look] at h
  | p :: ps, i, j, v, h => by
    unfold look at h
    by_cases hx : x = p.1
    · simp only [hx, if_true, Option.some.injEq, Prod.mk.injEq] at h
      rw [← h.2, hx]
      exact List.mem_cons_self
    · simp only [hx, if_false] at h
      exact List.mem_cons_of_mem _ (look_some h)
theorem put_none {x : α} {v : β} : ∀ {ps : List (α × β)} {i : Nat}, look x ps i = none → put x v ps = ps ++ [(x, v)]
  | [], _, _ => rfl
  | p :: ps, i, h => by
    unfold look at h
    by_cases hx : x = p.1
    · simp [hx] at h
    · simp only [hx, if_false] at h
      simp only [put, hx, if_false, List.cons_append, put_none h]
theorem look_append {x : α} {v : β} : ∀ {ps : List (α × β)} {i : Nat}, look x ps i = none → ∃ j, look x (ps ++ [(x, v)]) i = some (j, v)
  | [], i, _ => ⟨i, by simp [look]⟩
  | p :: ps, i, h => by
    unfold look at h
    by_cases hx : x = p.1
    · simp [hx] at h
    · simp only [hx, if_false] at h
      obtain ⟨j, hj⟩ := look_append (v := v) h
      exact ⟨j, by simp only [List.cons_append, look, hx, if_false, hj]⟩
theorem look_map {γ : Type} {x : α} (f : β → γ) : ∀ {ps : List (α × β)} {i : Nat}, look x (ps.map fun p => (p.1, f p.2)) i = (look x ps i).map fun q => (q.1, f q.2)
  | [], _ => rfl
  | p :: ps, i => by
    unfold look
    by_cases hx : x = p.1
    · simp [hx]
    · simp [hx, look_map]
theorem put_all {x : α} {v : β} : ∀ {ns : List α}, put x v (ns.map fun i => (i, v)) = (if x ∈ ns then ns else ns ++ [x]).map fun i => (i, v)
  | [] => rfl
  | n :: ns => by
    by_cases hx : x = n
    · simp [put, hx]
    · simp only [List.map_cons, put, hx, if_false, put_all, List.mem_cons, false_or]
      by_cases h : x ∈ ns <;> simp [h]
theorem look_set {x : α} {v : β} : ∀ {ns : List α} {i : Nat}, (∃ j, look x (ns.map fun i => (i, v)) i = some (j, v)) ∨ x ∉ ns ∧ look x (ns.map fun i => (i, v)) i = none
  | [], _ => .inr ⟨by simp, rfl⟩
  | n :: ns, i => by
    by_cases hx : x = n
    · exact .inl ⟨i, by simp [look, hx]⟩
    · rcases look_set (x := x) (v := v) (ns := ns) (i := i + 1) with ⟨j, h⟩ | ⟨h1, h2⟩
      · exact .inl ⟨j, by simp [look, hx, h]⟩
      · exact .inr ⟨by simp [hx, h1], by simp [look, hx, h2]⟩
end

/-- The map of the maps of senders by cell: its pairs. -/
def SendersAt (w : World) (lo Bm : Nat) (P : List (Cl × Int)) : Prop :=
  ∃ ps : List (Cl × Nat), MapAt w Bm clV (ps.map fun p => (p.1, .map (some p.2))) ∧ lo ≤ Bm ∧ (ps.map (·.2)).Nodup ∧ (ps.map (·.1)).Nodup ∧
    (∀ p ∈ ps, lo ≤ p.2 ∧ p.2 ≠ Bm ∧ ∃ ns : List Int, MapAt w p.2 inV (ns.map fun i => (i, .bool true)) ∧ ∀ i, i ∈ ns ↔ (p.1, i) ∈ P) ∧ (∀ q ∈ P, ∃ r, (q.1, r) ∈ ps)

theorem SendersAt.new (w : World) {lo : Nat} (h : lo ≤ w.heap.size) : SendersAt (w.alloc (.map #[] 0)) lo w.heap.size [] :=
  ⟨[], MapAt.new w, h, by simp, by simp, by simp, by simp⟩

theorem SendersAt.on {w w' : World} {lo Bm : Nat} {P : List (Cl × Int)} (h : SendersAt w lo Bm P) (hb : ∀ k, k < w.heap.size → lo ≤ k → w'.heap[k]? = w.heap[k]?) : SendersAt w' lo Bm P := by
  obtain ⟨ps, h1, h2, h3, h4, h5, h6⟩ := h
  refine ⟨ps, h1.on (hb _ h1.lt h2), h2, h3, h4, fun p hp => ?_, h6⟩
  obtain ⟨g1, g2, ns, g3, g4⟩ := h5 p hp
  exact ⟨g1, g2, ns, g3.on (hb _ g3.lt g1), g4⟩

theorem SendersAt.below {w w' : World} {lo Bm n : Nat} {P : List (Cl × Int)} (h : SendersAt w lo Bm P) (hb : Below n w w') (hn : w.heap.size ≤ n) : SendersAt w' lo Bm P :=
  h.on fun k hk _ => hb.block k (by omega)

/-- The look-up of a cell, and of a sender in what it gives. -/
theorem SendersAt.look {w : World} {lo Bm : Nat} {P : List (Cl × Int)} (h : SendersAt w lo Bm P) (c : Cl) :
    ∃ o : Option Nat, (Instr.lookup 84 (.map (some Bm)) (.agg #[.int .i64 c.1, .int .i64 c.2]) false).run Try.prog w = .ok (.map o) w ∧
      ∀ i : Int, (Instr.lookup 85 (.map o) (.int .i64 i) false).run Try.prog w = .ok (.bool (decide ((c, i) ∈ P))) w := by
  obtain ⟨ps, h1, h2, h3, h4, h5, h6⟩ := h
  have hl := map_look keys33 Try.underlying84 zero85 h1 c
  rw [look_map (fun r : Nat => Value.map (some r))] at hl
  cases hk : Go.Proofs.Ytadiocpcpjbjpaa.look c ps 0 with
  | none =>
    rw [hk] at hl
    refine ⟨none, hl, fun i => ?_⟩
    have hn : (c, i) ∉ P := fun hp => by
      obtain ⟨r, hr⟩ := h6 _ hp
      exact look_none hk _ hr rfl
    rw [decide_eq_false hn]
    exact map_look_nil keys3 Try.underlying85 zero4 i
  | some p =>
    obtain ⟨j, r⟩ := p
    rw [hk] at hl
    refine ⟨some r, hl, fun i => ?_⟩
    obtain ⟨g1, g2, ns, g3, g4⟩ := h5 _ (look_some hk)
    have hl2 := map_look keys3 Try.underlying85 zero4 g3 i
    rcases look_set (x := i) (v := Value.bool true) (ns := ns) (i := 0) with ⟨j, e⟩ | ⟨e1, e2⟩
    · rw [e] at hl2
      have hm := look_some e
      rw [decide_eq_true ((g4 i).1 (by simpa using hm))]
      exact hl2
    · rw [e2] at hl2
      rw [decide_eq_false (fun hp => e1 ((g4 i).2 hp))]
      exact hl2

def KeepC (w w' : World) : Prop := ∀ b j v, w.cell? ⟨b, j, none⟩ = some v → w'.cell? ⟨b, j, none⟩ = some v
theorem MapAt.nocell {α : Type} {kv : α → Value} {w : World} {b : Nat} {ps : List (α × Value)} (h : MapAt w b kv ps) (j : Nat) : w.cell? ⟨b, j, none⟩ = none := by
  obtain ⟨es, ck, h, _⟩ := h
  simp [World.cell?, h]
theorem MapAt.keepC {α : Type} {kv : α → Value} {w : World} {b : Nat} {ps : List (α × Value)} (h : MapAt w b kv ps) (o : Obj) : KeepC w (w.putObj b o) := fun b' j v hc => by
  rw [cell_putObj (by intro e; subst e; rw [h.nocell] at hc; cases hc)]
  exact hc
theorem KeepC.alloc (w : World) (o : Obj) : KeepC w (w.alloc o) := fun b j v hc => by
  have h := cell_block hc
  exact (World.cell?_of_block (Below.heap_alloc w o b h)).trans hc
theorem KeepC.trans {a b c : World} (h : KeepC a b) (h' : KeepC b c) : KeepC a c := fun i j v hc => h' i j v (h i j v hc)

/-- A cell that has no map gets one. -/
theorem SendersAt.ensure {w : World} {lo Bm : Nat} {P : List (Cl × Int)} (h : SendersAt w lo Bm P) (hlo : lo ≤ w.heap.size) (c : Cl)
    (hl : (Instr.lookup 84 (.map (some Bm)) (.agg #[.int .i64 c.1, .int .i64 c.2]) false).run Try.prog w = .ok (.map none) w) :
    ∃ W2, (Instr.mapUpdate 84 (.map (some Bm)) (.agg #[.int .i64 c.1, .int .i64 c.2]) (.map (some w.heap.size))).run Try.prog (w.alloc (.map #[] 0)) = .ok () W2 ∧ SendersAt W2 lo Bm P ∧ Below lo w W2 ∧ KeepC w W2 ∧ w.heap.size < W2.heap.size ∧
      (Instr.lookup 84 (.map (some Bm)) (.agg #[.int .i64 c.1, .int .i64 c.2]) false).run Try.prog W2 = .ok (.map (some w.heap.size)) W2 := by
  obtain ⟨ps, h1, h2, h3, h4, h5, h6⟩ := h
  have hl0 := map_look keys33 Try.underlying84 zero85 h1 c
  rw [look_map (fun r : Nat => Value.map (some r))] at hl0
  have hl1 := hl0.symm.trans hl
  have hk : Go.Proofs.Ytadiocpcpjbjpaa.look c ps 0 = none := by
    cases hk : Go.Proofs.Ytadiocpcpjbjpaa.look c ps 0 with
    | none => rfl
    | some p => rw [hk] at hl1; simp at hl1
  have h1' : MapAt (w.alloc (.map #[] 0)) Bm clV (ps.map fun p => (p.1, .map (some p.2))) := h1.on (Below.heap_alloc w _ Bm h1.lt)
  obtain ⟨o, hr, hm⟩ := map_put keys33 Try.underlying84 h1' c (.map (some w.heap.size))
  have hk' : Go.Proofs.Ytadiocpcpjbjpaa.look c (ps.map fun p => (p.1, Value.map (some p.2))) 0 = none := by rw [look_map (fun r : Nat => Value.map (some r)), hk]; rfl
  rw [put_none hk'] at hm
  have hps : (ps.map fun p => (p.1, Value.map (some p.2))) ++ [(c, Value.map (some w.heap.size))] = (ps ++ [(c, w.heap.size)]).map fun p => (p.1, .map (some p.2)) := by simp
  have hother : ∀ k, k < w.heap.size → k ≠ Bm → ((w.alloc (.map #[] 0)).putObj Bm o).heap[k]? = w.heap[k]? := fun k hk hne => (World.putObj_heap_other hne).trans (Below.heap_alloc w _ k hk)
  have hBlt := h1.lt
  refine ⟨_, hr, ⟨ps ++ [(c, w.heap.size)], hps ▸ hm, h2, ?_, ?_, fun p hp => ?_, fun q hq => ?_⟩, ?_, (KeepC.alloc w _).trans (h1'.keepC o), by simp, ?_⟩
  · rw [List.map_append, List.nodup_append]
    refine ⟨h3, by simp, ?_⟩
    intro a ha b hb
    simp only [List.map_cons, List.map_nil, List.mem_cons, List.not_mem_nil, or_false] at hb
    obtain ⟨p, hp, rfl⟩ := List.mem_map.1 ha
    obtain ⟨_, _, ns, g3, _⟩ := h5 p hp
    have := g3.lt
    omega
  · rw [List.map_append, List.nodup_append]
    refine ⟨h4, by simp, ?_⟩
    intro a ha b hb
    simp only [List.map_cons, List.map_nil, List.mem_cons, List.not_mem_nil, or_false] at hb
    obtain ⟨p, hp, rfl⟩ := List.mem_map.1 ha
    rw [hb]
    exact look_none hk p hp
  · rcases List.mem_append.1 hp with hp | hp
    · obtain ⟨g1, g2, ns, g3, g4⟩ := h5 p hp
      exact ⟨g1, g2, ns, g3.on (hother _ g3.lt g2), g4⟩
    · simp only [List.mem_cons, List.not_mem_nil, or_false] at hp
      subst hp
      refine ⟨hlo, by simp; omega, [], ?_, fun i => ⟨by simp, fun hq => ?_⟩⟩
      · exact (MapAt.new (kv := inV) w).on (World.putObj_heap_other (by omega))
      · obtain ⟨r, hr⟩ := h6 _ hq
        exact absurd rfl (look_none hk _ hr)
  · obtain ⟨r, hr⟩ := h6 q hq
    exact ⟨r, List.mem_append_left _ hr⟩
  · exact ((Below.refl lo w).alloc hlo _).trans (below_putObj o h2)
  · have := map_look keys33 Try.underlying84 zero85 (hps ▸ hm) c
    rw [look_map (fun r : Nat => Value.map (some r))] at this
    obtain ⟨j, hj⟩ := look_append (v := w.heap.size) hk
    rw [hj] at this
    exact this

/-- A sender more. -/
theorem SendersAt.add {w : World} {lo Bm r : Nat} {P : List (Cl × Int)} (h : SendersAt w lo Bm P) (c : Cl) (i : Int)
    (hl : (Instr.lookup 84 (.map (some Bm)) (.agg #[.int .i64 c.1, .int .i64 c.2]) false).run Try.prog w = .ok (.map (some r)) w) :
    ∃ W2, (Instr.mapUpdate 85 (.map (some r)) (.int .i64 i) (.bool true)).run Try.prog w = .ok () W2 ∧ SendersAt W2 lo Bm (P ++ [(c, i)]) ∧ Below lo w W2 ∧ KeepC w W2 ∧ W2.heap.size = w.heap.size := by
  obtain ⟨ps, h1, h2, h3, h4, h5, h6⟩ := h
  have hl0 := map_look keys33 Try.underlying84 zero85 h1 c
  rw [look_map (fun r : Nat => Value.map (some r))] at hl0
  have hl1 := hl0.symm.trans hl
  obtain ⟨j, hk⟩ : ∃ j, Go.Proofs.Ytadiocpcpjbjpaa.look c ps 0 = some (j, r) := by
    cases hk : Go.Proofs.Ytadiocpcpjbjpaa.look c ps 0 with
    | none => rw [hk] at hl1; simp at hl1
    | some p =>
      rw [hk] at hl1
      simp at hl1
      exact ⟨p.1, by rw [← hl1]⟩
  have hmem := look_some hk
  obtain ⟨g1, g2, ns, g3, g4⟩ := h5 _ hmem
  obtain ⟨o, hr, hm⟩ := map_put keys3 Try.underlying85 g3 i (.bool true)
  rw [put_all] at hm
  simp only at g1 g2 g4 hr hm
  refine ⟨_, hr, ⟨ps, h1.on (World.putObj_heap_other (Ne.symm g2)), h2, h3, h4, fun p hp => ?_, fun q hq => ?_⟩, below_putObj o g1, g3.keepC o, by simp [World.putObj]⟩
  · obtain ⟨k1, k2, ns', k3, k4⟩ := h5 p hp
    by_cases he : p.2 = r
    · have hpc : p = (c, r) := by
        have h7 : ∀ (l : List (Cl × Nat)) (p q : Cl × Nat), (l.map (·.2)).Nodup → p ∈ l → q ∈ l → p.2 = q.2 → p = q := by
          intro l
          induction l with
          | nil => intro p q _ hp; cases hp
          | cons a l ih =>
            intro p q hn hp hq he
            rw [List.map_cons, List.nodup_cons] at hn
            rcases List.mem_cons.1 hp with rfl | hp' <;> rcases List.mem_cons.1 hq with rfl | hq'
            · rfl
            · exact absurd (List.mem_map.2 ⟨q, hq', he.symm⟩) hn.1
            · exact absurd (List.mem_map.2 ⟨p, hp', he⟩) hn.1
            · exact ih p q hn.2 hp' hq' he
        exact h7 ps p (c, r) h3 hp hmem he
      subst hpc
      refine ⟨k1, k2, _, hm, fun i' => ?_⟩
      simp only [List.mem_append, List.mem_cons, Prod.mk.injEq, true_and, List.not_mem_nil, or_false, ← g4]
      by_cases hi : i ∈ ns
      · rw [if_pos hi]
        constructor
        · exact .inl
        · rintro (h | rfl)
          · exact h
          · exact hi
      · rw [if_neg hi]
        simp
    · refine ⟨k1, k2, ns', k3.on (World.putObj_heap_other he), fun i' => ?_⟩
      rw [k4]
      constructor
      · exact fun h => List.mem_append_left _ h
      · intro h
        rcases List.mem_append.1 h with h | h
        · exact h
        · simp only [List.mem_cons, List.not_mem_nil, or_false, Prod.mk.injEq] at h
          exfalso
          apply he
          have h8 : ∀ (l : List (Cl × Nat)) (p q : Cl × Nat), (l.map (·.1)).Nodup → p ∈ l → q ∈ l → p.1 = q.1 → p = q := by
            intro l
            induction l with
            | nil => intro p q _ hp; cases hp
            | cons a l ih =>
              intro p q hn hp hq he
              rw [List.map_cons, List.nodup_cons] at hn
              rcases List.mem_cons.1 hp with rfl | hp' <;> rcases List.mem_cons.1 hq with rfl | hq'
              · rfl
              · exact absurd (List.mem_map.2 ⟨q, hq', he.symm⟩) hn.1
              · exact absurd (List.mem_map.2 ⟨p, hp', he⟩) hn.1
              · exact ih p q hn.2 hp' hq' he
          rw [h8 ps p (c, r) h4 hp hmem h.1]
  · rcases List.mem_append.1 hq with hq | hq
    · exact h6 q hq
    · simp only [List.mem_cons, List.not_mem_nil, or_false] at hq
      subst hq
      exact ⟨r, hmem⟩

end Go.Proofs.Ytadiocpcpjbjpaa

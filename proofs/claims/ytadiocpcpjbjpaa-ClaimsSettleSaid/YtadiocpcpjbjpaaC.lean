import Derived.Test.YtadiocpcpjbjpaaB
import Derived.RangeFuncNested
import Derived.RangeFuncBound
import Derived.RangeFuncCalls
import Derived.RangeFuncLeaves
import Derived.Shelf.Abstract
import Derived.Shelf.RegionOpen
import Derived.OwnWalkIn
import Derived.TacticsInMore
import Derived.LoopNIn
import Derived.LoopIn
namespace Go.Proofs.Ytadiocpcpjbjpaa
open Go.RowKit

/-! ### A search by a range over a function: the body stops the loop by a return, or leaves all that was there as it was -/
/-- Blocks from 'B' on that were there are as they were. -/
def Above (B : Nat) (A A' : World) : Prop := A.heap.size ≤ A'.heap.size ∧ ∀ k, B ≤ k → k < A.heap.size → A'.heap[k]? = A.heap[k]?

theorem Above.mono {B B' : Nat} {A A' : World} (h : Above B A A') (hB : B ≤ B') : Above B' A A' := ⟨h.1, fun k h1 h2 => h.2 k (by omega) h2⟩
theorem Above.trans {B : Nat} {A A' A'' : World} (h : Above B A A') (h' : Above B A' A'') : Above B A A'' :=
  ⟨by have := h.1; have := h'.1; omega, fun k h1 h2 => (h'.2 k h1 (by have := h.1; omega)).trans (h.2 k h1 h2)⟩
theorem Below.above {A A' : World} (h : Below A.heap.size A A') (B : Nat) : Above B A A' := ⟨h.size, fun k _ h2 => h.block k h2⟩

/-- What a function value that enumerates 'xs' promises to whoever searches through it. -/
def Stops {α : Type} (P : Program) (gf : Nat) (lb : Array Value) (encs : α → Array Value) (xs : List α) (w0 : World) : Prop :=
  ∀ (l : Nat) (stop : α → Bool) (Jx : World → Prop) (W : World), Below w0.heap.size w0 W → (∀ A A', Jx A → Below W.heap.size A A' → Jx A') →
    (∀ x W1, x ∈ xs → Below W.heap.size W W1 → YieldAt Fence.wide 0 P l (encs x) W1 fun e W' =>
      (stop x = false ∧ e = .returned (.bool true) ∧ Below W1.heap.size W1 W') ∨ (stop x = true ∧ e = .returned (.bool false) ∧ Above W.heap.size W1 W' ∧ Jx W')) →
    Calls P gf (#[.func (.yield l) #[] #[]] ++ lb) W fun e W' => (∃ v, e = .returned v) ∧ ((xs.any stop = false ∧ Below W.heap.size W W') ∨ (xs.any stop = true ∧ Jx W'))

/-- How the body of a round is left: it goes on, all that was there as it was; or it returns. -/
def searchPost (st : Bool) (Ix : World → Prop) (B : Nat) (Wb : World) : Exit → Act → World → Prop
  | .normal, _, W3 => st = false ∧ Below Wb.heap.size Wb W3
  | .ret, _, W3 => st = true ∧ Above B Wb W3 ∧ Ix W3
  | _, _, _ => False

theorem below_putObj {B r : Nat} {w : World} (o : Obj) (h : B ≤ r) : Below B w (w.putObj r o) :=
  ⟨rfl, rfl, rfl, by simp, fun k hk => World.putObj_heap_other (by omega)⟩

theorem range_search {α : Type} {P : Program} {g : Operand} {ps : Array Tmp} {assign body : Code} {Q : Exit → Act → World → Prop} {a : Act} {w w0 : World} {gf : Nat} {lb : Array Value} {encs : α → Array Value} {xs : List α}
    (hg : a.eval g = .func (.func gf) #[] lb) (eg : ∀ args w, (callFunc gf args).run P w = .ok (.enter gf args) w)
    (hit : Stops P gf lb encs xs w0) (hb0 : Below w0.heap.size w0 w) (hps : ∀ x, (encs x).size = ps.size)
    (stop : α → Bool) (Ix : World → Prop) (hIx : ∀ A A', Ix A → Below w.heap.size A A' → Ix A')
    (hround : ∀ (x : α) (W : World) (l : Nat), x ∈ xs → Below w.heap.size w W → l = w.heap.size + 1 → l < W.heap.size →
      assign.wpIn (Fence.wide.inRound l) 0 P (Exit.then (fun a' Wa => Below W.heap.size W Wa ∧ ∀ o, body.wpIn (Fence.wide.inRound l) 0 P (searchPost (stop x) Ix w.heap.size (Wa.putObj l o)) a' (Wa.putObj l o)) (fun _ _ _ => False))
        { tmps := (ps.zip (encs x)).foldl (fun t (p, v) => t.setIfInBounds p v) a.tmps, defers := [] } W)
    (hdone : ∀ W, xs.any stop = false → Below w.heap.size w W → W.heap[w.heap.size]? = some (.deferred (some [])) → Q .normal { a with defers := { target := .collected w.heap.size, args := #[] } :: a.defers } W)
    (hstop : ∀ W, xs.any stop = true → Ix W → W.heap[w.heap.size]? = some (.deferred (some [])) → Code.ret.wpIn Fence.wide 0 P Q { a with defers := { target := .collected w.heap.size, args := #[] } :: a.defers } W) :
    (Code.rangeFunc g ps assign body).wpIn Fence.wide 0 P Q a w := by
  refine wpIn_rangeFunc ?_
  intro fn hfn
  rw [show Fence.wide.round = none from rfl]
  obtain ⟨rec, hrec⟩ : ∃ rec : LoopState → Option Code → Loop, rec = fun st pe => { state := st, pending := pe, fn, tmps := a.tmps, params := ps, assign, body, defers := w.heap.size } := ⟨_, rfl⟩
  obtain ⟨W1, hW1⟩ : ∃ W1, (w.alloc (.deferred (some []))).alloc (.loop (rec .ready none)) = W1 := ⟨_, rfl⟩
  have hL1 : W1.heap[w.heap.size + 1]? = some (.loop (rec .ready none)) := by
    rw [← hW1]; have := World.alloc_heap_new (w.alloc (.deferred (some []))) (.loop (rec .ready none)); rwa [World.size_alloc] at this
  have hK1 : W1.heap[w.heap.size]? = some (.deferred (some [])) := by
    rw [← hW1]; exact (Below.heap_alloc _ _ _ (by simp)).trans (World.alloc_heap_new w _)
  have hbw : Below w.heap.size w W1 := by rw [← hW1]; exact ((Below.refl _ w).alloc (Nat.le_refl _) _).alloc (by simp) _
  have hs1 : W1.heap.size = w.heap.size + 2 := by rw [← hW1]; simp
  refine ⟨w.heap.size + 1, [{ target := .collected w.heap.size, args := #[] }], W1, { target := .fn (.func gf) lb, args := #[.func (.yield (w.heap.size + 1)) #[] #[]] }, W1, gf,
    #[.func (.yield (w.heap.size + 1)) #[] #[]] ++ lb, W1, ?_, ?_, ?_, ?_, fun h => (by simp [Fence.wide] at h), ?_⟩
  · rw [← hW1, hrec]; exact run_enterLoop_outer _ _ _ _ _
  · simp only [resolve, hg]
    simp [go_sem]
  · intro f' _; exact trivial
  · simp [invoke, go_sem, eg]
  · clear hW1
    refine callsIn_wide.2 ((hit (w.heap.size + 1) stop
      (fun W => W.heap[w.heap.size + 1]? = some (.loop (rec .done (some .ret))) ∧ W.heap[w.heap.size]? = some (.deferred (some [])) ∧ Ix W)
      W1 (hb0.trans (hbw.mono hb0.size)) ?_ ?_).mono ?_)
    · rintro A A' ⟨hl, hk, hi⟩ hb
      exact ⟨(hb.block _ (by omega)).trans hl, (hb.block _ (by omega)).trans hk, hIx _ _ hi (hb.mono (by omega))⟩
    · intro x W hx hb
      have hl : W.heap[w.heap.size + 1]? = some (.loop (rec .ready none)) := (hb.block _ (by omega)).trans hL1
      have hk : W.heap[w.heap.size]? = some (.deferred (some [])) := (hb.block _ (by omega)).trans hK1
      have hbs := hb.size
      have hy := run_yield (P := P) (args := encs x) hl (by rw [hrec]; exact hps x)
      rw [hrec] at hy
      refine ⟨fn, _, assign, body, hy, roundIn_of_wpIn hfn (wpIn_mono (hround x W _ hx (hbw.trans (hb.mono (by omega))) rfl (by omega)) ?_)⟩
      clear hy
      intro ex a' Wa hex
      cases ex with
      | normal =>
        obtain ⟨hba, hbody⟩ := hex
        have hla : Wa.heap[w.heap.size + 1]? = some (.loop (rec .ready none)) := (hba.block _ (by omega)).trans hl
        have hka : Wa.heap[w.heap.size]? = some (.deferred (some [])) := (hba.block _ (by omega)).trans hk
        have hsa := hba.size
        refine ⟨_, run_beginRound hla (by rw [hrec]), wpIn_mono (hbody _) ?_⟩
        have hl2 : (Wa.putObj (w.heap.size + 1) (.loop { rec .ready none with state := .busy })).heap[w.heap.size + 1]? = some (.loop { rec .ready none with state := .busy }) := World.putObj_heap_same (by omega)
        have hk2 : (Wa.putObj (w.heap.size + 1) (.loop { rec .ready none with state := .busy })).heap[w.heap.size]? = some (.deferred (some [])) := (World.putObj_heap_other (by omega)).trans hka
        have hs2 : (Wa.putObj (w.heap.size + 1) (.loop { rec .ready none with state := .busy })).heap.size = Wa.heap.size := by simp
        have hother : ∀ k, k ≠ w.heap.size + 1 → (Wa.putObj (w.heap.size + 1) (.loop { rec .ready none with state := .busy })).heap[k]? = Wa.heap[k]? := fun k h => World.putObj_heap_other h
        have hbo : (Wa.putObj (w.heap.size + 1) (.loop { rec .ready none with state := .busy })).os = Wa.os ∧ (Wa.putObj (w.heap.size + 1) (.loop { rec .ready none with state := .busy })).tape = Wa.tape ∧ (Wa.putObj (w.heap.size + 1) (.loop { rec .ready none with state := .busy })).output = Wa.output := ⟨rfl, rfl, rfl⟩
        generalize Wa.putObj (w.heap.size + 1) (.loop { rec .ready none with state := .busy }) = Wb at *
        clear hbody
        intro e a3 W3 hp
        cases e with
        | normal =>
          obtain ⟨hst, hb3⟩ := hp
          have hl3 := (hb3.block _ (by omega)).trans hl2
          have hr := run_endRound (P := P) none hl3
          refine ⟨_, _, hr, .inl ⟨hst, by simp, ?_⟩⟩
          refine ⟨?_, ?_, ?_, ?_, ?_⟩
          · exact hb3.os.trans (hbo.1.trans hba.os)
          · exact hb3.tape.trans (hbo.2.1.trans hba.tape)
          · exact hb3.output.trans (hbo.2.2.trans hba.output)
          · have := hb3.size; simp; omega
          · intro k hkk
            by_cases e : k = w.heap.size + 1
            · subst e
              rw [World.putObj_heap_same (by have := hb3.size; omega), hl, hrec]
              simp
            · rw [World.putObj_heap_other e, hb3.block k (by omega), hother k e, hba.block k hkk]
        | ret =>
          obtain ⟨hst, hab, hi3⟩ := hp
          have h3s := hab.1
          have hl3 := (hab.2 _ (by omega) (by omega)).trans hl2
          have hk3 := (hab.2 _ (Nat.le_refl _) (by omega)).trans hk2
          have hr := run_endRound (P := P) (some .ret) hl3
          refine ⟨_, _, hr, .inr ⟨hst, by simp, ⟨by simp; omega, ?_⟩, ?_, ?_, ?_⟩⟩
          · intro k h1 h2
            rw [World.putObj_heap_other (by omega), hab.2 k (by omega) (by omega), hother k (by omega), hba.block k h2]
          · rw [World.putObj_heap_same (by omega), hrec]
            simp
          · rw [World.putObj_heap_other (by omega)]; exact hk3
          · exact hIx _ _ hi3 (below_putObj _ (by omega))
        | exit id => exact hp.elim
        | goto t => exact hp.elim
        | panic ch => exact hp.elim
        | outgrown => exact hp.elim
      | ret => exact hex.elim
      | exit id => exact hex.elim
      | goto t => exact hex.elim
      | panic ch => exact hex.elim
      | outgrown => exact hex.elim
    · rintro e W2 ⟨⟨v, rfl⟩, (⟨hx, hb⟩ | ⟨hx, hl, hk, hi⟩)⟩
      · have hl := (hb.block _ (by omega)).trans hL1
        have hk := (hb.block _ (by omega)).trans hK1
        refine ⟨none, _, by have := run_endLoop (P := P) hl (by rw [hrec]; simp); rw [hrec] at this; exact this, ?_⟩
        exact hdone _ hx ((hbw.trans (hb.mono (by omega))).trans (below_putObj _ (by omega))) ((World.putObj_heap_other (by omega)).trans hk)
      · refine ⟨some .ret, _, by have := run_endLoop (P := P) hl (by rw [hrec]; simp); rw [hrec] at this; exact this, ?_⟩
        exact hstop _ hx (hIx _ _ hi (below_putObj _ (by omega))) ((World.putObj_heap_other (by omega)).trans hk)

end Go.Proofs.Ytadiocpcpjbjpaa

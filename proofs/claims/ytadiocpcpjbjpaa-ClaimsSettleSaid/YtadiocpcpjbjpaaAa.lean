import Derived.Test.YtadiocpcpjbjpaaPa
namespace Go.Proofs.Ytadiocpcpjbjpaa
open Go.RowKit

/-! ### append to a row of one's own: where the row lies then -/
theorem append_where {P : Program} (w : World) (base : Nat) (t ty e : TypeId) (i : TypeInfo) (z : Value) (size bytes : Nat) (ht : P.underlying t = some (.slice e)) (hi : P.info? e = some i) (hz : i.zero = some z)
    (hsize : i.size = size) (hby : i.bytes = bytes) (hsz : 0 < size)
    (v : Value) (n : Nat) (xs : List Value) (hown : w.ownsRow base e size v n xs)
    (a : Addr) (m c : Nat) (news : List Value) (hl : news.length = m * size) (hnews : ∀ j u, news[j]? = some u → w.cell? (a.add j) = some u) (h1 : ∀ u ∈ news, u.oneCell' = true)
    (h63 : n + m ≤ maxLen) (hbytes : (n + m) * bytes ≤ 140737488355328) {v' : Value} {w' : World} (hr : (Builtin.append_ #[t, t] ty #[v, .slice (some a) m c]).run P w = .ok v' w') :
    v'.ownBlock = v.ownBlock ∨ v'.ownBlock = some w.heap.size := by
  subst hsize
  subst hby
  have hsmall : n + m ≤ 9223372036854775807 := by simp only [maxLen] at h63; omega
  rcases hown.2 with ⟨rfl, rfl⟩ | ⟨g, cap, cur, rfl, hbg, hg, hnc, hcm, hcs, htake⟩
  · by_cases hm : m = 0
    · subst hm
      have hn : news = [] := List.eq_nil_of_length_eq_zero (by simpa using hl)
      subst hn
      have hr2 : (Builtin.append_ #[t, t] ty #[.slice none 0 0, .slice (some a) 0 c]).run P w = .ok (.slice none 0 0) w := by
        simp [Builtin.append_, run_underlying ht, sizeOf, typeInfo, hi, Builtin.lenOf, Builtin.firstCells, loadCells, loadCellsFrom]
      rw [hr2] at hr
      cases hr
      exact .inl rfl
    · rw [run_append_nil (P := P) w t ty e i z ht hi hz a m c news hl hnews (by omega) (by omega) (by have hb := hbytes; simp only [Nat.zero_add] at hb; omega)] at hr
      cases hr
      exact .inr rfl
  · by_cases hroom : n + m ≤ cap
    · have hfit : n * i.size + news.length ≤ cur.size := by rw [hl, hcs, ← Nat.add_mul]; exact Nat.mul_le_mul_right _ hroom
      rw [run_append_room (P := P) w t ty e i ht hi g n cap cur hg a m c news hl hnews h1 hroom hfit] at hr
      cases hr
      exact .inl rfl
    · have holds : ∀ j u, xs[j]? = some u → w.cell? ((⟨g, 0, none⟩ : Addr).add j) = some u := hown.cells (g := g) rfl
      rw [run_append_grow (P := P) w t ty e i z ht hi hz ⟨g, 0, none⟩ n cap xs hown.1 holds a m c news hl hnews (by omega) (by omega) (growslice_fits (by omega) hbytes)] at hr
      cases hr
      exact .inr rfl

theorem wpOp_append {P : Program} {ops : Array Oper} {Q : Exit → Act → World → Prop} {k : Nat} {o : Oper} {a : Act} {w : World} {K : Act → World → Prop} (hoi : ops[k]? = some o) (hg : o.guard = none) (s x : Operand) (t : TypeId)
    (ho : o.op = .call { callee := .builtin .append, args := #[s, x], argTypes := #[t, t] })
    (base : Nat) (e : TypeId) (i : TypeInfo) (z : Value) (size bytes : Nat) (ht : P.underlying t = some (.slice e)) (hi : P.info? e = some i) (hz : i.zero = some z)
    (hsize : i.size = size) (hby : i.bytes = bytes) (hzs : z.cells.size = size) (hsz : 0 < size)
    (v : Value) (n : Nat) (xs : List Value) (hs : a.eval s = v) (hown : w.ownsRow base e size v n xs)
    (ad : Addr) (m c : Nat) (news : List Value) (hx : a.eval x = .slice (some ad) m c) (hl : news.length = m * size) (hnews : ∀ j u, news[j]? = some u → w.cell? (ad.add j) = some u) (h1 : ∀ u ∈ news, u.oneCell' = true)
    (h63 : n + m ≤ maxLen) (hbytes : (n + m) * bytes ≤ 140737488355328) (hbase : base ≤ w.heap.size)
    (h : ∀ v' w', w'.ownsRow base e size v' (n + m) (xs ++ news) → w.grownBy w' v.ownBlock → (v'.ownBlock = v.ownBlock ∨ v'.ownBlock = some w.heap.size) → K (a.put o.dst v') w') : wpOp P ops Q k K a w := by
  obtain ⟨v', w', hr, h2, h3, h4⟩ := run_append_own (P := P) w base t o.type e i z size bytes ht hi hz hsize hby hzs hsz v n xs hown ad m c news hl hnews h1 h63 hbytes hbase
  have h5 := append_where w base t o.type e i z size bytes ht hi hz hsize hby hsz v n xs hown ad m c news hl hnews h1 h63 hbytes hr
  have hw : Region.wanted o (yielded ops a.tmps) = true := by simp [Region.wanted, hg]
  simp only [wpOp, hoi, hw, if_true]
  refine Or.inl ?_
  unfold Oper.wp execOp
  simp only [ho, resolve, invoke, builtin, Sem.run_bind, Sem.run_pure, Result.andThen_ok, List.map_toArray, List.map_cons, List.map_nil, hs, hx, hr]
  exact h v' w' h2 h3 h5

/-! ### A slice of one long struct, built -/
theorem fold_set (off : Nat) : ∀ (l : List Value) (k : Nat) (a : Array Value) (i : Nat), off + k + l.length ≤ a.size →
    ((l.zipIdx k).foldl (fun (cs : Array Value) (p : Value × Nat) => cs.setIfInBounds (off + p.2) p.1) a).size = a.size ∧
    ((l.zipIdx k).foldl (fun (cs : Array Value) (p : Value × Nat) => cs.setIfInBounds (off + p.2) p.1) a)[i]? = (if off + k ≤ i ∧ i < off + k + l.length then l[i - (off + k)]? else a[i]?)
  | [], k, a, i, _ => by simp; omega
  | c :: l, k, a, i, h => by
    simp only [List.length_cons] at h
    obtain ⟨h1, h2⟩ := fold_set off l (k + 1) (a.setIfInBounds (off + k) c) i (by simp; omega)
    simp only [List.zipIdx_cons, List.foldl_cons]
    refine ⟨h1.trans (by simp), h2.trans ?_⟩
    simp only [List.length_cons, Array.getElem?_setIfInBounds]
    by_cases hi : i = off + k
    · subst hi
      rw [if_neg (by omega), if_pos rfl, if_pos (by omega), if_pos (by omega), Nat.sub_self]
      rfl
    · by_cases h3 : off + (k + 1) ≤ i ∧ i < off + (k + 1) + l.length
      · rw [if_pos h3, if_pos (by omega), show i - (off + k) = (i - (off + (k + 1))) + 1 by omega, List.getElem?_cons_succ]
      · rw [if_neg h3, if_neg (by omega), if_neg (by omega)]

theorem run_buildSlice_one {P : Program} (w : World) (T e : TypeId) (s : Nat) (z : Value) (cs : Array Value) (hT : P.underlying T = some (.slice e)) (hs : ∀ W, (sizeOf e).run P W = .ok s W) (hz : ∀ W, (zeroValue e).run P W = .ok z W) (h0 : 0 < s) (hm : s ≤ 1000) (hc : cs.size = s) :
    (Instr.buildSlice T 1 #[(0, .agg cs)]).run P w = .ok (.slice (some ⟨w.heap.size, 0, none⟩) 1 1) (w.alloc (.cells cs e)) := by
  have hfill : ∀ zs : Array Value, zs.size = s → Instr.fill (fun i => some (i * s, s)) zs [(0, Value.agg cs)] = some cs := by
    intro zs hzs
    simp only [Instr.fill, Value.cells, hc, Nat.zero_mul, Nat.zero_add]
    rw [if_neg (by simp [hzs])]
    simp only [Option.some.injEq]
    apply Array.ext_getElem?
    intro i
    rw [← Array.foldl_toList, Array.toList_zipIdx]
    have h := (fold_set 0 cs.toList 0 zs i (by simp; omega)).2
    simp only [Nat.zero_add, Nat.sub_zero] at h
    rw [h]
    by_cases hi : i < cs.size
    · rw [if_pos ⟨Nat.zero_le _, by simpa using hi⟩]; simp
    · rw [if_neg (by simp; omega), Array.getElem?_eq_none (by omega), Array.getElem?_eq_none (by omega)]
  have h1 : ¬ (1 * s > 2 ^ 24) := by omega
  have h2 : ¬ (1 * s = 0) := by omega
  have h3 := hfill ((Array.range (1 * s)).map (z.cells[· % z.cells.size]!)) (by simp)
  simp only [Instr.buildSlice, Sem.run_bind, run_underlying hT, Result.andThen_ok, hs, h1, h2, if_false, hz, Sem.run_pure, h3]
  simp [newRow, Result.andThen]

theorem zero71 : ∃ z, ∀ W, (zeroValue 71).run Try.prog W = .ok z W := by
  obtain ⟨i, z, hi, hz, _⟩ := info71_parts
  exact ⟨z, fun W => by simp [zeroValue, typeInfo, hi, hz, Result.andThen]⟩

theorem wpOp_build71 {ops : Array Oper} {Q : Exit → Act → World → Prop} {k : Nat} {o : Oper} {a : Act} {w : World} {K : Act → World → Prop} (hoi : ops[k]? = some o) (hg : o.guard = none) (y : Operand)
    (ho : o.op = .buildSlice 27 1 #[(0, y)]) (x : Nr) (hy : a.eval y = .agg (nrV x).toArray)
    (h : K (a.put o.dst (.slice (some ⟨w.heap.size, 0, none⟩) 1 1)) (w.alloc (.cells (nrV x).toArray 71))) : wpOp Try.prog ops Q k K a w := by
  obtain ⟨z, hz⟩ := zero71
  have hr := run_buildSlice_one (P := Try.prog) w 27 71 31 z (nrV x).toArray Try.underlying27 sz71 hz (by omega) (by omega) (by simp [nrV_len])
  refine wpOp_val (v := .slice (some ⟨w.heap.size, 0, none⟩) 1 1) (w' := w.alloc (.cells (nrV x).toArray 71)) hoi hg ?_ h
  unfold execOp
  simp only [ho, List.map_toArray, List.map_cons, List.map_nil, hy, hr, Sem.run_bind, Sem.run_pure, Result.andThen_ok]

theorem wpOp_load71 {ops : Array Oper} {Q : Exit → Act → World → Prop} {k : Nat} {o : Oper} {a : Act} {w : World} {K : Act → World → Prop} (hoi : ops[k]? = some o) (hg : o.guard = none) (y : Operand)
    (ho : o.op = .load 71 y) (x : Nr) (b off : Nat) (hy : a.eval y = .pointer (some ⟨b, off, none⟩)) (hr : w.rangeAt b off (nrV x))
    (h : K (a.put o.dst (.agg (nrV x).toArray)) w) : wpOp Try.prog ops Q k K a w := by
  have hl := run_loadVar_mid (P := Try.prog) w b off 71 (nrV x) _ hr Try.underlying71 rfl (info71 x)
  refine wpOp_val (v := .agg (nrV x).toArray) (w' := w) hoi hg ?_ h
  unfold execOp
  simp only [ho, hy, Instr.loadAt, Instr.sureAddr, Sem.run_bind, Sem.run_pure, Result.andThen_ok, hl]

end Go.Proofs.Ytadiocpcpjbjpaa

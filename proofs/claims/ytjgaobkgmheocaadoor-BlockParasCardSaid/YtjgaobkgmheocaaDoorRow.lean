/- Rows of the program's own: what append, a cut of the capacity leave of them. -/
import Derived.Test.YtjgaobkgmheocaaDoorHeap
import Derived.ArgAppend
import Derived.Laws.AppendOwn
import Derived.Deep.AppendLies
namespace Go.Proofs.YtjgaobkgmheocaaDoor
open Go Go.RowKit

/-- A slice value with n elements of sz cells each, made from block base on: its cells. (Its capacity may be less than its block's.) -/
def Row (w : World) (base : Nat) (e : TypeId) (sz : Nat) (v : Value) (n : Nat) (xs : List Value) : Prop :=
  xs.length = n * sz ∧
  ((v = .slice none 0 0 ∧ n = 0) ∨
   ∃ g cap cur, v = .slice (some ⟨g, 0, none⟩) n cap ∧ base ≤ g ∧ Blk w g cur e ∧ n ≤ cap ∧ cap ≤ maxLen ∧ cap * sz ≤ cur.size ∧ cur.toList.take (n * sz) = xs)
section
variable {w w' : World} {base : Nat} {e : TypeId} {sz n : Nat} {v : Value} {xs : List Value}
theorem Row.nil (w : World) (base : Nat) (e : TypeId) (sz : Nat) : Row w base e sz (.slice none 0 0) 0 [] := ⟨by simp, .inl ⟨rfl, rfl⟩⟩
theorem Row.of_own (h : w.ownsRow base e sz v n xs) : Row w base e sz v n xs := by
  refine ⟨h.1, ?_⟩
  rcases h.2 with h | ⟨g, cap, cur, h1, h2, h3, h4, h5, h6, h7⟩
  · exact .inl h
  · exact .inr ⟨g, cap, cur, h1, h2, h3, h4, h5, by omega, h7⟩
theorem Row.blk (h : Row w base e sz v n xs) : ∀ k, v.ownBlock = some k → base ≤ k ∧ k < w.heap.size ∧ ∃ cur, Blk w k cur e := by
  intro k hk
  rcases h.2 with ⟨rfl, _⟩ | ⟨g, cap, cur, rfl, h2, h3, _⟩
  · simp [Value.ownBlock] at hk
  · have : g = k := by simpa [Value.ownBlock] using hk
    subst this
    exact ⟨h2, h3.lt, cur, h3⟩
theorem Row.lower (h : Row w base e sz v n xs) {b : Nat} (hb : b ≤ base) : Row w b e sz v n xs := by
  refine ⟨h.1, ?_⟩
  rcases h.2 with h | ⟨g, cap, cur, h1, h2, h3⟩
  · exact .inl h
  · exact .inr ⟨g, cap, cur, h1, by omega, h3⟩
theorem Row.move (h : Row w base e sz v n xs) (hm : ∀ k, v.ownBlock = some k → w'.heap[k]? = w.heap[k]?) : Row w' base e sz v n xs := by
  refine ⟨h.1, ?_⟩
  rcases h.2 with h | ⟨g, cap, cur, rfl, h2, h3, h4⟩
  · exact .inl h
  · exact .inr ⟨g, cap, cur, rfl, h2, (hm g (by simp [Value.ownBlock])).trans h3, h4⟩
theorem Row.below (h : Row w base e sz v n xs) (hb : Below w.heap.size w w') : Row w' base e sz v n xs :=
  h.move fun k hk => hb.block k (h.blk k hk).2.1
theorem Row.alloc (h : Row w base e sz v n xs) (o : Obj) : Row (w.alloc o) base e sz v n xs :=
  h.move fun k hk => Below.heap_alloc w o k (h.blk k hk).2.1
theorem Row.set (h : Row w base e sz v n xs) {p : Addr} (hp : ∀ k, v.ownBlock = some k → k ≠ p.block) (u : Value) : Row (w.setCell p u) base e sz v n xs :=
  h.move fun k hk => Below.heap_setCell w p u k (hp k hk)
theorem Row.grown (h : Row w base e sz v n xs) {row : Option Nat} (hg : w.grownBy w' row) (hne : ∀ k, v.ownBlock = some k → some k ≠ row) : Row w' base e sz v n xs :=
  h.move fun k hk => hg.block k (h.blk k hk).2.1 (hne k hk)
theorem Row.slice (h : Row w base e sz v n xs) : ∃ A c, v = .slice A n c ∧ n ≤ c ∧ c ≤ maxLen := by
  rcases h.2 with ⟨rfl, rfl⟩ | ⟨g, cap, cur, rfl, h2, h3, h4, h5, _⟩
  · exact ⟨none, 0, rfl, Nat.le_refl _, by simp⟩
  · exact ⟨_, cap, rfl, h4, h5⟩
/-- The address, where there is an element. -/
theorem Row.at_ (h : Row w base e sz v n xs) (hn : 0 < n) : ∃ g cap, v = .slice (some ⟨g, 0, none⟩) n cap ∧ base ≤ g ∧ g < w.heap.size ∧ n ≤ cap ∧ cap ≤ maxLen ∧ (∀ j u, xs[j]? = some u → w.cell? ⟨g, j, none⟩ = some u) ∧ (∀ j, w.frozen? ⟨g, j, none⟩ = false) := by
  rcases h.2 with ⟨rfl, rfl⟩ | ⟨g, cap, cur, rfl, h2, h3, h4, h5, h6, h7⟩
  · omega
  · refine ⟨g, cap, rfl, h2, h3.lt, h4, h5, fun j u hu => ?_, fun j => h3.free j⟩
    rw [h3.cell]
    rw [← h7, List.getElem?_take] at hu
    split at hu
    · simpa using hu
    · cases hu
theorem Row.clip (h : Row w base e sz v n xs) {A : Option Addr} {c : Nat} (hv : v = .slice A n c) : Row w base e sz (.slice A n n) n xs := by
  refine ⟨h.1, ?_⟩
  rcases h.2 with ⟨rfl, rfl⟩ | ⟨g, cap, cur, rfl, h2, h3, h4, h5, h6, h7⟩
  · injection hv with h1 h2 h3
    subst h1
    exact .inl ⟨rfl, rfl⟩
  · injection hv with h1' h2' h3'
    subst h1' h3'
    exact .inr ⟨g, n, cur, rfl, h2, h3, Nat.le_refl _, by omega, Nat.le_trans (Nat.mul_le_mul_right _ h4) h6, h7⟩
end

section
variable {P : Program} (w : World)
theorem run_row_append (base : Nat) (t ty e : TypeId) (i : TypeInfo) (z : Value) (size bytes : Nat) (ht : P.underlying t = some (.slice e)) (hi : P.info? e = some i) (hz : i.zero = some z)
    (hsize : i.size = size) (hby : i.bytes = bytes) (hzs : z.cells.size = size) (hsz : 0 < size)
    (v : Value) (n : Nat) (xs : List Value) (hown : Row w base e size v n xs)
    (a : Addr) (m c : Nat) (news : List Value) (hl : news.length = m * size) (hnews : ∀ j u, news[j]? = some u → w.cell? (a.add j) = some u) (h1 : ∀ u ∈ news, u.oneCell' = true)
    (h63 : n + m ≤ maxLen) (hbytes : (n + m) * bytes ≤ 140737488355328) (hbase : base ≤ w.heap.size) :
    ∃ v' w', (Builtin.append_ #[t, t] ty #[v, .slice (some a) m c]).run P w = .ok v' w' ∧ Row w' base e size v' (n + m) (xs ++ news) ∧ w.grownBy w' v.ownBlock ∧ (v'.ownBlock = v.ownBlock ∨ ∃ g, v'.ownBlock = some g ∧ w.heap.size ≤ g) := by
  subst hsize
  have hlen : (xs ++ news).length = (n + m) * i.size := by rw [List.length_append, hown.1, hl, Nat.add_mul]
  rcases hown.2 with ⟨rfl, rfl⟩ | ⟨g, cap, cur, rfl, hbg, hg, hnc, hcm, hcs, htake⟩
  · have ho : w.ownsRow base e i.size (.slice none 0 0) 0 xs := ⟨hown.1, .inl ⟨rfl, rfl⟩⟩
    obtain ⟨v', w', hr, h2, h3, h4⟩ := run_append_own (P := P) w base t ty e i z i.size bytes ht hi hz rfl hby hzs hsz _ 0 xs ho a m c news hl hnews h1 h63 hbytes hbase
    refine ⟨v', w', hr, Row.of_own h2, h3, ?_⟩
    cases hv : v'.ownBlock with
    | none => exact .inl (by simp [Value.ownBlock])
    | some k =>
      refine .inr ⟨k, rfl, ?_⟩
      rcases h2.2 with ⟨rfl, _⟩ | ⟨g, cap, cur, rfl, h5, h6, _⟩
      · simp [Value.ownBlock] at hv
      · have : g = k := by simpa [Value.ownBlock] using hv
        subst this
        by_cases hk : w.heap.size ≤ g
        · exact hk
        · exfalso
          -- nil's growth lays a new block: the run says which
          have hm : m ≠ 0 := by
            intro hm
            have := (h4.2 ⟨rfl, hm⟩)
            cases this
          have hr' := run_append_nil (P := P) w t ty e i z ht hi hz a m c news hl hnews (by omega) (by simp only [maxLen] at h63; omega) (by rw [hby]; have hb := hbytes; simp only [Nat.zero_add] at hb; omega)
          rw [hr'] at hr
          injection hr with hr1 hr2
          injection hr1 with hr1
          injection hr1 with hr1
          injection hr1 with hr1
          omega
  · by_cases hroom : n + m ≤ cap
    · have hfit : n * i.size + news.length ≤ cur.size := by
        rw [hl, ← Nat.add_mul]
        exact Nat.le_trans (Nat.mul_le_mul_right _ hroom) hcs
      have hr := run_append_room (P := P) w t ty e i ht hi g n cap cur hg a m c news hl hnews h1 hroom hfit
      refine ⟨_, _, hr, ⟨hlen, .inr ⟨g, cap, _, rfl, hbg, setRow_heap w g cur _ e _ hg, hroom, hcm, ?_, ?_⟩⟩, ⟨rfl, rfl, rfl, by simp, fun k _ hk => setRow_other w g k _ (fun e => hk (by simp [Value.ownBlock, e]))⟩, .inl rfl⟩
      · simp only [List.size_toArray, List.length_append, List.length_take, List.length_drop, Array.length_toList]
        omega
      · rw [htake, ← hlen]
        exact List.take_left
    · have holds : ∀ j u, xs[j]? = some u → w.cell? ((⟨g, 0, none⟩ : Addr).add j) = some u := by
        intro j u hu
        have hadd : (⟨g, 0, none⟩ : Addr).add j = ⟨g, j, none⟩ := by unfold Addr.add; split <;> simp_all
        rw [hadd, Blk.cell hg]
        rw [← htake, List.getElem?_take] at hu
        split at hu
        · simpa using hu
        · cases hu
      obtain ⟨v', w', hr, h2, h3⟩ := run_append_arg_grows (P := P) (w := w) t ty e i z i.size bytes ht hi hz rfl hby hzs hsz ⟨g, 0, none⟩ n cap xs hown.1 holds a m c news hl hnews (by omega) h63 hbytes
      refine ⟨v', w', hr, (Row.of_own h2).lower hbase, ⟨h3.os, h3.tape, h3.output, h3.size, fun k hk _ => h3.block k hk (by simp)⟩, ?_⟩
      cases hv : v'.ownBlock with
      | none =>
        rcases h2.2 with ⟨rfl, h0⟩ | ⟨g', cap', cur', rfl, _⟩
        · omega
        · simp [Value.ownBlock] at hv
      | some k => exact .inr ⟨k, rfl, ((Row.of_own h2).blk k hv).1⟩
end
section
variable {P : Program} {ops : Array Oper} {rest : List Oper} {o : Oper} {a : Act} {Q : Exit → Act → World → Prop} {K : Act → World → Prop}
theorem wp_row_append (w : World) (s x : Operand) (t : TypeId) (ho : o.op = .call { callee := .builtin .append, args := #[s, x], argTypes := #[t, t] })
    (base : Nat) (e : TypeId) (i : TypeInfo) (z : Value) (size bytes : Nat) (ht : P.underlying t = some (.slice e)) (hi : P.info? e = some i) (hz : i.zero = some z)
    (hsize : i.size = size) (hby : i.bytes = bytes) (hzs : z.cells.size = size) (hsz : 0 < size)
    (v : Value) (n : Nat) (xs : List Value) (hs : a.eval s = v) (hown : Row w base e size v n xs)
    (ad : Addr) (m c : Nat) (news : List Value) (hx : a.eval x = .slice (some ad) m c) (hl : news.length = m * size) (hnews : ∀ j u, news[j]? = some u → w.cell? (ad.add j) = some u) (h1 : ∀ u ∈ news, u.oneCell' = true)
    (h63 : n + m ≤ maxLen) (hbytes : (n + m) * bytes ≤ 140737488355328) (hbase : base ≤ w.heap.size)
    (h : ∀ v' w', Row w' base e size v' (n + m) (xs ++ news) → w.grownBy w' v.ownBlock → (v'.ownBlock = v.ownBlock ∨ ∃ g, v'.ownBlock = some g ∧ w.heap.size ≤ g) → K (a.put o.dst v') w') : o.wp P a w K Q := by
  obtain ⟨v', w', hr, h2, h3, h4⟩ := run_row_append (P := P) w base t o.type e i z size bytes ht hi hz hsize hby hzs hsz v n xs hown ad m c news hl hnews h1 h63 hbytes hbase
  unfold Oper.wp execOp
  simp only [ho, resolve, invoke, builtin, Sem.run_bind, Sem.run_pure, Result.andThen_ok, List.map_toArray, List.map_cons, List.map_nil, hs, hx, hr]
  exact h v' w' h2 h3 h4
/-- append(v, x), x of the cells cs, laid in the block W.heap.size: the world ahead of the append is 'W.alloc ..'. -/
theorem wp_app_one (W : World) (s x : Operand) (t : TypeId) (ho : o.op = .call { callee := .builtin .append, args := #[s, x], argTypes := #[t, t] })
    (base : Nat) (e : TypeId) (z : Value) (size bytes : Nat) (ht : P.underlying t = some (.slice e)) (hinfo : (P.info? e).map (fun i => (i.zero, i.size, i.bytes)) = some (some z, size, bytes)) (hzs : z.cells.size = size) (hsz : 0 < size) (hb0 : 0 < bytes)
    (v : Value) (n : Nat) (xs : List Value) (cs : Array Value) (hs : a.eval s = v) (hx : a.eval x = .slice (some ⟨W.heap.size, 0, none⟩) 1 1) (hcs : cs.size = size) (h1 : ∀ u ∈ cs.toList, u.oneCell' = true)
    (hown : Row W base e size v n xs) (hbase : base ≤ W.heap.size) (hl : (n + 1) * bytes ≤ 140737488355328)
    (h : ∀ v' w', Row w' base e size v' (n + 1) (xs ++ cs.toList) → W.grownBy w' v.ownBlock → (v'.ownBlock = v.ownBlock ∨ ∃ g, v'.ownBlock = some g ∧ W.heap.size ≤ g) → K (a.put o.dst v') w') : o.wp P a (W.alloc (.cells cs e)) K Q := by
  obtain ⟨i0, hi, hzz⟩ := Option.map_eq_some_iff.1 hinfo
  simp only [Prod.mk.injEq] at hzz
  obtain ⟨hz0, hz1, hz2⟩ := hzz
  have hlen : n + 1 ≤ 140737488355328 := Nat.le_trans (Nat.le_mul_of_pos_right _ hb0) hl
  refine wp_row_append (W.alloc (.cells cs e)) s x t ho base e i0 z size bytes ht hi hz0 hz1 hz2 hzs hsz v n xs hs (hown.alloc _) ⟨W.heap.size, 0, none⟩ 1 1 cs.toList hx (by simp [hcs])
    (World.news_of_block (cs := cs) (t := e) (fr := (0, 0)) (heap_alloc_new W _)) h1 (by simp only [maxLen]; omega) hl (by simp; omega) ?_
  intro v' w' hrow hg hat
  refine h v' w' hrow (World.grownBy.trans (World.grownBy_alloc W _ _) hg) ?_
  rcases hat with hat | ⟨g, h1, h2⟩
  · exact .inl hat
  · exact .inr ⟨g, h1, by simp at h2; omega⟩
theorem app_one (W : World) (hgd : o.guard = none) (s x : Operand) (t : TypeId) (ho : o.op = .call { callee := .builtin .append, args := #[s, x], argTypes := #[t, t] })
    (base : Nat) (e : TypeId) (z : Value) (size bytes : Nat) (ht : P.underlying t = some (.slice e)) (hinfo : (P.info? e).map (fun i => (i.zero, i.size, i.bytes)) = some (some z, size, bytes)) (hzs : z.cells.size = size) (hsz : 0 < size) (hb0 : 0 < bytes)
    (v : Value) (n : Nat) (xs : List Value) (cs : Array Value) (hs : a.eval s = v) (hx : a.eval x = .slice (some ⟨W.heap.size, 0, none⟩) 1 1) (hcs : cs.size = size) (h1 : ∀ u ∈ cs.toList, u.oneCell' = true)
    (hown : Row W base e size v n xs) (hbase : base ≤ W.heap.size) (hl : (n + 1) * bytes ≤ 140737488355328)
    (h : ∀ v' w', Row w' base e size v' (n + 1) (xs ++ cs.toList) → W.grownBy w' v.ownBlock → (v'.ownBlock = v.ownBlock ∨ ∃ g, v'.ownBlock = some g ∧ W.heap.size ≤ g) → wpList P ops Q rest (a.put o.dst v') w') : wpList P ops Q (o :: rest) a (W.alloc (.cells cs e)) :=
  wpList_plain hgd fun _ hK => wp_app_one W s x t ho base e z size bytes ht hinfo hzs hsz hb0 v n xs cs hs hx hcs h1 hown hbase hl fun v' w' h2 h3 h4 => hK _ _ (h v' w' h2 h3 h4)
theorem step_app_one {E : Prop} (W : World) (hgd : o.guard = none) (s x : Operand) (t : TypeId) (ho : o.op = .call { callee := .builtin .append, args := #[s, x], argTypes := #[t, t] })
    (base : Nat) (e : TypeId) (z : Value) (size bytes : Nat) (ht : P.underlying t = some (.slice e)) (hinfo : (P.info? e).map (fun i => (i.zero, i.size, i.bytes)) = some (some z, size, bytes)) (hzs : z.cells.size = size) (hsz : 0 < size) (hb0 : 0 < bytes)
    (v : Value) (n : Nat) (xs : List Value) (cs : Array Value) (hs : a.eval s = v) (hx : a.eval x = .slice (some ⟨W.heap.size, 0, none⟩) 1 1) (hcs : cs.size = size) (h1 : ∀ u ∈ cs.toList, u.oneCell' = true)
    (hown : Row W base e size v n xs) (hbase : base ≤ W.heap.size) (hl : (n + 1) * bytes ≤ 140737488355328)
    (h : ∀ v' w', Row w' base e size v' (n + 1) (xs ++ cs.toList) → W.grownBy w' v.ownBlock → (v'.ownBlock = v.ownBlock ∨ ∃ g, v'.ownBlock = some g ∧ W.heap.size ≤ g) → K (a.put o.dst v') w') :
    if Region.wanted o (yielded ops a.tmps) = true then Oper.wp P o a (W.alloc (.cells cs e)) K Q else E := by
  have hw : Region.wanted o (yielded ops a.tmps) = true := by simp [Region.wanted, hgd]
  rw [if_pos hw]
  exact wp_app_one W s x t ho base e z size bytes ht hinfo hzs hsz hb0 v n xs cs hs hx hcs h1 hown hbase hl h
/-- append(v, x), x of the cells cs, laid in the block B of the world at hand. -/
theorem wp_app_blk (W : World) (B : Nat) (s x : Operand) (t : TypeId) (ho : o.op = .call { callee := .builtin .append, args := #[s, x], argTypes := #[t, t] })
    (base : Nat) (e : TypeId) (z : Value) (size bytes : Nat) (ht : P.underlying t = some (.slice e)) (hinfo : (P.info? e).map (fun i => (i.zero, i.size, i.bytes)) = some (some z, size, bytes)) (hzs : z.cells.size = size) (hsz : 0 < size) (hb0 : 0 < bytes)
    (v : Value) (n : Nat) (xs : List Value) (cs : Array Value) (hs : a.eval s = v) (hx : a.eval x = .slice (some ⟨B, 0, none⟩) 1 1) (hcs : cs.size = size) (h1 : ∀ u ∈ cs.toList, u.oneCell' = true) (hB : Blk W B cs e)
    (hown : Row W base e size v n xs) (hbase : base ≤ W.heap.size) (hl : (n + 1) * bytes ≤ 140737488355328)
    (h : ∀ v' w', Row w' base e size v' (n + 1) (xs ++ cs.toList) → W.grownBy w' v.ownBlock → (v'.ownBlock = v.ownBlock ∨ ∃ g, v'.ownBlock = some g ∧ W.heap.size ≤ g) → K (a.put o.dst v') w') : o.wp P a W K Q := by
  obtain ⟨i0, hi, hzz⟩ := Option.map_eq_some_iff.1 hinfo
  simp only [Prod.mk.injEq] at hzz
  obtain ⟨hz0, hz1, hz2⟩ := hzz
  have hlen : n + 1 ≤ 140737488355328 := Nat.le_trans (Nat.le_mul_of_pos_right _ hb0) hl
  exact wp_row_append W s x t ho base e i0 z size bytes ht hi hz0 hz1 hz2 hzs hsz v n xs hs hown ⟨B, 0, none⟩ 1 1 cs.toList hx (by simp [hcs])
    (World.news_of_block (cs := cs) (t := e) (fr := (0, 0)) hB) h1 (by simp only [maxLen]; omega) hl hbase h
theorem step_app_blk {E : Prop} (W : World) (B : Nat) (hgd : o.guard = none) (s x : Operand) (t : TypeId) (ho : o.op = .call { callee := .builtin .append, args := #[s, x], argTypes := #[t, t] })
    (base : Nat) (e : TypeId) (z : Value) (size bytes : Nat) (ht : P.underlying t = some (.slice e)) (hinfo : (P.info? e).map (fun i => (i.zero, i.size, i.bytes)) = some (some z, size, bytes)) (hzs : z.cells.size = size) (hsz : 0 < size) (hb0 : 0 < bytes)
    (v : Value) (n : Nat) (xs : List Value) (cs : Array Value) (hs : a.eval s = v) (hx : a.eval x = .slice (some ⟨B, 0, none⟩) 1 1) (hcs : cs.size = size) (h1 : ∀ u ∈ cs.toList, u.oneCell' = true) (hB : Blk W B cs e)
    (hown : Row W base e size v n xs) (hbase : base ≤ W.heap.size) (hl : (n + 1) * bytes ≤ 140737488355328)
    (h : ∀ v' w', Row w' base e size v' (n + 1) (xs ++ cs.toList) → W.grownBy w' v.ownBlock → (v'.ownBlock = v.ownBlock ∨ ∃ g, v'.ownBlock = some g ∧ W.heap.size ≤ g) → K (a.put o.dst v') w') :
    if Region.wanted o (yielded ops a.tmps) = true then Oper.wp P o a W K Q else E := by
  have hw : Region.wanted o (yielded ops a.tmps) = true := by simp [Region.wanted, hgd]
  rw [if_pos hw]
  exact wp_app_blk W B s x t ho base e z size bytes ht hinfo hzs hsz hb0 v n xs cs hs hx hcs h1 hB hown hbase hl h
end
end Go.Proofs.YtjgaobkgmheocaaDoor

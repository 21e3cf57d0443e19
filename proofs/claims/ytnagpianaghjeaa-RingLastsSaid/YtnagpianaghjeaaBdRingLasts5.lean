/-
  append onto a slice of the call's own, from a source that may be nil or empty; a slice of the call's own in a later world.
-/
import Derived.Test.YtnagpianaghjeaaBdRingLasts1
import Derived.Maps.AppendAt
import Derived.Deep.AppendLies
import Derived.RegionTactic
namespace Go.Proofs.Ytnagpianaghjeaa
open Go Go.RowKit Go.Maps

/-- What a source of an append reads as: nothing is asked of its address where it has no element. -/
def Src (w : World) (A : Option Addr) (m : Nat) (news : List Value) : Prop := 0 < m → ∃ ad, A = some ad ∧ ∀ j u, news[j]? = some u → w.cell? (ad.add j) = some u

section
variable {P : Program} (w : World)

theorem run_append_src (base : Nat) (t ty e : TypeId) (i : TypeInfo) (z : Value) (size bytes : Nat) (ht : P.underlying t = some (.slice e)) (hi : P.info? e = some i) (hz : i.zero = some z)
    (hsize : i.size = size) (hby : i.bytes = bytes) (hzs : z.cells.size = size) (hsz : 0 < size) (v : Value) (n : Nat) (xs : List Value) (hown : w.ownsRow base e size v n xs)
    (A : Option Addr) (m c : Nat) (news : List Value) (hl : news.length = m * size) (hs : Src w A m news) (h1 : ∀ u ∈ news, u.oneCell' = true)
    (h63 : n + m ≤ maxLen) (hbytes : (n + m) * bytes ≤ 140737488355328) (hbase : base ≤ w.heap.size) :
    ∃ v' w', (Builtin.append_ #[t, t] ty #[v, .slice A m c]).run P w = .ok v' w' ∧ w'.ownsRow base e size v' (n + m) (xs ++ news) ∧ w.grownBy w' v.ownBlock ∧ (v'.ownBlock = v.ownBlock ∨ v'.ownBlock = some w.heap.size) := by
  cases A with
  | none =>
    have hm : m = 0 := by
      cases m with
      | zero => rfl
      | succ m => obtain ⟨_, h, _⟩ := hs (by omega); cases h
    subst hm
    have hn : news = [] := List.eq_nil_of_length_eq_zero (by simpa using hl)
    subst hn
    refine ⟨v, w, ?_, by simpa using hown, World.grownBy.refl w _, .inl rfl⟩
    rcases hown.2 with ⟨rfl, rfl⟩ | ⟨g, cap, cur, rfl, _, _, hnc, _⟩
    · simp [Builtin.append_, run_underlying ht, sizeOf, typeInfo, hi, Builtin.lenOf, Builtin.firstCells]
    · simp [Builtin.append_, run_underlying ht, sizeOf, typeInfo, hi, Builtin.lenOf, Builtin.firstCells, hnc, storeCells]
  | some ad =>
    have hc : ∀ j u, news[j]? = some u → w.cell? (ad.add j) = some u := fun j u hu => by
      rcases Nat.eq_zero_or_pos m with h0 | h0
      · subst h0
        have hn : news = [] := List.eq_nil_of_length_eq_zero (by simpa using hl)
        subst hn
        simp at hu
      · obtain ⟨ad', h, hc⟩ := hs h0
        cases h
        exact hc j u hu
    obtain ⟨v', w', hr, h2, h3, _, h5⟩ := run_append_own_at (P := P) w base t ty e i z size bytes ht hi hz hsize hby hzs hsz v n xs hown ad m c news hl hc h1 h63 hbytes hbase
    exact ⟨v', w', hr, h2, h3, h5⟩

theorem wp_append_src {o : Oper} {a : Act} {K : Act → World → Prop} {Q : Exit → Act → World → Prop} (s x : Operand) (t : TypeId) (ho : o.op = .call { callee := .builtin .append, args := #[s, x], argTypes := #[t, t] })
    (base : Nat) (e : TypeId) (i : TypeInfo) (z : Value) (size bytes : Nat) (ht : P.underlying t = some (.slice e)) (hi : P.info? e = some i) (hz : i.zero = some z)
    (hsize : i.size = size) (hby : i.bytes = bytes) (hzs : z.cells.size = size) (hsz : 0 < size) (v : Value) (n : Nat) (xs : List Value) (hv : a.eval s = v) (hown : w.ownsRow base e size v n xs)
    (A : Option Addr) (m c : Nat) (news : List Value) (hx : a.eval x = .slice A m c) (hl : news.length = m * size) (hs : Src w A m news) (h1 : ∀ u ∈ news, u.oneCell' = true)
    (h63 : n + m ≤ maxLen) (hbytes : (n + m) * bytes ≤ 140737488355328) (hbase : base ≤ w.heap.size)
    (h : ∀ v' w', w'.ownsRow base e size v' (n + m) (xs ++ news) → w.grownBy w' v.ownBlock → (v'.ownBlock = v.ownBlock ∨ v'.ownBlock = some w.heap.size) → K (a.put o.dst v') w') : o.wp P a w K Q := by
  obtain ⟨v', w', hr, h2, h3, h5⟩ := run_append_src (P := P) w base t o.type e i z size bytes ht hi hz hsize hby hzs hsz v n xs hown A m c news hl hs h1 h63 hbytes hbase
  unfold Oper.wp execOp
  simp only [ho, resolve, invoke, builtin, Sem.run_bind, Sem.run_pure, Result.andThen_ok, List.map_toArray, List.map_cons, List.map_nil, hv, hx, hr]
  exact h v' w' h2 h3 h5

theorem wpList_append_src {ops : Array Oper} {rest : List Oper} {o : Oper} {a : Act} {Q : Exit → Act → World → Prop} (hgd : o.guard = none) (s x : Operand) (t : TypeId) (ho : o.op = .call { callee := .builtin .append, args := #[s, x], argTypes := #[t, t] })
    (base : Nat) (e : TypeId) (i : TypeInfo) (z : Value) (size bytes : Nat) (ht : P.underlying t = some (.slice e)) (hi : P.info? e = some i) (hz : i.zero = some z)
    (hsize : i.size = size) (hby : i.bytes = bytes) (hzs : z.cells.size = size) (hsz : 0 < size) (v : Value) (n : Nat) (xs : List Value) (hv : a.eval s = v) (hown : w.ownsRow base e size v n xs)
    (A : Option Addr) (m c : Nat) (news : List Value) (hx : a.eval x = .slice A m c) (hl : news.length = m * size) (hs : Src w A m news) (h1 : ∀ u ∈ news, u.oneCell' = true)
    (h63 : n + m ≤ maxLen) (hbytes : (n + m) * bytes ≤ 140737488355328) (hbase : base ≤ w.heap.size)
    (h : ∀ v' w', w'.ownsRow base e size v' (n + m) (xs ++ news) → w.grownBy w' v.ownBlock → (v'.ownBlock = v.ownBlock ∨ v'.ownBlock = some w.heap.size) → wpList P ops Q rest (a.put o.dst v') w') : wpList P ops Q (o :: rest) a w :=
  wpList_plain hgd fun _ hK => wp_append_src w s x t ho base e i z size bytes ht hi hz hsize hby hzs hsz v n xs hv hown A m c news hx hl hs h1 h63 hbytes hbase fun v' w' h2 h3 h4 => hK _ _ (h v' w' h2 h3 h4)

theorem step_append_src {ops : Array Oper} {o : Oper} {a : Act} {K : Act → World → Prop} {Q : Exit → Act → World → Prop} {E : Prop} (hgd : o.guard = none) (s x : Operand) (t : TypeId) (ho : o.op = .call { callee := .builtin .append, args := #[s, x], argTypes := #[t, t] })
    (base : Nat) (e : TypeId) (i : TypeInfo) (z : Value) (size bytes : Nat) (ht : P.underlying t = some (.slice e)) (hi : P.info? e = some i) (hz : i.zero = some z)
    (hsize : i.size = size) (hby : i.bytes = bytes) (hzs : z.cells.size = size) (hsz : 0 < size) (v : Value) (n : Nat) (xs : List Value) (hv : a.eval s = v) (hown : w.ownsRow base e size v n xs)
    (A : Option Addr) (m c : Nat) (news : List Value) (hx : a.eval x = .slice A m c) (hl : news.length = m * size) (hs : Src w A m news) (h1 : ∀ u ∈ news, u.oneCell' = true)
    (h63 : n + m ≤ maxLen) (hbytes : (n + m) * bytes ≤ 140737488355328) (hbase : base ≤ w.heap.size)
    (h : ∀ v' w', w'.ownsRow base e size v' (n + m) (xs ++ news) → w.grownBy w' v.ownBlock → (v'.ownBlock = v.ownBlock ∨ v'.ownBlock = some w.heap.size) → K (a.put o.dst v') w') :
    if Region.wanted o (yielded ops a.tmps) = true then Oper.wp P o a w K Q else E := by
  have hw : Region.wanted o (yielded ops a.tmps) = true := by simp [Region.wanted, hgd]
  rw [if_pos hw]
  exact wp_append_src w s x t ho base e i z size bytes ht hi hz hsize hby hzs hsz v n xs hv hown A m c news hx hl hs h1 h63 hbytes hbase h
end

section
variable {S : Nat → Prop} {w w' : World} {base : Nat} {e : TypeId} {size n : Nat} {v : Value} {xs : List Value}

theorem own_moves (h : w.ownsRow base e size v n xs) (hm : Moves S w w') (hs : ∀ g, v.ownBlock = some g → ¬ S g) : w'.ownsRow base e size v n xs := by
  refine ⟨h.1, ?_⟩
  rcases h.2 with hn | ⟨g, cap, cur, rfl, hb, hgg, r⟩
  · exact .inl hn
  · exact .inr ⟨g, cap, cur, rfl, hb, (hm.block g (Array.getElem?_eq_some_iff.1 hgg).1 (hs g rfl)).trans hgg, r⟩

theorem own_block (h : w.ownsRow base e size v n xs) {g : Nat} (hg : v.ownBlock = some g) : ∃ cur, w.heap[g]? = some (.cells cur e (0, 0)) := by
  rcases h.2 with ⟨rfl, _⟩ | ⟨g', cap, cur, rfl, _, hgg, _⟩
  · simp [Value.ownBlock] at hg
  · simp [Value.ownBlock] at hg
    subst hg
    exact ⟨cur, hgg⟩

/-- The block is not one that holds something of another kind. -/
theorem own_ne (h : w.ownsRow base e size v n xs) {b : Nat} {o : Obj} (hb : w.heap[b]? = some o) (ho : ∀ cur, o ≠ .cells cur e (0, 0)) : v.ownBlock ≠ some b := fun hg => by
  obtain ⟨cur, hc⟩ := own_block h hg
  rw [hb] at hc
  cases hc
  exact ho cur rfl

/-- A slice of the call's own, its value written out. -/
theorem own_form (h : w.ownsRow base e size v n xs) : ∃ A c, v = .slice A n c ∧ n ≤ c ∧ c ≤ maxLen ∧ (A = none → c = 0) ∧ (∀ a, A = some a → a = ⟨a.block, 0, none⟩ ∧ base ≤ a.block) ∧ (0 < n → ∃ g, A = some ⟨g, 0, none⟩ ∧ base ≤ g ∧ g < w.heap.size ∧ ∀ j u, xs[j]? = some u → w.cell? ⟨g, j, none⟩ = some u) := by
  rcases h.2 with ⟨rfl, h0⟩ | ⟨g, cap, cur, rfl, hb, hg, hn, hm, hs, ht⟩
  · exact ⟨none, 0, by rw [h0], by omega, by unfold maxLen; omega, fun _ => rfl, (fun a e => by cases e), fun h => by omega⟩
  · refine ⟨_, cap, rfl, hn, hm, (fun e => by cases e), (fun a e => by cases e; exact ⟨rfl, hb⟩), fun _ => ⟨g, rfl, hb, (Array.getElem?_eq_some_iff.1 hg).1, fun j u hu => ?_⟩⟩
    have hj : j < n * size := by
      rw [← ht] at hu
      have := (List.getElem?_eq_some_iff.1 hu).1
      simp at this
      omega
    rw [← ht, List.getElem?_take_of_lt hj] at hu
    simp only [World.cell?, hg, Option.isSome_none, Bool.false_eq_true, if_false]
    rw [← Array.getElem?_toList]
    exact hu

theorem src_of_own (h : w.ownsRow base e size v n xs) {A : Option Addr} {m c : Nat} (hv : v = .slice A m c) : Src w A n xs := fun h0 => by
  obtain ⟨A', c', e1, _, _, _, _, hx⟩ := own_form h
  rw [e1] at hv
  cases hv
  obtain ⟨g, rfl, _, _, hc⟩ := hx h0
  refine ⟨_, rfl, fun j u hu => ?_⟩
  have := hc j u hu
  unfold Addr.add
  by_cases hj : j = 0
  · subst hj; simpa using this
  · simpa [hj] using this
end

/-! ### two slices of the call's own, side by side -/
/-- Two slices of the call's own lie in two blocks. -/
def Apart (v v' : Value) : Prop := v.ownBlock = none ∨ v'.ownBlock = none ∨ v.ownBlock ≠ v'.ownBlock
theorem Apart.symm {v v' : Value} (h : Apart v v') : Apart v' v := by
  rcases h with h | h | h
  · exact .inr (.inl h)
  · exact .inl h
  · exact .inr (.inr (Ne.symm h))

section
variable {w w' : World} {o : Obj} {B B' : Nat} {e e' : TypeId} {size size' n n' : Nat} {v v' v1 : Value} {xs xs' : List Value}
theorem apart_types (h : w.ownsRow B e size v n xs) (h' : w.ownsRow B' e' size' v' n' xs') (hne : e ≠ e') : Apart v v' := by
  cases hv : v.ownBlock with
  | none => exact .inl hv
  | some g =>
    right
    right
    intro hg
    obtain ⟨c1, h1⟩ := own_block h hv
    obtain ⟨c2, h2⟩ := own_block h' (by rw [← hg]; exact hv)
    rw [h1] at h2
    cases h2
    exact hne rfl

/-- While a slice is appended to, another one of the call's own stays as it is, and apart. -/
theorem two_kept (h : w.ownsRow B e size v n xs) (ha : Apart v' v) (hg : (w.alloc o).grownBy w' v'.ownBlock) (hl : v1.ownBlock = v'.ownBlock ∨ v1.ownBlock = some (w.alloc o).heap.size) : w'.ownsRow B e size v n xs ∧ Apart v1 v := by
  refine ⟨(h.alloc o).kept hg ?_, ?_⟩
  · rcases ha with ha | ha | ha
    · rw [ha]
      cases hv : v.ownBlock with
      | none => exact .inl rfl
      | some g => exact .inr (by simp)
    · exact .inl ha
    · exact .inr (Ne.symm ha)
  · rcases hl with hl | hl
    · unfold Apart
      rw [hl]
      exact ha
    · right
      cases hv : v.ownBlock with
      | none => exact .inl rfl
      | some g =>
        right
        have := (h.lt g hv).2
        rw [hl]
        intro hh
        simp at hh
        omega
end

/-! ### pairs of ints -/
def cellsP (R : List (Int × Int)) : List Value := R.flatMap fun p => [.int .i64 p.1, .int .i64 p.2]

theorem cellsP_len (R : List (Int × Int)) : (cellsP R).length = R.length * 2 := by
  induction R with
  | nil => rfl
  | cons a r ih => simp only [cellsP, List.flatMap_cons, List.length_append, List.length_cons, List.length_nil] at *; omega
theorem cellsP_append (R R' : List (Int × Int)) : cellsP (R ++ R') = cellsP R ++ cellsP R' := by simp [cellsP]
theorem cellsP_one (R : List (Int × Int)) : ∀ u ∈ cellsP R, u.oneCell' = true := fun u hu => by
  obtain ⟨p, _, hp⟩ := List.mem_flatMap.1 hu
  rcases List.mem_cons.1 hp with rfl | hp
  · rfl
  · simp at hp; subst hp; rfl
theorem cellsP_get {R : List (Int × Int)} : ∀ {k : Nat} (h : k < R.length), (cellsP R)[k * 2]? = some (.int .i64 R[k].1) ∧ (cellsP R)[k * 2 + 1]? = some (.int .i64 R[k].2) := by
  induction R with
  | nil => intro k h; simp at h
  | cons a r ih =>
    intro k h
    cases k with
    | zero => exact ⟨rfl, rfl⟩
    | succ k =>
      have := ih (k := k) (by simpa using h)
      have e : cellsP (a :: r) = .int .i64 a.1 :: .int .i64 a.2 :: cellsP r := rfl
      rw [e, show (k + 1) * 2 = k * 2 + 1 + 1 by omega, show k * 2 + 1 + 1 + 1 = (k * 2 + 1) + 1 + 1 by omega]
      simpa using this
theorem cellsP_take (R : List (Int × Int)) (k : Nat) : (cellsP R).take (k * 2) = cellsP (R.take k) := by
  induction R generalizing k with
  | nil => simp [cellsP]
  | cons a r ih =>
    cases k with
    | zero => simp [cellsP]
    | succ k =>
      have e : cellsP (a :: r) = .int .i64 a.1 :: .int .i64 a.2 :: cellsP r := rfl
      rw [e, show (k + 1) * 2 = k * 2 + 1 + 1 by omega, List.take_succ_cons, List.take_succ_cons, ih, List.take_succ_cons]
      rfl
theorem cellsP_drop (R : List (Int × Int)) (k : Nat) : (cellsP R).drop (k * 2) = cellsP (R.drop k) := by
  induction R generalizing k with
  | nil => simp [cellsP]
  | cons a r ih =>
    cases k with
    | zero => simp [cellsP]
    | succ k =>
      have e : cellsP (a :: r) = .int .i64 a.1 :: .int .i64 a.2 :: cellsP r := rfl
      rw [e, show (k + 1) * 2 = k * 2 + 1 + 1 by omega, List.drop_succ_cons, List.drop_succ_cons, ih, List.drop_succ_cons]

end Go.Proofs.Ytnagpianaghjeaa

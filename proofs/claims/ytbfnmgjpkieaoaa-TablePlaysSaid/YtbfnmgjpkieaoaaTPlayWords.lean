/-
  TablePlays: words: a play's state; what the table tells is what the row tells.
-/
import Derived.Test.YtbfnmgjpkieaoaaTabActs
namespace Go.Proofs.Ytbfnmgjpkieaoaa.Tb
open Go Go.RowKit Go.Maps Go.Sort Go.Proofs Go.Shelf

/-- The row of roots that goes with a table. -/
def rowM (M : List (Nm × Int)) : List (ByteArray × Int) := M.map fun p => (txt p.1, p.2)
theorem rowM_len (M : List (Nm × Int)) : (rowM M).length = M.length := List.length_map _
structure GoodM (M : List (Nm × Int)) : Prop where
  nodup : (M.map Prod.fst).Nodup
  good : ∀ p ∈ M, goodN p.1 = true
  few : M.length ≤ 64
theorem GoodM.nil : GoodM [] := ⟨List.nodup_nil, by simp, by simp⟩
theorem delM_len (M : List (Nm × Int)) (n : Nm) : (delM M n).length ≤ M.length := List.length_filter_le _ _
theorem GoodM.del {M : List (Nm × Int)} (h : GoodM M) (n : Nm) : GoodM (delM M n) :=
  ⟨by rw [delM_fst]; exact h.nodup.filter _, fun p hp => h.good p (List.mem_filter.1 hp).1, Nat.le_trans (delM_len M n) h.few⟩
theorem delM_no {M : List (Nm × Int)} {n : Nm} (h : hasN M n = false) : delM M n = M := by
  unfold delM
  refine List.filter_eq_self.2 fun p hp => bne_of fun e => ?_
  have := getM_none (hasN_false h).1
  exact this (List.mem_map.2 ⟨p, hp, e⟩)
theorem has_mem {M : List (Nm × Int)} {n : Nm} (h : hasN M n = true) : n ∈ M.map Prod.fst := List.mem_map.2 ⟨_, getM_some (hasN_true h), rfl⟩
theorem mem_has {M : List (Nm × Int)} {n : Nm} (h : n ∈ M.map Prod.fst) : hasN M n = true := by
  cases hh : hasN M n
  · exact absurd h (getM_none (hasN_false hh).1)
  · rfl
/-- A name's place, in a table. -/
theorem place_cut : ∀ {M : List (Nm × Int)} {i : Nat} (hi : i < M.length), (M.map Prod.fst).Nodup → delM M (M[i]).1 = M.take i ++ M.drop (i + 1)
  | [], i, hi, _ => by simp at hi
  | a :: r, 0, _, hn => by
    have h1 : a.1 ∉ r.map Prod.fst := (List.nodup_cons.1 (show (a.1 :: r.map Prod.fst).Nodup from hn)).1
    show (a :: r).filter _ = [] ++ r
    rw [List.filter_cons_of_neg (by simp)]
    refine List.filter_eq_self.2 fun p hp => bne_of fun e => h1 (List.mem_map.2 ⟨p, hp, e⟩)
  | a :: r, i + 1, hi, hn => by
    have hi' : i < r.length := by simpa using hi
    have hn' := List.nodup_cons.1 (show (a.1 :: r.map Prod.fst).Nodup from hn)
    have hne : a.1 ≠ (r[i]).1 := fun e => hn'.1 (List.mem_map.2 ⟨r[i], List.getElem_mem hi', e.symm⟩)
    show (a :: r).filter (fun p => !(p.1 == (r[i]).1)) = (a :: r.take i) ++ r.drop (i + 1)
    rw [List.filter_cons_of_pos (p := fun p : Nm × Int => !(p.1 == (r[i]).1)) (bne_of hne), List.cons_append, ← place_cut hi' hn'.2]
    rfl
theorem place_get {M : List (Nm × Int)} {i : Nat} (hi : i < M.length) (hn : (M.map Prod.fst).Nodup) : getZ M (M[i]).1 = (M[i]).2 := by
  unfold getZ getM
  have hf : M.find? (fun p => p.1 == (M[i]).1) = some M[i] := by
    induction M generalizing i with
    | nil => simp at hi
    | cons a r ih =>
      cases i with
      | zero => simp
      | succ i =>
        have hi' : i < r.length := by simpa using hi
        have hn' := List.nodup_cons.1 (show (a.1 :: r.map Prod.fst).Nodup from hn)
        have hne : a.1 ≠ (r[i]).1 := fun e => hn'.1 (List.mem_map.2 ⟨r[i], List.getElem_mem hi', e.symm⟩)
        show (a :: r).find? (fun p => p.1 == (r[i]).1) = some r[i]
        rw [List.find?_cons_of_neg (by rw [beq_eq_false_iff_ne.2 hne]; decide)]
        exact ih hi' hn'.2
  rw [hf]
  rfl
theorem row_cut {M : List (Nm × Int)} {i : Nat} (hi : i < M.length) (hn : (M.map Prod.fst).Nodup) : rowM (delM M (M[i]).1) = (rowM M).take i ++ (rowM M).drop (i + 1) := by
  rw [place_cut hi hn]
  unfold rowM
  rw [List.map_append, List.map_take, List.map_drop]
theorem row_put (M : List (Nm × Int)) (n : Nm) (v : Int) : rowM (putM M n v) = rowM (delM M n) ++ [(txt n, v)] := by
  unfold rowM putM
  rw [List.map_append]
  rfl
theorem GoodM.put {M : List (Nm × Int)} (h : GoodM M) {n : Nm} (hg : goodN n = true) (hf : hasN M n = true ∨ M.length < 64) (v : Int) : GoodM (putM M n v) := by
  have hd := h.del n
  have hno : n ∉ (delM M n).map Prod.fst := by rw [delM_fst, List.mem_filter]; simp
  refine ⟨?_, fun p hp => ?_, ?_⟩
  · unfold putM
    rw [List.map_append]
    exact List.nodup_append.2 ⟨hd.nodup, by simp, fun a ha b hb => by simp at hb; subst hb; exact fun e => hno (e ▸ ha)⟩
  · rcases List.mem_append.1 hp with hp | hp
    · exact hd.good p hp
    · rw [List.mem_singleton] at hp; subst hp; exact hg
  · unfold putM
    rw [List.length_append, List.length_singleton]
    rcases hf with hf | hf
    · obtain ⟨p, hp, e⟩ := List.mem_map.1 (has_mem hf)
      obtain ⟨i, hi, rfl⟩ := List.mem_iff_getElem.1 hp
      subst e
      rw [place_cut hi h.nodup, List.length_append, List.length_take, List.length_drop]
      have := h.few
      omega
    · have := delM_len M n
      omega
/-- What 'at' answers. -/
theorem at_place {M : List (Nm × Int)} (h : GoodM M) {n : Nm} (hg : goodN n = true) {r : Int} (hr : AtR (rowM M) (txt n) r) : (∃ (i : Nat) (hi : i < M.length), r = i ∧ (M[i]).1 = n ∧ hasN M n = true) ∨ (r = -1 ∧ hasN M n = false) := by
  rcases hr with ⟨i, hi, rfl, he⟩ | ⟨rfl, hno⟩
  · have hi' : i < M.length := by rwa [rowM_len] at hi
    have e0 : (rowM M)[i] = (txt (M[i]).1, (M[i]).2) := List.getElem_map ..
    have he' : txt (M[i]).1 = txt n := by
      rw [e0] at he
      exact he
    have e := txt_inj (h.good _ (List.getElem_mem hi')) hg he'
    exact .inl ⟨i, hi', rfl, e, mem_has (List.mem_map.2 ⟨M[i], List.getElem_mem hi', e⟩)⟩
  · refine .inr ⟨rfl, ?_⟩
    cases hh : hasN M n
    · rfl
    · obtain ⟨p, hp, e⟩ := List.mem_map.1 (has_mem hh)
      exact absurd (by rw [← e]) (hno (txt p.1, p.2) (List.mem_map.2 ⟨p, hp, rfl⟩))
theorem bad_none {M : List (Nm × Int)} (h : GoodM M) {n : Nm} (hg : goodN n = false) : hasN M n = false := by
  cases hh : hasN M n
  · rfl
  · obtain ⟨p, hp, e⟩ := List.mem_map.1 (has_mem hh)
    have := h.good p hp
    rw [e, hg] at this
    cases this
/-- The table's roots are the row in order. -/
theorem roots_sorted {M : List (Nm × Int)} (h : GoodM M) {ks : List (ByteArray × Int)} (hp : ks.Perm (rowM M)) (hs : ks.Pairwise (fun a b => ¬ gtR a b)) : ks = rootsM M := by
  have hsp := sortN_isPerm (M.map Prod.fst)
  have hrp : (rootsM M).Perm (rowM M) := by
    unfold rootsM rowM
    refine (hsp.map _).trans ?_
    rw [List.map_map]
    refine List.Perm.of_eq (List.map_congr_left fun p hp => ?_)
    obtain ⟨i, hi, rfl⟩ := List.mem_iff_getElem.1 hp
    show (txt (M[i]).1, getZ M (M[i]).1) = _
    rw [place_get hi h.nodup]
  have hrs : (rootsM M).Pairwise (fun a b => ¬ gtR a b) := by
    unfold rootsM
    rw [List.pairwise_map]
    refine (sortN_pairwise (M.map Prod.fst)).imp_of_mem fun {a b} ha hb hab => ?_
    have ga : goodN a = true := by
      obtain ⟨p, hp, rfl⟩ := List.mem_map.1 (hsp.mem_iff.1 ha)
      exact h.good p hp
    have gb : goodN b = true := by
      obtain ⟨p, hp, rfl⟩ := List.mem_map.1 (hsp.mem_iff.1 hb)
      exact h.good p hp
    rw [ltN] at hab
    simp only [Bool.not_eq_true', decide_eq_false_iff_not] at hab
    unfold gtR
    intro hlt
    exact hab ((txt_lt gb ga).2 hlt)
  refine List.Perm.eq_of_pairwise (le := fun a b => ¬ gtR a b) (fun a b ha hb h1 h2 => ?_) hs hrs (hp.trans hrp.symm)
  have ha' := hp.mem_iff.1 ha
  have hb' := hrp.mem_iff.1 hb
  obtain ⟨p, hp1, rfl⟩ := List.mem_map.1 ha'
  obtain ⟨q, hq1, rfl⟩ := List.mem_map.1 hb'
  have e : txt p.1 = txt q.1 := ByteArray.ext (Array.ext' (List.le_antisymm (List.not_lt.1 h1) (List.not_lt.1 h2)))
  have e2 := txt_inj (h.good p hp1) (h.good q hq1) e
  obtain ⟨i, hi, rfl⟩ := List.mem_iff_getElem.1 hp1
  obtain ⟨j, hj, rfl⟩ := List.mem_iff_getElem.1 hq1
  have e3 : i = j := by
    have hn := List.pairwise_map.1 h.nodup
    rcases Nat.lt_trichotomy i j with hlt | e | hlt
    · exact absurd e2 (List.pairwise_iff_getElem.1 hn i j hi hj hlt)
    · exact e
    · exact absurd e2.symm (List.pairwise_iff_getElem.1 hn j i hj hi hlt)
  subst e3
  rfl
/-- The play's state between two acts. -/
def PlayT (w0 : World) (s3 s4 : Value) (w : World) : Prop := ∃ (p : Nat) (M : List (Nm × Int)), s3 = .pointer (some ⟨p, 0, none⟩) ∧ KSt w0 w0.heap.size p M w ∧ w.ownsRow w0.heap.size 100 2 s4 M.length (cellsR (rowM M)) ∧ GoodM M
theorem row_keep {w w' : World} {base base' p : Nat} {M : List (Nm × Int)} {v : Value} {k : Nat} {xs : List Value} (ht : TabAt w base p M) (h : w.ownsRow base' 100 2 v k xs) (hm : Moves (TabOwn w p) w w') : w'.ownsRow base' 100 2 v k xs :=
  own_moves h hm (fun g hg e => by
    obtain ⟨cur, hc⟩ := own_block h hg
    obtain ⟨mb, hb, -, hx⟩ := ht
    rcases e with rfl | e
    · rw [hb] at hc
      injection hc with hc
      injection hc with _ h2
      exact absurd h2 (by decide)
    · rw [hb] at e
      have e : mb = some g := by simpa using e
      rcases hx with ⟨e2, _⟩ | ⟨m, D, e2, -, hown, _⟩
      · rw [e2] at e; cases e
      · rw [e2] at e; cases e
        obtain ⟨es, ck, hbm, _⟩ := hown
        rw [hbm] at hc
        cases hc)
theorem tab_keep {w w' : World} {base base' p : Nat} {M : List (Nm × Int)} {v : Value} {k : Nat} {xs : List Value} (ht : TabAt w base p M) (h : w.ownsRow base' 100 2 v k xs) (hm : Moves (fun g => v.ownBlock = some g) w w') : TabAt w' base p M :=
  ht.moves hm (fun g e hg => by
    obtain ⟨cur, hc⟩ := own_block h hg
    obtain ⟨mb, hb, -, hx⟩ := ht
    rcases e with rfl | e
    · rw [hb] at hc
      injection hc with hc
      injection hc with _ h2
      exact absurd h2 (by decide)
    · rw [hb] at e
      have e : mb = some g := by simpa using e
      rcases hx with ⟨e2, _⟩ | ⟨m, D, e2, -, hown, _⟩
      · rw [e2] at e; cases e
      · rw [e2] at e; cases e
        obtain ⟨es, ck, hbm, _⟩ := hown
        rw [hbm] at hc
        cases hc)
end Go.Proofs.Ytbfnmgjpkieaoaa.Tb

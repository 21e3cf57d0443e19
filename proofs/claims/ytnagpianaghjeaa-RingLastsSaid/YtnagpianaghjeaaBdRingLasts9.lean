/-
  A store at a key that is there, into a map that is ranged over, in the round: the loop's word 'ranges' goes on, with the new element at that key.
-/
import Derived.Maps.RangeWalk
namespace Go.Proofs.Ytnagpianaghjeaa
open Go Go.ChangeMaps Go.MapKept Go.WideShapes
open Go.WideElems (Fit rd rg pl rd_key rd_val rg_of other_key rd_mk)
open Go.Maps (Keyed)

section
variable {H : Type} {P : Program} {k : TypeId} {R : Value → Option (DataW H × List MemPlace)} {w : World} {b r n : Nat} {D : DataW H} {left : Lit → Bool} {cnt : Nat}

/-- 'm[k] = v' at a key that is there: who is there behind it, with which stamps. -/
theorem fit_store_at {t e : TypeId} {es : Array MapEntry} {clock : Nat} (K : Keyed P k) (ht : P.underlying t = some (.map k e)) (hb : w.heap[b]? = some (.map es clock)) (F : Fit P k R es clock) {key val : Value} {kl : Lit} {yv : DataW H × List MemPlace}
    (hkey : keyOf P k key = some kl) (hv : R val = some yv) (hin : ∃ x ∈ es.toList, x.key = key) :
    ∃ es', (Instr.mapUpdate t (.map (some b)) key val).run P w = .ok () (setBlock w b (.map es' clock)) ∧ Fit P k R es' clock ∧ es'.size = es.size ∧
      (es'.toList.map (rg P k R)).foldr DataW.insert [] = putKey kl yv.1 ((es.toList.map (rg P k R)).foldr DataW.insert []) ∧
      es'.toList.map MapEntry.born = es.toList.map MapEntry.born ∧ es'.toList.map (fun x => (rg P k R x).1) = es.toList.map (fun x => (rg P k R x).1) := by
  rcases K.find w hkey es.toList F.keys with ⟨h1, h2⟩ | ⟨j, e0, h1, h2, h3⟩
  · obtain ⟨x, hx, hxk⟩ := hin
    exact absurd hxk (h2 x hx)
  · have hj : es[j]? = some e0 := by simpa using h2
    have hjl : j < es.toList.length := (List.getElem?_eq_some_iff.1 h2).1
    have hkeyf : ∀ e', es[j]? = some e' → ({ e' with key := key, val := val } : MapEntry).key = e'.key := fun e' he' => by rw [hj] at he'; cases he'; exact h3.symm
    have hlist : (es.modify j (fun e' => { e' with key := key, val := val })).toList = es.toList.set j { e0 with key := key, val := val } := by rw [Array.toList_modify, modify_eq_set _ _ _ _ h2]
    have hrg0 : (rg P k R e0).1 = kl := by
      obtain ⟨y, hy⟩ := F.reads e0 (List.mem_of_getElem? h2)
      have m1 := rd_key hy
      rw [h3, hkey] at m1
      rw [rg_of hy]
      exact (Option.some.inj m1).symm
    have who : ∀ x ∈ es.toList.set j { e0 with key := key, val := val }, x = { e0 with key := key, val := val } ∨ x ∈ es.toList := by
      intro x hx
      rcases List.mem_or_eq_of_mem_set hx with h | h
      · exact Or.inr h
      · exact Or.inl h
    refine ⟨es.modify j (fun e' => { e' with key := key, val := val }), ?_, ⟨by simpa using F.size, stamped_modify F.stamped _ _ (fun _ _ => rfl) (fun e' _ he' => hkeyf e' he'), ?_⟩, by simp, ?_, ?_, ?_⟩
    · simp [Instr.mapUpdate, run_underlying ht, MapKept.run_getObj_map hb, K.check w false hkey, h1, hj, h3, K.stays w hkey, MapKept.run_setObj_map _ hb, Result.andThen, setBlock]
    · intro x hx
      rw [hlist] at hx
      rcases who x hx with rfl | hx'
      · exact ⟨_, rd_mk hkey hv⟩
      · exact F.reads x hx'
    · refine Maps.sorted_put K.one ⟨key, hkey⟩ (Maps.fit_keys F) (Maps.fit_apart K F) ?_
      rw [Maps.filter_one K F hkey h2 h3, hlist, List.map_set, rg_of (rd_mk hkey hv)]
      exact set_perm _ _ (by simpa using hjl) _
    · rw [hlist, List.map_set]
      have : ({ e0 with key := key, val := val } : MapEntry).born = (es.toList.map MapEntry.born)[j]'(by simpa using hjl) := by
        rw [List.getElem_map]
        show e0.born = _
        have := (List.getElem?_eq_some_iff.1 h2).2
        rw [this]
      rw [this]
      exact List.set_getElem_self _
    · rw [hlist, List.map_set]
      have : (rg P k R { e0 with key := key, val := val }).1 = (es.toList.map (fun x => (rg P k R x).1))[j]'(by simpa using hjl) := by
        rw [List.getElem_map, (List.getElem?_eq_some_iff.1 h2).2, hrg0, rg_of (rd_mk hkey hv)]
      rw [this]
      exact List.set_getElem_self _

theorem mem_zip_of_maps {α β γ : Type} {f : α → β} {g : α → γ} {l l' : List α} (hf : l'.map f = l.map f) (hg : l'.map g = l.map g) {x : α} (hx : x ∈ l') : ∃ y ∈ l, f y = f x ∧ g y = g x := by
  obtain ⟨i, hi, rfl⟩ := List.getElem_of_mem hx
  have hl : l'.length = l.length := by simpa using congrArg List.length hf
  have hi' : i < l.length := by omega
  refine ⟨l[i], List.getElem_mem hi', ?_, ?_⟩
  · have := List.getElem_of_eq hf (i := i) (by simpa using hi)
    simpa using this.symm
  · have := List.getElem_of_eq hg (i := i) (by simpa using hi)
    simpa using this.symm

/-- THE STORE IN THE ROUND, at a key that is there. -/
theorem ranges_store {t e : TypeId} (h : w.ranges P k R b r n D left cnt) (K : Keyed P k) (ht : P.underlying t = some (.map k e)) {key val : Value} {kl : Lit} {yv : DataW H × List MemPlace}
    (hkey : keyOf P k key = some kl) (hv : R val = some yv) (hin : Maps.has D kl = true) :
    ∃ w', (Instr.mapUpdate t (.map (some b)) key val).run P w = .ok () w' ∧ w'.ranges P k R b r n (D.put kl yv.1) left cnt ∧ w.mapTurned w' b := by
  have hne := h.ne
  obtain ⟨es, clock, since, seen, c0, hb, F, hs, rfl, hr, hold, rfl, hl1, hl2, hsc, hsk⟩ := h
  have hin' : ∃ x ∈ es.toList, x.key = key := by
    obtain ⟨p, hp, hpk⟩ := List.any_eq_true.1 hin
    obtain ⟨x, hx, rfl⟩ := List.mem_map.1 (mem_sorted.1 hp)
    obtain ⟨y, hy⟩ := F.reads x hx
    have h1 := WideAt.sameKey_eq hpk
    rw [rg_of hy] at h1
    exact ⟨x, hx, K.inj (h1 ▸ rd_key hy) hkey⟩
  obtain ⟨es', hrun, F', hsz, hput, hbo, hrg⟩ := fit_store_at K ht hb F hkey hv hin'
  refine ⟨_, hrun, ⟨es', clock, since, seen, c0, heap_setBlock_same hb _, F', by omega, by rw [DataW.put_eq, hput], (heap_setBlock_other hb _ hne).trans hr, fun x hx => ?_, ?_, fun x hx => ?_, fun x0 hx0 => ?_, hsc, hsk⟩, ⟨es, clock, es', clock, hb, rfl⟩⟩
  · obtain ⟨y, hy, h1, _⟩ := mem_zip_of_maps hbo hrg hx
    rw [← h1]
    exact hold y hy
  · have e1 : ∀ a : Array MapEntry, (leftOf a seen).size = ((a.toList.map MapEntry.born).filter fun e => !seen.contains e).length := fun a => by
      unfold leftOf
      rw [List.filter_map, List.length_map, ← Array.length_toList, Array.toList_filter]
      rfl
    rw [e1, e1, hbo]
  · obtain ⟨y, hy, h1, h2⟩ := mem_zip_of_maps hbo hrg hx
    rw [← h1, ← h2]
    exact hl1 y hy
  · obtain ⟨x, hx, hxk⟩ := hl2 x0 hx0
    obtain ⟨y, hy, _, h2⟩ := mem_zip_of_maps hbo.symm hrg.symm hx
    exact ⟨y, hy, h2.trans hxk⟩
end

section
variable {H : Type} {P : Program} (w : World) {ops : Array Oper} {rest : List Oper} {o : Oper} {a : Act} {Q : Exit → Act → World → Prop}

/-- .. at the operation, for the walk. -/
theorem wpList_store_ranges (hg : o.guard = none) (m x v : Operand) (t : TypeId) (hop : o.op = Op.mapUpdate t m x v)
    (k e : TypeId) (K : Keyed P k) (ht : P.underlying t = some (.map k e)) (R : Value → Option (DataW H × List MemPlace)) (b r n : Nat) (D : DataW H) (left : Lit → Bool) (cnt : Nat)
    (hm : a.eval m = .map (some b)) (h : w.ranges P k R b r n D left cnt) (key val : Value) (kl : Lit) (hx : a.eval x = key) (hv : a.eval v = val) (hkey : keyOf P k key = some kl)
    (d : DataW H) (ps : List MemPlace) (hval : R val = some (d, ps)) (hin : Maps.has D kl = true)
    (hK : ∀ w', w'.ranges P k R b r n (D.put kl d) left cnt → w.mapTurned w' b → wpList P ops Q rest (a.put o.dst undef) w') :
    wpList P ops Q (o :: rest) a w := by
  refine wpList_plain hg fun K' hK' => ?_
  obtain ⟨w', hrun, r1, r2⟩ := ranges_store h K ht hkey hval hin
  unfold Oper.wp
  simp [execOp, hop, hm, hx, hv, hrun, Result.andThen]
  exact hK' _ _ (hK w' r1 r2)
end

end Go.Proofs.Ytnagpianaghjeaa

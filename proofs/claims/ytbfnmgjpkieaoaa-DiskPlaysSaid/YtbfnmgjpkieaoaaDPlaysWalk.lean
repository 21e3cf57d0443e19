/-
  The walk of DiskPlays: any acts on a disk of any shape, as the statement's own disk has them.
-/
import Derived.Test.YtbfnmgjpkieaoaaDPlaysSw
import Derived.Deep.RegionLaw
namespace Go.Proofs.Ytbfnmgjpkieaoaa.Pl
open Go Go.RowKit Go.Maps Go.Sort Go.Proofs

theorem IsDisk.besideT {T : Nat → Prop} {w w' : World} {base d : Nat} {S : DS} (h : IsDisk w base d S) (ht : ∀ g, T g → g < w.heap.size → ∃ cs t fr, w.heap[g]? = some (.cells cs t fr) ∧ t ≠ 108 ∧ t ≠ 29 ∧ t ≠ 5 ∧ t ≠ 4) (hm : Moves T w w') : IsDisk w' base d S := by
  obtain ⟨kv, kvs, m, D, pvs, kpv, h⟩ := h
  have ty : ∀ (k : Nat) (cs' : Array Value) (t' : TypeId) (fr' : Nat × Nat), w.heap[k]? = some (.cells cs' t' fr') → T k → t' ≠ 108 ∧ t' ≠ 29 ∧ t' ≠ 5 ∧ t' ≠ 4 := fun k cs' t' fr' hk hT => by
    obtain ⟨cs, t, fr, hg, h4⟩ := ht k hT (Array.getElem?_eq_some_iff.1 hk).1
    rw [hk] at hg
    injection hg with hg
    injection hg with _ h1
    rw [h1]; exact h4
  have hc : Clear w base d S T kv kvs m D pvs kpv := by
    refine ⟨h, fun e => (ty d _ _ _ h.blk e).1 rfl, fun k hk e => ?_, fun e => ?_, fun k cs' hk e => (ty k cs' _ _ hk e).2.2.1 rfl, fun k cs' hk e => (ty k cs' _ _ hk e).2.2.2 rfl⟩
    · obtain ⟨cur, hc⟩ := own_block h.kept hk
      exact (ty k cur _ _ hc e).2.1 rfl
    · obtain ⟨es, ck, hb, _⟩ := h.map
      obtain ⟨cs, t, fr, hg, _⟩ := ht m e h.map.lt
      rw [hg] at hb
      cases hb
  exact ⟨kv, kvs, m, D, pvs, kpv, hc.moves hm⟩
theorem strOfNums_append (a b : List Int) : strOfNums a ++ strOfNums b = strOfNums (a ++ b) := by
  apply ByteArray.ext
  simp [strOfNums]
theorem far_own {wa wr : World} {base d : Nat} {S : DS} (h : IsDisk wa base d S) (hm : Moves (fun _ => False) wa wr) (q : Nat) (hq : wa.heap.size ≤ q) (e : DOwn wr d q) : False := by
  obtain ⟨kv, kvs, m, D, pvs, kpv, h⟩ := h
  have hd := (Array.getElem?_eq_some_iff.1 h.blk).1
  have hb := hm.block d hd (fun h => h)
  have e' : DOwn wa d q := by unfold DOwn at e ⊢; rwa [hb] at e
  rcases h.own e' with e | e | e
  · omega
  · have := (h.kept.lt q e).2; omega
  · have := h.map.lt; omega
/-- A row of bytes of which i are copied. -/
def part (z : Nat) (b : List Int) (i : Nat) : List Int := b.take i ++ List.replicate (z - i) 0
theorem part_len {z : Nat} {b : List Int} {i : Nat} (h : i ≤ z) (hb : i ≤ b.length) : (part z b i).length = z := by simp [part]; omega
theorem part_step {z : Nat} {b : List Int} {i : Nat} (h : i < z) (hb : i < b.length) : (part z b i).set i b[i] = part z b (i + 1) := by
  apply List.ext_getElem?
  intro j
  unfold part
  rw [List.getElem?_set, List.getElem?_append, List.getElem?_append]
  simp only [List.length_take, List.length_append, List.length_replicate, List.getElem?_replicate, List.getElem?_take]
  split <;> split <;> (try split) <;> (try split) <;> (try split) <;> simp_all <;> omega
theorem part_made (w : World) (z : Nat) (b : List Int) (hn : z ≤ 1000000) : (w.alloc (.cells (madeCells #[.int .u8 0] z) 5)).ownsRow w.heap.size 5 1 (.slice (some ⟨w.heap.size, 0, none⟩) z z) z ((part z b 0).map encB) := by
  have h : (part z b 0).map encB = (madeCells #[Value.int .u8 0] z).toList := by rw [madeB]; simp [part]
  refine ⟨by simp [part], .inr ⟨w.heap.size, z, _, rfl, Nat.le_refl _, heap_alloc_new w _, Nat.le_refl _, by unfold maxLen; omega, by rw [size_madeCells]; omega, ?_⟩⟩
  rw [h]
  exact List.take_of_length_le (by rw [Array.length_toList, size_madeCells]; omega)

set_option maxRecDepth 100000 in
set_option maxHeartbeats 16000000 in
theorem plays_ok {w : World} {v : Value} {l : List ActD} (hA : Acts w v l) {n z : Nat} (hn : 1 ≤ n ∧ n ≤ 64) (hz : 64 ≤ z ∧ z ≤ 256) (hl : l.length ≤ 80) : Calls Try.prog 8 #[.int .i64 n, .int .i64 z, v] w (TruePost w) := by
  obtain ⟨A, c, rfl, hc, hcells⟩ := hA
  have HK := Lib.hid (known_any w)
  have HNEW := Lib.hid (fun W => new_ok (n := n) (z := z) (by omega) (by omega) W)
  have HA := Lib.hid hcells
  have e1 : ¬ (80 : Int) < (l.length : Int) := by omega
  have e2 : ¬ (64 : Int) < (n : Int) := by omega
  have e3 : ¬ (256 : Int) < (z : Int) := by omega
  have e4 : (1 : Int) ≤ (n : Int) := by omega
  have e5 : (n : Int) ≤ 16384 := by omega
  have e6 : (64 : Int) ≤ (z : Int) := by omega
  have e7 : (z : Int) ≤ 1024 := by omega
  obtain ⟨i4, hi4, hq0, hq1, hq2⟩ := info_parts infoStr
  obtain ⟨i5, hi5, hp0, hp1, hp2⟩ := info_parts infoB
  have hq3 : (Value.string ⟨#[]⟩).cells.size = 1 := rfl
  have hq4 : (0 : Nat) < 1 := by decide
  have hmk := fun W => run_make_row (P := Try.prog) 29 5 i5 _ Try.underlying29 hi5 hp0 hp1 rfl .i64 .i64 z (by rw [hp2]; omega) (by omega) W
  clear hcells
  go_enter Try.func8, Try.ntmps8
  go_wp2_with fail
  refine HK.out.mono ?_
  rintro e w1 ⟨rfl, hM1⟩
  go_wp2_with fail
  refine (HNEW.out w1).mono ?_
  rintro e w2 ⟨d, rfl, hD2, hM2⟩
  have H2 := Lib.hid (And.intro hD2 (hM1.trans hM2))
  have HB : Hid (w.heap.size ≤ w1.heap.size ∧ w1.heap.size ≤ w2.heap.size) := Lib.hid ⟨hM1.size, hM2.size⟩
  clear hD2 hM1 hM2 HK HNEW
  generalize hbase : w1.heap.size = base at H2 HB
  clear hbase
  go_wp2_with fail
  have hmod : ModelAt (w2.alloc (.cells #[.int .i64 z, .slice none 0 0, .slice none 0 0, .bool false, .bool false, .int .i64 0, .slice none 0 0, .int .i64 0] 61)) base w2.heap.size (fun j => j < w.heap.size) (newS 0 z) (.slice none 0 0) (.slice none 0 0) (.slice none 0 0) :=
    ⟨heap_alloc_new _ _, HB.out.2, World.ownsRow_nil _ _ _ _, World.ownsRow_nil _ _ _ _, ⟨none, 0, 0, rfl⟩, fun h => (by simp [newS] at h), by simp [newS], by simp [newS], by simp [newS]⟩
  have hmv : Moves (fun _ => False) w2 (w2.alloc (.cells #[.int .i64 z, .slice none 0 0, .slice none 0 0, .bool false, .bool false, .int .i64 0, .slice none 0 0, .int .i64 0] 61)) := (Moves.refl (fun _ => False) w2).alloc _
  have H3 := Lib.hid (And.intro hmod (And.intro (H2.out.1.moves0 hmv) (H2.out.2.trans hmv)))
  clear hmod hmv H2
  have HBM : Hid (base ≤ w2.heap.size) := Lib.hid HB.out.2
  generalize w2.alloc (.cells #[.int .i64 z, .slice none 0 0, .slice none 0 0, .bool false, .bool false, .int .i64 0, .slice none 0 0, .int .i64 0] 61) = w3 at H3 ⊢
  have HB1 : Hid (w.heap.size ≤ base) := Lib.hid HB.out.1
  clear HB
  generalize w2.heap.size = mb at H3 HBM ⊢
  go_loopg [11] n (fun gg s11 wr => ∃ (j : Nat) (kv : Value), j ≤ n ∧ gg = n - j ∧ s11 = .int .i64 j ∧ Hid (ModelAt wr base mb (fun j => j < w.heap.size) (newS j z) kv (.slice none 0 0) (.slice none 0 0) ∧ IsDisk wr base d (newS n z) ∧ Moves (fun _ => False) w wr))
  case atStart => exact ⟨0, _, Nat.zero_le _, rfl, rfl, H3⟩
  case round =>
    obtain ⟨j, kv, hj, hgj, rfl, HJ⟩ := hrel
    by_cases hjn : j < n
    · have hjz : (j : Int) < (n : Int) := by omega
      have hmo := HJ.out.1
      obtain ⟨-, c1, -⟩ := hmo.cells
      have f1 := hmo.fr 1
      have hdl := (Array.getElem?_eq_some_iff.1 hmo.blk).1
      have hkd : kv.ownBlock ≠ some mb := fun e => by
        obtain ⟨cur, hc⟩ := own_block hmo.kept e
        rw [hmo.blk] at hc
        injection hc with hc
        injection hc with _ h1
        exact absurd h1 (by decide)
      have hkept : wr.ownsRow base 9 1 kv j ((List.replicate j (List.replicate z 0)).map str) := by have := hmo.kept; simpa [newS] using this
      obtain ⟨Ak, ck, rfl, -, -, -, -, -⟩ := own_form hkept
      have HKV : Hid ((List.replicate j (List.replicate z 0)).map str ++ [str (List.replicate z 0)] = (List.replicate (j + 1) (List.replicate z 0)).map str) := Lib.hid (by rw [List.replicate_succ', List.map_append]; rfl)
      generalize (List.replicate j (List.replicate z 0)).map str = kvs at hkept HKV
      have HKP := Lib.hid hkept
      have h63 : Hid (j + 1 ≤ maxLen ∧ (j + 1) * 16 ≤ 140737488355328) := Lib.hid (by unfold maxLen; omega)
      have hws : base ≤ wr.heap.size := Nat.le_trans hmo.hb (by omega)
      have hcv : ∀ W : World, (convert 29 9 (.slice (some ⟨W.heap.size, 0, none⟩) z z)).run Try.prog (W.alloc (.cells (madeCells #[.int .u8 0] z) 5)) = .ok (.string (strOfNums (List.replicate z 0))) (W.alloc (.cells (madeCells #[.int .u8 0] z) 5)) := fun W => by
        have hr := Row.of_owns (part_made W z [] (by omega))
        have := conv_row hr
        simpa [part] using this
      have hcv0 := hcv wr
      have hcv1 : (convert 29 9 (.slice (some ⟨wr.heap.size, 0, none⟩) z z)).run Try.prog (wr.drew.alloc (.cells (madeCells #[.int .u8 0] z) 5)) = .ok (.string (strOfNums (List.replicate z 0))) (wr.drew.alloc (.cells (madeCells #[.int .u8 0] z) 5)) := hcv wr.drew
      have HZ : Hid (Value.string (strOfNums (List.replicate z 0)) = str (List.replicate z 0)) := Lib.hid rfl
      have hcv2 : (convert 29 9 (.slice (some ⟨wr.heap.size, 0, none⟩) z z)).run Try.prog (wr.alloc (.cells (madeCells #[.int .u8 0] z) 5)).drew = .ok (.string (strOfNums (List.replicate z 0))) (wr.alloc (.cells (madeCells #[.int .u8 0] z) 5)).drew := hcv wr.drew
      generalize strOfNums (List.replicate z 0) = zs at hcv0 hcv1 hcv2 HZ
      clear hcv hmo hkept
      have hbs : Hid (base ≤ ((wr.alloc (.cells (madeCells #[.int .u8 0] z) 5)).alloc (.cells #[.string zs] 9)).heap.size) := Lib.hid (by simp; omega)
      go_wp2_with fail
      go_region_law (first
        | (refine step_append_src _ rfl (.tmp 96) (.tmp 100) 58 rfl base 9 i4 _ 1 16 Try.underlying58 hi4 hq0 hq1 hq2 hq3 hq4 (.slice Ak j ck) j kvs rfl ((HKP.out.alloc _).alloc _) (some ⟨wr.heap.size + 1, 0, none⟩) 1 1 [.string zs] rfl (by rfl) (fun _ => ⟨_, rfl, World.news_of_block (cs := #[.string zs]) (t := 9) (fr := (0, 0)) (heap_alloc2_new _ _ _)⟩) (by simp [Value.oneCell']) h63.out.1 h63.out.2 hbs.out ?_
           intro v1 w5 hn5 hg5 hl5
           have hdl5 : mb < ((wr.alloc (.cells (madeCells #[.int .u8 0] z) 5)).alloc (.cells #[.string zs] 9)).heap.size := by simp; omega
           have hb5 := hg5.block mb hdl5 hkd.symm
           have c1' : w5.cell? ⟨mb, 1, none⟩ = some (.slice Ak j ck) := (World.cell?_of_block hb5).trans ((World.cell?_alloc_lt _ _ ⟨mb, 1, none⟩ (by simp; omega)).trans ((World.cell?_alloc_lt _ _ ⟨mb, 1, none⟩ hdl).trans c1))
           have f1' : w5.frozen? ⟨mb, 1, none⟩ = false := (World.frozen?_of_block hb5).trans ((World.frozen?_of_block ((Below.heap_alloc _ _ _ (by simp; omega)).trans (Below.heap_alloc _ _ _ hdl))).trans f1)
           obtain ⟨A1, k1, rfl, -, -, -, -, -⟩ := own_form hn5)
        | fail)
      all_goals
        have HN5 := Lib.hid hn5
        have HG5 := Lib.hid hg5
        clear hn5 hg5 hl5 hb5 c1
        go_wp2
        have hm6 : Moves (fun k => k = mb) w5 (w5.setCell ⟨mb, 1, none⟩ (.slice A1 (j + 1) k1)) := Moves.setCell (p := ⟨mb, 1, none⟩) (Moves.refl (fun k => k = mb) w5) (fun _ => rfl) _
        have hmA : Moves (fun k => (Value.slice Ak j ck).ownBlock = some k) wr w5 := by
          first
            | exact (((Moves.refl _ wr).alloc _).alloc _).grown HG5.out (fun k e _ => e)
            | exact ((((Moves.refl _ wr).drew).alloc _).alloc _).grown HG5.out (fun k e _ => e)
        have hmm : Moves (fun k => k = mb ∨ (Value.slice Ak j ck).ownBlock = some k) wr (w5.setCell ⟨mb, 1, none⟩ (.slice A1 (j + 1) k1)) := (hmA.mono (fun k e => .inr e)).andThen hm6 (fun k e _ => .inl e)
        have hmo := HJ.out.1
        have hw5 : w5.heap[mb]? = wr.heap[mb]? := hmA.block mb hdl hkd
        have hb6 : (w5.setCell ⟨mb, 1, none⟩ (.slice A1 (j + 1) k1)).heap[mb]? = some (.cells #[.int .i64 z, .slice A1 (j + 1) k1, .slice none 0 0, .bool false, .bool false, .int .i64 0, .slice none 0 0, .int .i64 0] 61 (0, 0)) := by
          simp [World.setCell, Array.getElem?_modify, hw5, hmo.blk, newS]
        have hkp : (w5.setCell ⟨mb, 1, none⟩ (.slice A1 (j + 1) k1)).ownsRow base 9 1 (.slice A1 (j + 1) k1) (newS (j + 1) z).kept.length ((newS (j + 1) z).kept.map str) := by
          have h1 := own_moves HN5.out hm6 (fun g hg e => by
            have e : g = mb := e
            obtain ⟨cur, hc⟩ := own_block HN5.out hg
            rw [e, hw5, hmo.blk] at hc
            injection hc with hc
            injection hc with _ h1
            exact absurd h1 (by decide))
          rw [HZ.out, HKV.out] at h1
          simpa [newS] using h1
        have hfin : ModelAt (w5.setCell ⟨mb, 1, none⟩ (.slice A1 (j + 1) k1)) base mb (fun j => j < w.heap.size) (newS (j + 1) z) (.slice A1 (j + 1) k1) (.slice none 0 0) (.slice none 0 0) :=
          ⟨hb6, hmo.hb, hkp, World.ownsRow_nil _ _ _ _, ⟨none, 0, 0, rfl⟩, fun h => (by simp [newS] at h), by simp [newS], by simp [newS], by simp [newS]; omega⟩
        have hdk : IsDisk (w5.setCell ⟨mb, 1, none⟩ (.slice A1 (j + 1) k1)) base d (newS n z) := HJ.out.2.1.besideT (fun g e hg => by
          rcases e with e | e
          · exact ⟨_, _, _, by rw [e]; exact hmo.blk, by decide, by decide, by decide, by decide⟩
          · obtain ⟨cur, hc⟩ := own_block HKP.out e
            exact ⟨_, _, _, hc, by decide, by decide, by decide, by decide⟩) hmm
        have HFIN := Lib.hid (And.intro hfin (And.intro hdk (HJ.out.2.2.andThen hmm (fun k e hlt => by
          rcases e with e | e
          · have := hmo.hb; have := HB1.out; omega
          · have := (HKP.out.lt k e).1; have := HB1.out; omega))))
        clear hfin hdk hkp hb6 hw5 hmm hmA hm6 hmo
        go_roundg (n - (j + 1))
        case measure => omega
        case rel => exact ⟨j + 1, _, by omega, rfl, by go_num, HFIN⟩
    · obtain rfl : j = n := by omega
      have hjz : ¬ (j : Int) < (j : Int) := by omega
      have HP0 : Hid (PlayAt w base j z mb 0 (.pointer (some ⟨d, 0, none⟩)) wr) := Lib.hid ⟨d, newS j z, rfl, HJ.out.2.1, ⟨_, _, _, HJ.out.1⟩, HJ.out.2.2, ⟨rfl, by simp [newS], by simp [newS], by simp [newS], by simp [newS], fun h => (by simp [newS] at h), hz, hn⟩⟩
      clear HJ H3
      go_wp2_with fail
      go_loopg [7, 12] l.length (fun gg s7 s12 wq => ∃ k : Nat, k ≤ l.length ∧ gg = l.length - k ∧ s12 = .int .i64 k ∧ Hid (PlayAt w base j z mb k s7 wq))
      case atStart => exact ⟨0, Nat.zero_le _, rfl, rfl, HP0⟩
      case round =>
        obtain ⟨k, hk, rfl, rfl, HP⟩ := hrel
        by_cases hlt : k < l.length
        · obtain ⟨g, o, rfl, hgl, hact⟩ := HA.out (by omega)
          have hak := hact k hlt
          clear hact
          generalize l[k] = a at hak
          have hkz : (k : Int) < (l.length : Int) := by omega
          have hk0 : (0 : Int) ≤ (k : Int) := by omega
          obtain ⟨d, S, rfl, hD, hM, hmv, hfit⟩ := HP.out
          clear HP
          have c0 : wr.cell? ⟨g, o + k * 6, none⟩ = some (.int .i64 a.op) := (hmv.cell (p := ⟨g, o + k * 6, none⟩) hgl (fun h => h)).trans hak.op
          have c1 : wr.cell? ⟨g, o + k * 6 + 1, none⟩ = some (.int .i64 a.sector) := (hmv.cell (p := ⟨g, o + k * 6 + 1, none⟩) hgl (fun h => h)).trans hak.sector
          have c2 : wr.cell? ⟨g, o + k * 6 + 2, none⟩ = some (.int .i64 a.n) := (hmv.cell (p := ⟨g, o + k * 6 + 2, none⟩) hgl (fun h => h)).trans hak.n
          have c3 : wr.cell? ⟨g, o + k * 6 + 3, none⟩ = some a.bv := (hmv.cell (p := ⟨g, o + k * 6 + 3, none⟩) hgl (fun h => h)).trans hak.bv
          have c4 : wr.cell? ⟨g, o + k * 6 + 4, none⟩ = some (.bool a.whole) := (hmv.cell (p := ⟨g, o + k * 6 + 4, none⟩) hgl (fun h => h)).trans hak.whole
          have c5 : wr.cell? ⟨g, o + k * 6 + 5, none⟩ = some a.kv := (hmv.cell (p := ⟨g, o + k * 6 + 5, none⟩) hgl (fun h => h)).trans hak.kv
          have hrb := hak.rowb
          have hrk := hak.rowk
          have hwn := hak.wn
          obtain ⟨Ab0, cb0, hbv, -, hxb⟩ := hak.rowb
          obtain ⟨Ak, ck, hkv, -⟩ := hak.rowk
          rw [List.length_map] at hbv hkv hxb
          rw [hbv] at c3 hrb
          rw [hkv] at c5 hrk
          clear hbv hkv hak
          by_cases h2000 : 2000 < a.b.length
          · have e2000 : (2000 : Int) < (a.b.length : Int) := by omega
            clear hxb hD hM
            go_wp2
            go_ret
            exact ⟨rfl, hmv.alloc _⟩
          have e2000 : ¬ (2000 : Int) < (a.b.length : Int) := by omega
          cases hkp : decide (a.keep.length ≤ 300) with
          | false =>
            have HKE := Lib.hid (fun W => keeps_any W Ak a.keep.length ck hkp)
            have HM := Lib.hid hmv
            clear hkp hxb hD hM hrb hrk hmv
            go_wp2_with fail
            refine (HKE.out _).mono ?_
            rintro e w5 ⟨rfl, rfl⟩
            go_wp2
            go_ret
            exact ⟨rfl, HM.out.alloc _⟩
          | true =>
            have HKE := Lib.hid (fun W => keeps_any W Ak a.keep.length ck hkp)
            have hkl : a.keep.length ≤ 300 := of_decide_eq_true hkp
            have HX : Hid (Fit S j z k ∧ Row w (fun j => j < w.heap.size) (.slice Ak a.keep.length ck) (a.keep.map .bool) ∧ a.keep.length ≤ 300 ∧ (Lit.int .i64 a.n).wf = true) := Lib.hid ⟨hfit, hrk, hkl, hwn⟩
            have HXB := Lib.hid hxb
            have HRB := Lib.hid hrb
            have HW := Lib.hid (And.intro hD (And.intro hM hmv))
            clear hkp hkl hxb hD hM hrb hrk hmv hfit hwn
            go_wp2_with fail
            refine (HKE.out _).mono ?_
            rintro e w5 ⟨rfl, rfl⟩
            clear HKE c0 c1 c2 c3 c4 c5
            have hma := (Moves.refl (fun _ => False) wr).alloc (.cells #[.int .i64 a.op, .int .i64 a.sector, .int .i64 a.n, .slice Ab0 a.b.length cb0, .bool a.whole, .slice Ak a.keep.length ck] 63)
            have hba : (wr.alloc (.cells #[.int .i64 a.op, .int .i64 a.sector, .int .i64 a.n, .slice Ab0 a.b.length cb0, .bool a.whole, .slice Ak a.keep.length ck] 63)).heap[wr.heap.size]? = some (.cells #[.int .i64 a.op, .int .i64 a.sector, .int .i64 a.n, .slice Ab0 a.b.length cb0, .bool a.whole, .slice Ak a.keep.length ck] 63 (0, 0)) := heap_alloc_new _ _
            have HWA := Lib.hid (And.intro (HW.out.1.moves0 hma) (And.intro (HW.out.2.1.moves0 hma) (HW.out.2.2.trans hma)))
            clear HW hma
            generalize wr.alloc (.cells #[.int .i64 a.op, .int .i64 a.sector, .int .i64 a.n, .slice Ab0 a.b.length cb0, .bool a.whole, .slice Ak a.keep.length ck] 63) = wa at hba HWA ⊢
            generalize wr.heap.size = ab at hba ⊢
            have hbal := (Array.getElem?_eq_some_iff.1 hba).1
            have a3 : wa.cell? ⟨ab, 3, none⟩ = some (.slice Ab0 a.b.length cb0) := by unfold World.cell?; simp only [hba]; rfl
            have a0 : wa.cell? ⟨ab, 0, none⟩ = some (.int .i64 a.op) := by unfold World.cell?; simp only [hba]; rfl
            have a4 : wa.cell? ⟨ab, 4, none⟩ = some (.bool a.whole) := by unfold World.cell?; simp only [hba]; rfl
            have HBA := Lib.hid hba
            clear hba
            have HLOW : Hid (∀ j, j < w.heap.size → ¬ DOwn wa d j ∧ j ≠ mb) := Lib.hid (fun i hi => ⟨fun e => by have := HWA.out.1.low i e; have := HB1.out; omega, by have := HBM.out; have := HB1.out; omega⟩)
            cases hwh : a.whole with
            | false =>
              rw [hwh] at a4
              go_upto_block 6 with fail
              clear a0 a3 a4 hbal
              have hS : Sw w wa base j z d mb ab k S a.op a.sector a.n a.whole (.slice Ab0 a.b.length cb0) Ak ck a.keep Ab0 cb0 a.b := ⟨HWA.out.1, HWA.out.2.1, HBA.out, HWA.out.2.2, HB1.out, HX.out.1, by omega, (HRB.out.moves HWA.out.2.2 (fun _ _ _ h => h)).mono (fun i hi _ => HLOW.out i hi), HX.out.2.1, HX.out.2.2.1, HX.out.2.2.2⟩
              refine sw_all (by kernel_rfl) hS ?_
              intro u6 u7 u16 u17 u18 u19 u20 u21 u22 u23 u24 u152 u153 u154 u155 u156 u157 u158 u159 u160 u161 u162 u163 u164 u165 u166 u167 u168 u169 u170 u171 u172 u173 u174 u175 u176 u177 u178 u179 u180 u181 u182 u183 u184 u185 u186 u187 u188 u189 u190 u191 u192 u193 u194 u195 u196 u197 u198 u199 u200 u201 u202 u203 u204 u205 u206 u207 u208 u209 u210 u211 u212 u213 u214 u215 u216 u217 u218 u219 u220 u221 u222 u223 u224 u225 u226 u227 u228 u229 u230 u231 u232 u233 u234 u235 u236 u237 u238 u239 u240 u241 u242 u243 u244 u245 u246 u247 u248 u249 u250 u251 u252 u253 u254 u255 u256 u257 u258 u259 u260 u261 u262 u263 u264 u265 u266 u267 u268 u269 u270 u271 u272 u273 u274 u275 u276 u277 u278 u279 u280 u281 u282 u283 u284 u285 u286 u287 u288 u289 u290 u291 u292 u293 u294 u295 u296 u297 u298 u299 u300 u301 w6 hP
              clear hS
              obtain ⟨d', S', rfl, hD', hM', hmv', hfit'⟩ := hP
              have HO := Lib.hid (fun W (h : Moves (fun _ => False) w6 W) => off_any (hD'.moves0 h))
              have HPD := Lib.hid (fun W (h : Moves (fun _ => False) w6 W) => pending_any (hD'.moves0 h))
              have HWR := Lib.hid (fun W (h : Moves (fun _ => False) w6 W) => writes_any (hD'.moves0 h))
              have HPA : Hid (PlayAt w base j z mb (k + 1) (.pointer (some ⟨d', 0, none⟩)) w6.drew) := Lib.hid ⟨d', S', rfl, hD'.moves0 (Moves.refl _ w6).drew, hM'.moves0 (Moves.refl _ w6).drew, hmv'.trans (Moves.refl _ w6).drew, hfit'⟩
              obtain ⟨kv', wv', kpv', hmo⟩ := hM'
              obtain ⟨-, -, m2, m3, -, -, -, m7⟩ := hmo.cells
              have hml := (Array.getElem?_eq_some_iff.1 hmo.blk).1
              obtain ⟨Aw, cw, rfl, -⟩ := own_form hmo.wait
              have HS7 : Hid (∀ W, Moves (fun _ => False) w6 W → W.cell? ⟨mb, 2, none⟩ = some (.slice Aw S'.secs.length cw) ∧ W.cell? ⟨mb, 3, none⟩ = some (.bool S'.off) ∧ W.cell? ⟨mb, 7, none⟩ = some (.int .i64 S'.writes)) := Lib.hid (fun W h => ⟨(h.cell (p := ⟨mb, 2, none⟩) hml (fun h => h)).trans m2, (h.cell (p := ⟨mb, 3, none⟩) hml (fun h => h)).trans m3, (h.cell (p := ⟨mb, 7, none⟩) hml (fun h => h)).trans m7⟩)
              have b1 : (S'.off != S'.off) = false := by simp
              have b2 : ((S'.secs.length : Int) != (S'.secs.length : Int)) = false := by simp
              have b3 : (S'.writes != S'.writes) = false := by simp
              clear hD' hmo hmv' hfit' m2 m3 m7
              go_upto_region 71 with fail
              go_region_held3 (fun W => W.cell? ⟨mb, 2, none⟩ = some (.slice Aw S'.secs.length cw) ∧ W.cell? ⟨mb, 3, none⟩ = some (.bool S'.off) ∧ W.cell? ⟨mb, 7, none⟩ = some (.int .i64 S'.writes))
                (with_reducible exact HS7.out _ (Moves.refl _ w6).drew)
                (first
                  | (go_at_call 18
                     go_must (refine (HO.out _ (Moves.refl _ w6).drew).mono ?_)
                     rintro e w7 ⟨rfl, rfl⟩)
                  | (go_at_call 20
                     go_must (refine (HPD.out _ (Moves.refl _ w6).drew).mono ?_)
                     rintro e w7 ⟨rfl, rfl⟩)
                  | (go_at_call 19
                     go_must (refine (HWR.out _ (Moves.refl _ w6).drew).mono ?_)
                     rintro e w7 ⟨rfl, rfl⟩)
                  | fail)
              go_wp2_with fail
              go_roundg (l.length - (k + 1))
              case measure => omega
              case rel => exact ⟨k + 1, by omega, rfl, by go_num, HPA⟩
            | true =>
              rw [hwh] at a4
              go_wp2_with fail
              have hown0 := part_made wa z a.b (by omega)
              have HO0 := Lib.hid (And.intro hown0 ((Moves.refl (fun _ => False) wa).alloc (.cells (madeCells #[.int .u8 0] z) 5)))
              clear hown0
              generalize wa.alloc (.cells (madeCells #[.int .u8 0] z) 5) = wb at HO0 ⊢
              generalize hgb : wa.heap.size = gb at HO0 ⊢
              have HGB := Lib.hid hgb
              have hbal' : ab < wa.heap.size := hbal
              clear hgb hbal
              have HAL := Lib.hid hbal'
              clear hbal' a4
              go_loopg [15] z (fun gg s15 wq => ∃ i : Nat, i ≤ z ∧ i ≤ a.b.length ∧ gg = z - i ∧ s15 = .int .i64 i ∧ Hid (wq.ownsRow gb 5 1 (.slice (some ⟨gb, 0, none⟩) z z) z ((part z a.b i).map encB) ∧ Moves (fun _ => False) wa wq))
              case atStart => exact ⟨0, Nat.zero_le _, Nat.zero_le _, rfl, rfl, HO0⟩
              case round =>
                obtain ⟨i, hiz, hib, rfl, rfl, HI⟩ := hrel
                have a3' : wr.cell? ⟨ab, 3, none⟩ = some (.slice Ab0 a.b.length cb0) := (HI.out.2.cell (p := ⟨ab, 3, none⟩) HAL.out (fun h => h)).trans a3
                have a0' : wr.cell? ⟨ab, 0, none⟩ = some (.int .i64 a.op) := (HI.out.2.cell (p := ⟨ab, 0, none⟩) HAL.out (fun h => h)).trans a0
                have i0 : (0 : Int) ≤ (i : Int) := by omega
                by_cases h1 : i < z
                · have h1z : (i : Int) < (z : Int) := by omega
                  by_cases h2 : i < a.b.length
                  · have h2z : (i : Int) < (a.b.length : Int) := by omega
                    obtain ⟨gB, oB, rfl, -, hltb, hcellb⟩ := HXB.out (by simpa using (by omega : 0 < a.b.length))
                    obtain ⟨x, hx⟩ : ∃ x, x = a.b[i] := ⟨_, rfl⟩
                    have q : wr.cell? ⟨gB, oB + i, none⟩ = some (.int .u8 x) := ((HWA.out.2.2.trans HI.out.2).cell (p := ⟨gB, oB + i, none⟩) hltb (fun h => h)).trans (hcellb i _ (by rw [List.getElem?_map, List.getElem?_eq_getElem h2, hx]; rfl))
                    obtain ⟨old, q4, f4⟩ : ∃ old, wr.cell? ⟨gb, i, none⟩ = some old ∧ wr.frozen? ⟨gb, i, none⟩ = false := by
                      obtain ⟨A4', c4', e4, -, -, -, -, hx4⟩ := own_form HI.out.1
                      cases e4
                      obtain ⟨g4', e, -, -, hc4⟩ := hx4 (by omega)
                      cases e
                      obtain ⟨cur, hcur⟩ := own_block HI.out.1 rfl
                      exact ⟨_, hc4 i _ (List.getElem?_eq_getElem (by rw [List.length_map, part_len (by omega) (by omega)]; omega)), by simp [World.frozen?, hcur]⟩
                    have hset := own_set HI.out.1 (i := i) (.int .u8 x)
                    have hps : ((part z a.b i).map encB).set i (.int .u8 x) = (part z a.b (i + 1)).map encB := by rw [← part_step h1 h2, hx, List.map_set]
                    rw [hps] at hset
                    have HN : Hid ((wr.setCell ⟨gb, i, none⟩ (.int .u8 x)).ownsRow gb 5 1 (.slice (some ⟨gb, 0, none⟩) z z) z ((part z a.b (i + 1)).map encB) ∧ Moves (fun _ => False) wa (wr.setCell ⟨gb, i, none⟩ (.int .u8 x))) := Lib.hid ⟨hset, HI.out.2.setCell (p := ⟨gb, i, none⟩) (fun (e : gb < wa.heap.size) => by have := HGB.out; omega) _⟩
                    clear hset hps hx hcellb
                    go_wp2_with fail
                    go_roundg (z - (i + 1))
                    case measure => omega
                    case rel => exact ⟨i + 1, by omega, by omega, rfl, by go_num, HN⟩
                  · have h2z : ¬ (i : Int) < (a.b.length : Int) := by omega
                    go_upto_block 6 with fail
                    have hmq := HI.out.2
                    obtain ⟨bs, hbl, hrow⟩ : ∃ bs : List Int, bs.length = z ∧ Row wr (fun k => gb ≤ k) (.slice (some ⟨gb, 0, none⟩) z z) (bs.map encB) := ⟨part z a.b i, part_len (by omega) (by omega), Row.of_owns HI.out.1⟩
                    have HQ : Hid (IsDisk wr base d S ∧ IsModel wr base mb (fun j => j < w.heap.size) S ∧ Moves (fun _ => False) w wr ∧ wr.heap[ab]? = some (.cells #[.int .i64 a.op, .int .i64 a.sector, .int .i64 a.n, .slice Ab0 a.b.length cb0, .bool a.whole, .slice Ak a.keep.length ck] 63 (0, 0)) ∧ Row wr (fun k => ¬ DOwn wr d k ∧ k ≠ mb) (.slice (some ⟨gb, 0, none⟩) z z) (bs.map encB)) := Lib.hid ⟨HWA.out.1.moves0 hmq, HWA.out.2.1.moves0 hmq, HWA.out.2.2.trans hmq, (hmq.block ab HAL.out (fun h => h)).trans HBA.out, hrow.mono (fun q hq _ => by
                      have h1 := HGB.out
                      refine ⟨fun e => ?_, fun e => ?_⟩
                      · have := far_own HWA.out.1 hmq q (by omega) e
                        exact this
                      · obtain ⟨kv3, wv3, kpv3, hm3⟩ := HWA.out.2.1
                        have := (Array.getElem?_eq_some_iff.1 hm3.blk).1
                        omega)⟩
                    clear hrow hmq a0' a3' HI a3 a0
                    subst hbl
                    have hS : Sw w wr base j bs.length d mb ab k S a.op a.sector a.n a.whole (.slice Ab0 a.b.length cb0) Ak ck a.keep (some ⟨gb, 0, none⟩) bs.length bs := ⟨HQ.out.1, HQ.out.2.1, HQ.out.2.2.2.1, HQ.out.2.2.1, HB1.out, HX.out.1, by omega, HQ.out.2.2.2.2, HX.out.2.1, HX.out.2.2.1, HX.out.2.2.2⟩
                    refine sw_all (by kernel_rfl) hS ?_
                    intro u6 u7 u16 u17 u18 u19 u20 u21 u22 u23 u24 u152 u153 u154 u155 u156 u157 u158 u159 u160 u161 u162 u163 u164 u165 u166 u167 u168 u169 u170 u171 u172 u173 u174 u175 u176 u177 u178 u179 u180 u181 u182 u183 u184 u185 u186 u187 u188 u189 u190 u191 u192 u193 u194 u195 u196 u197 u198 u199 u200 u201 u202 u203 u204 u205 u206 u207 u208 u209 u210 u211 u212 u213 u214 u215 u216 u217 u218 u219 u220 u221 u222 u223 u224 u225 u226 u227 u228 u229 u230 u231 u232 u233 u234 u235 u236 u237 u238 u239 u240 u241 u242 u243 u244 u245 u246 u247 u248 u249 u250 u251 u252 u253 u254 u255 u256 u257 u258 u259 u260 u261 u262 u263 u264 u265 u266 u267 u268 u269 u270 u271 u272 u273 u274 u275 u276 u277 u278 u279 u280 u281 u282 u283 u284 u285 u286 u287 u288 u289 u290 u291 u292 u293 u294 u295 u296 u297 u298 u299 u300 u301 w6 hP
                    clear hS
                    obtain ⟨d', S', rfl, hD', hM', hmv', hfit'⟩ := hP
                    have HO := Lib.hid (fun W (h : Moves (fun _ => False) w6 W) => off_any (hD'.moves0 h))
                    have HPD := Lib.hid (fun W (h : Moves (fun _ => False) w6 W) => pending_any (hD'.moves0 h))
                    have HWR := Lib.hid (fun W (h : Moves (fun _ => False) w6 W) => writes_any (hD'.moves0 h))
                    have HPA : Hid (PlayAt w base j bs.length mb (k + 1) (.pointer (some ⟨d', 0, none⟩)) w6.drew) := Lib.hid ⟨d', S', rfl, hD'.moves0 (Moves.refl _ w6).drew, hM'.moves0 (Moves.refl _ w6).drew, hmv'.trans (Moves.refl _ w6).drew, hfit'⟩
                    obtain ⟨kv', wv', kpv', hmo⟩ := hM'
                    obtain ⟨-, -, m2, m3, -, -, -, m7⟩ := hmo.cells
                    have hml := (Array.getElem?_eq_some_iff.1 hmo.blk).1
                    obtain ⟨Aw, cw, rfl, -⟩ := own_form hmo.wait
                    have HS7 : Hid (∀ W, Moves (fun _ => False) w6 W → W.cell? ⟨mb, 2, none⟩ = some (.slice Aw S'.secs.length cw) ∧ W.cell? ⟨mb, 3, none⟩ = some (.bool S'.off) ∧ W.cell? ⟨mb, 7, none⟩ = some (.int .i64 S'.writes)) := Lib.hid (fun W h => ⟨(h.cell (p := ⟨mb, 2, none⟩) hml (fun h => h)).trans m2, (h.cell (p := ⟨mb, 3, none⟩) hml (fun h => h)).trans m3, (h.cell (p := ⟨mb, 7, none⟩) hml (fun h => h)).trans m7⟩)
                    have b1 : (S'.off != S'.off) = false := by simp
                    have b2 : ((S'.secs.length : Int) != (S'.secs.length : Int)) = false := by simp
                    have b3 : (S'.writes != S'.writes) = false := by simp
                    clear hD' hmo hmv' hfit' m2 m3 m7
                    go_upto_region 71 with fail
                    go_region_held3 (fun W => W.cell? ⟨mb, 2, none⟩ = some (.slice Aw S'.secs.length cw) ∧ W.cell? ⟨mb, 3, none⟩ = some (.bool S'.off) ∧ W.cell? ⟨mb, 7, none⟩ = some (.int .i64 S'.writes))
                      (with_reducible exact HS7.out _ (Moves.refl _ w6).drew)
                      (first
                        | (go_at_call 18
                           go_must (refine (HO.out _ (Moves.refl _ w6).drew).mono ?_)
                           rintro e w7 ⟨rfl, rfl⟩)
                        | (go_at_call 20
                           go_must (refine (HPD.out _ (Moves.refl _ w6).drew).mono ?_)
                           rintro e w7 ⟨rfl, rfl⟩)
                        | (go_at_call 19
                           go_must (refine (HWR.out _ (Moves.refl _ w6).drew).mono ?_)
                           rintro e w7 ⟨rfl, rfl⟩)
                        | fail)
                    go_wp2_with fail
                    go_roundg (l.length - (k + 1))
                    case measure => omega
                    case rel => exact ⟨k + 1, by omega, rfl, by go_num, HPA⟩
                · have h1z : ¬ (i : Int) < (z : Int) := by omega
                  go_upto_block 6 with fail
                  have hmq := HI.out.2
                  obtain ⟨bs, hbl, hrow⟩ : ∃ bs : List Int, bs.length = z ∧ Row wr (fun k => gb ≤ k) (.slice (some ⟨gb, 0, none⟩) z z) (bs.map encB) := ⟨part z a.b i, part_len (by omega) (by omega), Row.of_owns HI.out.1⟩
                  have HQ : Hid (IsDisk wr base d S ∧ IsModel wr base mb (fun j => j < w.heap.size) S ∧ Moves (fun _ => False) w wr ∧ wr.heap[ab]? = some (.cells #[.int .i64 a.op, .int .i64 a.sector, .int .i64 a.n, .slice Ab0 a.b.length cb0, .bool a.whole, .slice Ak a.keep.length ck] 63 (0, 0)) ∧ Row wr (fun k => ¬ DOwn wr d k ∧ k ≠ mb) (.slice (some ⟨gb, 0, none⟩) z z) (bs.map encB)) := Lib.hid ⟨HWA.out.1.moves0 hmq, HWA.out.2.1.moves0 hmq, HWA.out.2.2.trans hmq, (hmq.block ab HAL.out (fun h => h)).trans HBA.out, hrow.mono (fun q hq _ => by
                    have h1 := HGB.out
                    refine ⟨fun e => ?_, fun e => ?_⟩
                    · have := far_own HWA.out.1 hmq q (by omega) e
                      exact this
                    · obtain ⟨kv3, wv3, kpv3, hm3⟩ := HWA.out.2.1
                      have := (Array.getElem?_eq_some_iff.1 hm3.blk).1
                      omega)⟩
                  clear hrow hmq a0' a3' HI a3 a0
                  subst hbl
                  have hS : Sw w wr base j bs.length d mb ab k S a.op a.sector a.n a.whole (.slice Ab0 a.b.length cb0) Ak ck a.keep (some ⟨gb, 0, none⟩) bs.length bs := ⟨HQ.out.1, HQ.out.2.1, HQ.out.2.2.2.1, HQ.out.2.2.1, HB1.out, HX.out.1, by omega, HQ.out.2.2.2.2, HX.out.2.1, HX.out.2.2.1, HX.out.2.2.2⟩
                  refine sw_all (by kernel_rfl) hS ?_
                  intro u6 u7 u16 u17 u18 u19 u20 u21 u22 u23 u24 u152 u153 u154 u155 u156 u157 u158 u159 u160 u161 u162 u163 u164 u165 u166 u167 u168 u169 u170 u171 u172 u173 u174 u175 u176 u177 u178 u179 u180 u181 u182 u183 u184 u185 u186 u187 u188 u189 u190 u191 u192 u193 u194 u195 u196 u197 u198 u199 u200 u201 u202 u203 u204 u205 u206 u207 u208 u209 u210 u211 u212 u213 u214 u215 u216 u217 u218 u219 u220 u221 u222 u223 u224 u225 u226 u227 u228 u229 u230 u231 u232 u233 u234 u235 u236 u237 u238 u239 u240 u241 u242 u243 u244 u245 u246 u247 u248 u249 u250 u251 u252 u253 u254 u255 u256 u257 u258 u259 u260 u261 u262 u263 u264 u265 u266 u267 u268 u269 u270 u271 u272 u273 u274 u275 u276 u277 u278 u279 u280 u281 u282 u283 u284 u285 u286 u287 u288 u289 u290 u291 u292 u293 u294 u295 u296 u297 u298 u299 u300 u301 w6 hP
                  clear hS
                  obtain ⟨d', S', rfl, hD', hM', hmv', hfit'⟩ := hP
                  have HO := Lib.hid (fun W (h : Moves (fun _ => False) w6 W) => off_any (hD'.moves0 h))
                  have HPD := Lib.hid (fun W (h : Moves (fun _ => False) w6 W) => pending_any (hD'.moves0 h))
                  have HWR := Lib.hid (fun W (h : Moves (fun _ => False) w6 W) => writes_any (hD'.moves0 h))
                  have HPA : Hid (PlayAt w base j bs.length mb (k + 1) (.pointer (some ⟨d', 0, none⟩)) w6.drew) := Lib.hid ⟨d', S', rfl, hD'.moves0 (Moves.refl _ w6).drew, hM'.moves0 (Moves.refl _ w6).drew, hmv'.trans (Moves.refl _ w6).drew, hfit'⟩
                  obtain ⟨kv', wv', kpv', hmo⟩ := hM'
                  obtain ⟨-, -, m2, m3, -, -, -, m7⟩ := hmo.cells
                  have hml := (Array.getElem?_eq_some_iff.1 hmo.blk).1
                  obtain ⟨Aw, cw, rfl, -⟩ := own_form hmo.wait
                  have HS7 : Hid (∀ W, Moves (fun _ => False) w6 W → W.cell? ⟨mb, 2, none⟩ = some (.slice Aw S'.secs.length cw) ∧ W.cell? ⟨mb, 3, none⟩ = some (.bool S'.off) ∧ W.cell? ⟨mb, 7, none⟩ = some (.int .i64 S'.writes)) := Lib.hid (fun W h => ⟨(h.cell (p := ⟨mb, 2, none⟩) hml (fun h => h)).trans m2, (h.cell (p := ⟨mb, 3, none⟩) hml (fun h => h)).trans m3, (h.cell (p := ⟨mb, 7, none⟩) hml (fun h => h)).trans m7⟩)
                  have b1 : (S'.off != S'.off) = false := by simp
                  have b2 : ((S'.secs.length : Int) != (S'.secs.length : Int)) = false := by simp
                  have b3 : (S'.writes != S'.writes) = false := by simp
                  clear hD' hmo hmv' hfit' m2 m3 m7
                  go_upto_region 71 with fail
                  go_region_held3 (fun W => W.cell? ⟨mb, 2, none⟩ = some (.slice Aw S'.secs.length cw) ∧ W.cell? ⟨mb, 3, none⟩ = some (.bool S'.off) ∧ W.cell? ⟨mb, 7, none⟩ = some (.int .i64 S'.writes))
                    (with_reducible exact HS7.out _ (Moves.refl _ w6).drew)
                    (first
                      | (go_at_call 18
                         go_must (refine (HO.out _ (Moves.refl _ w6).drew).mono ?_)
                         rintro e w7 ⟨rfl, rfl⟩)
                      | (go_at_call 20
                         go_must (refine (HPD.out _ (Moves.refl _ w6).drew).mono ?_)
                         rintro e w7 ⟨rfl, rfl⟩)
                      | (go_at_call 19
                         go_must (refine (HWR.out _ (Moves.refl _ w6).drew).mono ?_)
                         rintro e w7 ⟨rfl, rfl⟩)
                      | fail)
                  go_wp2_with fail
                  go_roundg (l.length - (k + 1))
                  case measure => omega
                  case rel => exact ⟨k + 1, by omega, rfl, by go_num, HPA⟩
        · obtain rfl : k = l.length := by omega
          have hkz : ¬ (l.length : Int) < (l.length : Int) := by omega
          obtain ⟨d, S, rfl, hD, hM, hmv, hfit⟩ := HP.out
          clear HP
          obtain ⟨wo, rfl⟩ : ∃ x, x = wr := ⟨wr, rfl⟩
          obtain ⟨kv, wv, kpv, hmo⟩ := hM
          obtain ⟨-, m1, -⟩ := hmo.cells
          have hkl := hfit.kept
          have hsz := hfit.size
          obtain ⟨Ak, ck, rfl, -, -, -, -, hxk⟩ := own_form hmo.kept
          obtain ⟨gk, rfl, -, hgl, hck⟩ := hxk (by omega)
          rw [hkl] at m1
          have hcell : ∀ i (h : i < S.kept.length), wo.cell? ⟨gk, i, none⟩ = some (.string (strOfNums S.kept[i])) := fun i h => hck i _ (by rw [List.getElem?_map, List.getElem?_eq_getElem h]; rfl)
          have HC := Lib.hid hcell
          have HSH := Lib.hid (shape_any hD)
          rw [hkl, hsz] at HSH
          have HY := Lib.hid (And.intro hD (And.intro hmv (And.intro hkl hsz)))
          clear hcell hck hxk hD hmv hmo hfit hkl hsz
          go_wp2_with fail
          go_loopg [25, 26] j (fun gg s25 s26 wq => ∃ i : Nat, i ≤ j ∧ gg = j - i ∧ s26 = .int .i64 i ∧ s25 = .string (strOfNums (S.kept.take i).flatten) ∧ wq = wo)
          case atStart => exact ⟨0, Nat.zero_le _, rfl, rfl, rfl, rfl⟩
          case round =>
            obtain ⟨i, hi, rfl, rfl, rfl, rfl⟩ := hrel
            by_cases hij : i < j
            · have hijz : (i : Int) < (j : Int) := by omega
              have i0 : (0 : Int) ≤ (i : Int) := by omega
              have hik : i < S.kept.length := by have := HY.out.2.2.1; omega
              have q := HC.out i hik
              have HF : Hid (strOfNums (S.kept.take i).flatten ++ strOfNums S.kept[i] = strOfNums (S.kept.take (i + 1)).flatten) := Lib.hid (by rw [strOfNums_append, flat_succ hik])
              have hsum : (strOfNums (S.kept.take i).flatten).size + (strOfNums S.kept[i]).size ≤ 9223372036854775807 := by
                obtain ⟨_, _, _, _, _, _, h⟩ := HY.out.1
                have h1 := tot_le h.wf i (by omega)
                have h2 := h.wf _ (List.getElem_mem hik)
                have h3 : i * S.size ≤ 64 * 256 := Nat.mul_le_mul (by omega) (by rw [HY.out.2.2.2]; omega)
                have h4 := HY.out.2.2.2
                unfold tot at h1
                rw [strOfNums_size, strOfNums_size, h2]
                omega
              have hadd := fun W => run_string_add_sum (P := Try.prog) W _ _ hsum
              generalize strOfNums S.kept[i] = s2 at q HF hadd hsum
              clear hik
              generalize strOfNums (S.kept.take i).flatten = s1 at HF hadd hsum ⊢
              clear hsum
              go_wp2_with fail
              go_roundg (j - (i + 1))
              case measure => omega
              case rel => exact ⟨i + 1, by omega, rfl, by go_num, by rw [← HF.out], rfl⟩
            · obtain rfl : i = j := by omega
              have hijz : ¬ (i : Int) < (i : Int) := by omega
              have ht : (S.kept.take i).flatten = S.kept.flatten := by rw [List.take_of_length_le (by have := HY.out.2.2.1; omega)]
              rw [ht]
              clear ht
              go_wp2_with fail
              refine HSH.out.mono ?_
              rintro e w5 ⟨rfl, hm5⟩
              have HBY := Lib.hid (bytes_any (HY.out.1.moves0 hm5) (by rw [HY.out.2.2.2]; omega) (by rw [HY.out.2.2.1]; omega) rfl)
              have HM5 := Lib.hid (HY.out.2.1.trans hm5)
              clear hm5 HSH
              go_wp2_with fail
              refine HBY.out.mono ?_
              rintro e w6 ⟨v6, rfl, hrow, hm6⟩
              have hcv := conv_row hrow
              have HM6 := Lib.hid (HM5.out.trans hm6)
              clear hrow hm6 HBY
              generalize strOfNums S.kept.flatten = s1 at hcv ⊢
              go_wp2
              go_ret
              exact ⟨rfl, HM6.out⟩
end Go.Proofs.Ytbfnmgjpkieaoaa.Pl

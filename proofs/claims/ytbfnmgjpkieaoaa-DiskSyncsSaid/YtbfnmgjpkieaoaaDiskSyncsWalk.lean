/-
  The walk of DiskSyncs: what was synced outlasts any cut; what was not is lost, sector by sector, as the cut keeps it.
-/
import Derived.Test.YtbfnmgjpkieaoaaDiskKnown
namespace Go.Proofs.Ytbfnmgjpkieaoaa.Pl
open Go Go.RowKit Go.Maps Go.Sort Go.Proofs

/-- The disk of a play of writes: K is kept, i of the writes are pending. -/
def S1 (K : List (List Int)) (F : List Int) (f : Nat → List Int) (n0 i : Nat) : DS := { size := 64, kept := K, secs := F.take i, data := (List.range i).map f, off := false, armed := false, left := 0, keep := [], writes := (n0 : Int) + i }
theorem s1_succ (K : List (List Int)) {F : List Int} (f : Nat → List Int) (n0 : Nat) {i : Nat} (h : i < F.length) : putS (S1 K F f n0 i) F[i] (f i) = S1 K F f n0 (i + 1) := by
  simp only [putS, pendS, S1, List.take_succ_eq_append_getElem h, List.range_succ, List.map_append, List.map_cons, List.map_nil]
  congr 1
theorem putN_congr (K : List (List Int)) {ss : List Int} {ds : List (List Int)} (x : Int) (b : List Int) (kp : Nat → Bool) {n : Nat} (h1 : n ≤ ss.length) (h2 : n ≤ ds.length) : putN K (ss ++ [x]) (ds ++ [b]) kp n = putN K ss ds kp n := by
  induction n with
  | zero => rfl
  | succ n ih =>
    rw [putN_succ, putN_succ, ih (by omega) (by omega), sF_append _ _ (by omega)]
    congr 2
    rw [List.getD_eq_getElem?_getD, List.getD_eq_getElem?_getD, List.getElem?_append_left (by omega)]
def hd (l : List Int) : Int := l.headD 0
theorem hd_front (x : Int) : hd (front x) = x := rfl
/-- The first bytes of the sectors, were i of the writes settled. -/
def wantL (K : List (List Int)) (F : List Int) (f : Nat → List Int) (kp : Nat → Bool) (i : Nat) : List Int := (putN K (F.take i) ((List.range i).map f) kp i).map hd
theorem wantL_succ (K : List (List Int)) {F : List Int} (f : Nat → List Int) (kp : Nat → Bool) {i : Nat} (h : i < F.length) : wantL K F f kp (i + 1) = if kp i then (wantL K F f kp i).set F[i].toNat (hd (f i)) else wantL K F f kp i := by
  have h1 : (F.take i).length = i := by simp; omega
  have h2 : ((List.range i).map f).length = i := by simp
  unfold wantL
  rw [List.take_succ_eq_append_getElem h, List.range_succ, List.map_append, List.map_cons, List.map_nil, putN_succ, putN_congr K _ _ kp (by omega) (by omega)]
  have e1 : sF (F.take i ++ [F[i]]) i = F[i] := by
    have := sF_last (F.take i) F[i]
    rwa [h1] at this
  have e2 : ((List.range i).map f ++ [f i]).getD i [] = f i := by
    rw [List.getD_eq_getElem?_getD, List.getElem?_append_right (by omega)]
    simp [h2]
  rw [e1, e2]
  split
  · rw [List.map_set]
  · rfl
theorem wantL_len (K : List (List Int)) (F : List Int) (f : Nat → List Int) (kp : Nat → Bool) (i : Nat) : (wantL K F f kp i).length = K.length := by simp [wantL, putN_len]
/-- The array of bytes that are wanted. -/
def WantAt (w : World) (ab : Nat) (W : List Int) : Prop := ∃ cs, w.heap[ab]? = some (.cells cs 33 (0, 0)) ∧ cs.toList = W.map encB
theorem WantAt.cell {w : World} {ab : Nat} {W : List Int} (h : WantAt w ab W) {j : Nat} (hj : j < W.length) : w.cell? ⟨ab, j, none⟩ = some (.int .u8 W[j]) ∧ w.frozen? ⟨ab, j, none⟩ = false ∧ ab < w.heap.size := by
  obtain ⟨cs, hb, hl⟩ := h
  refine ⟨?_, by simp [World.frozen?, hb], (Array.getElem?_eq_some_iff.1 hb).1⟩
  simp only [World.cell?, hb, Option.isSome_none, Bool.false_eq_true, if_false]
  rw [← Array.getElem?_toList, hl]
  simp [hj]
theorem WantAt.set {w : World} {ab : Nat} {W : List Int} (h : WantAt w ab W) (j : Nat) (x : Int) : WantAt (w.setCell ⟨ab, j, none⟩ (.int .u8 x)) ab (W.set j x) := by
  obtain ⟨cs, hb, hl⟩ := h
  refine ⟨cs.setIfInBounds j (.int .u8 x), by simp [World.setCell, Array.getElem?_modify, hb], ?_⟩
  rw [Array.toList_setIfInBounds, hl, List.map_set]
theorem WantAt.after {w0 w w' : World} {d ab : Nat} {S : DS} {W : List Int} (h : WantAt w ab W) (hd : IsDisk w w0.heap.size d S) (hm : Moves (DOwn w d) w w') : WantAt w' ab W := by
  obtain ⟨cs, hb, hl⟩ := h
  exact ⟨cs, hd.after hm hb (by decide) (by decide), hl⟩
theorem WantAt.moves0 {w w' : World} {ab : Nat} {W : List Int} (h : WantAt w ab W) (hm : Moves (fun _ => False) w w') : WantAt w' ab W := by
  obtain ⟨cs, hb, hl⟩ := h
  exact ⟨cs, (hm.block ab (Array.getElem?_eq_some_iff.1 hb).1 (fun h => h)).trans hb, hl⟩
/-- A store into a block of another kind leaves the disk as it is. -/
theorem IsDisk.poke {w : World} {base d ab : Nat} {S : DS} {cs : Array Value} (h : IsDisk w base d S) (hb : w.heap[ab]? = some (.cells cs 33 (0, 0))) (j : Nat) (v : Value) : IsDisk (w.setCell ⟨ab, j, none⟩ v) base d S := by
  obtain ⟨kv, kvs, m, D, pvs, kpv, h⟩ := h
  have hm : Moves (fun k => k = ab) w (w.setCell ⟨ab, j, none⟩ v) := Moves.setCell (p := ⟨ab, j, none⟩) (Moves.refl (fun k => k = ab) w) (fun _ => rfl) _
  have hne : ∀ (g : Nat) (cs' : Array Value) (t : TypeId) (fr : Nat × Nat), w.heap[g]? = some (.cells cs' t fr) → t ≠ 33 → ¬ g = ab := fun g cs' t fr hg ht e => by
    rw [e, hb] at hg
    injection hg with hg
    injection hg with _ h1
    exact ht h1.symm
  have hsec : ∀ a b, Sec w base a b → Sec (w.setCell ⟨ab, j, none⟩ v) base a b := fun _ _ hab => hab.moves hm (fun g cs' hg => hne g cs' _ _ hg (by decide))
  refine ⟨kv, kvs, m, D, pvs, kpv, (hm.block d (Array.getElem?_eq_some_iff.1 h.blk).1 (hne d _ _ _ h.blk (by decide))).trans h.blk, h.hd, own_moves h.kept hm (fun g hg => ?_), h.secs.mono hsec, h.hm, hm.ownsMap h.map (fun e => ?_), h.pend, h.data.mono hsec, h.len, own_moves h.keep hm (fun g hg => ?_), h.wf, h.wfd, h.wfs, h.few⟩
  · obtain ⟨cur, hc⟩ := own_block h.kept hg
    exact hne g cur _ _ hc (by decide)
  · have e : m = ab := e
    obtain ⟨es, ck, hb', _⟩ := h.map
    rw [e, hb] at hb'
    cases hb'
  · obtain ⟨cur, hc⟩ := own_block h.keep hg
    exact hne g cur _ _ hc (by decide)
theorem settle_S1 (K : List (List Int)) (F G : List Int) (f f2 : Nat → List Int) (n0 : Nat) (kp : Nat → Bool) : settleS (S1 K F f n0 F.length) kp = S1 (putN K F ((List.range F.length).map f) kp F.length) G f2 (n0 + F.length) 0 := by
  simp [settleS, S1]
theorem want_start (K : List (List Int)) (F G : List Int) (f f2 : Nat → List Int) (kp kp2 : Nat → Bool) : wantL K F f kp F.length = wantL (putN K F ((List.range F.length).map f) kp F.length) G f2 kp2 0 := by
  simp [wantL, putN_zero]
theorem cut_S1 (K : List (List Int)) (G : List Int) (f2 : Nat → List Int) (n0 : Nat) (B : List Bool) : cutS (S1 K G f2 n0 G.length) B = { S1 (putN K G ((List.range G.length).map f2) (fun j => B.getD j false) G.length) G f2 n0 0 with off := true, writes := (n0 : Int) + G.length } := by
  simp [cutS, settleS, S1]
theorem zero256 : (Try.zeroCells33).toList = (List.replicate 256 (0 : Int)).map encB := by kernel_rfl

set_option maxRecDepth 100000 in
set_option maxHeartbeats 4000000 in
theorem disk_syncs (w : World) {v0 v1 v2 : Value} {F G : List Int} {B : List Bool} {L0 L1 L2 : Nat → Prop} (r0 : Row w L0 v0 (F.map encB)) (r1 : Row w L1 v1 (G.map encB)) (r2 : Row w L2 v2 (B.map .bool)) (hF : ∀ x ∈ F, 0 ≤ x ∧ x ≤ 255) (hG : ∀ x ∈ G, 0 ≤ x ∧ x ≤ 255) :
    Calls Try.prog 4 #[v0, v1, v2] w (TruePost w) := by
  have HR := Lib.hid (And.intro r0 (And.intro r1 r2))
  obtain ⟨A0, c0, rfl, hc0, -⟩ := r0
  obtain ⟨A1, c1, rfl, hc1, -⟩ := r1
  obtain ⟨A2, c2, rfl, hc2, -⟩ := r2
  rw [List.length_map] at hc0 hc1 hc2
  have l0 : (F.map encB).length = F.length := List.length_map _
  have l1 : (G.map encB).length = G.length := List.length_map _
  have l2 : (B.map Value.bool).length = B.length := List.length_map _
  have HK := Lib.hid (known_any w)
  rw [l0, l1, l2] at HR ⊢
  clear l0 l1 l2
  by_cases h1 : 40 < F.length
  · have e1 : (40 : Int) < F.length := by omega
    clear HR
    go_enter Try.func4, Try.ntmps4
    go_wp2_with fail
    refine HK.out.mono ?_
    rintro e w1 ⟨rfl, hm1⟩
    go_wp2
    go_ret
    exact ⟨rfl, hm1⟩
  have e1 : ¬ (40 : Int) < F.length := by omega
  by_cases h2 : 40 < G.length
  · have e2 : (40 : Int) < G.length := by omega
    clear HR
    go_enter Try.func4, Try.ntmps4
    go_wp2_with fail
    refine HK.out.mono ?_
    rintro e w1 ⟨rfl, hm1⟩
    go_wp2
    go_ret
    exact ⟨rfl, hm1⟩
  have e2 : ¬ (40 : Int) < G.length := by omega
  by_cases h3 : 100 < B.length
  · have e3 : (100 : Int) < B.length := by omega
    clear HR
    go_enter Try.func4, Try.ntmps4
    go_wp2_with fail
    refine HK.out.mono ?_
    rintro e w1 ⟨rfl, hm1⟩
    go_wp2
    go_ret
    exact ⟨rfl, hm1⟩
  have n0 : ¬ (40 : Int) < F.length := by omega
  have n1 : ¬ (40 : Int) < G.length := by omega
  have n2 : ¬ (100 : Int) < B.length := by omega
  have n3 : F.length ≤ 40 ∧ G.length ≤ 40 ∧ B.length ≤ 100 := by omega
  clear h1 h2 h3 e1 e2
  go_enter Try.func4, Try.ntmps4
  go_wp2_with fail
  refine HK.out.mono ?_
  rintro e w1 ⟨rfl, hm1⟩
  have HNEW := Lib.hid (new_ok (n := 256) (z := 64) (by omega) (by omega) w1)
  clear HK
  go_wp2_with fail
  refine HNEW.out.mono ?_
  rintro e w2 ⟨d, rfl, h2, hm2⟩
  have HA := Lib.hid (And.intro h2 (And.intro hm1 hm2))
  clear h2 hm1 hm2 HNEW
  obtain ⟨h2, hm1, hm2⟩ := HA.out
  have hma := (Moves.refl (fun _ => False) w2).alloc (.cells Try.zeroCells33 33)
  have hW0 : WantAt (w2.alloc (.cells Try.zeroCells33 33)) w2.heap.size (wantL (List.replicate 256 (List.replicate 64 0)) F (fun j => front ((j : Int) + 1)) (fun _ => true) 0) := ⟨_, heap_alloc_new _ _, by rw [zero256]; rfl⟩
  have HB := Lib.hid (And.intro (h2.moves0 hma) (And.intro hW0 (And.intro (hm2.trans hma) hm1)))
  have hab : w2.heap.size < (w2.alloc (.cells Try.zeroCells33 33)).heap.size := by simp
  have hlo := hm2.size
  clear h2 hm1 hm2 hma hW0 HA
  have hmk := mk64
  go_wp2_with fail
  generalize w2.heap.size = ab at HB hab hlo ⊢
  generalize w2.alloc (.cells Try.zeroCells33 33) = w3 at HB hab ⊢
  go_loopg [10] F.length (fun gg s10 wr => ∃ i : Nat, i ≤ F.length ∧ gg = F.length - i ∧ s10 = .int .i64 i ∧ IsDisk wr w1.heap.size d (S1 (List.replicate 256 (List.replicate 64 0)) F (fun j => front ((j : Int) + 1)) 0 i) ∧ WantAt wr ab (wantL (List.replicate 256 (List.replicate 64 0)) F (fun j => front ((j : Int) + 1)) (fun _ => true) i) ∧ Moves (fun _ => False) w1 wr)
  case atStart => exact ⟨0, Nat.zero_le _, rfl, rfl, HB.out.1, HB.out.2.1, HB.out.2.2.1⟩
  case round =>
    obtain ⟨i, hi, hgi, rfl, hD, hW, hm⟩ := hrel
    by_cases hil : i < F.length
    · obtain ⟨Ax, cx, hvx, -, hx⟩ := HR.out.1
      rw [List.length_map] at hvx
      cases hvx
      obtain ⟨g0, o0, rfl, -, hgl0, hcell⟩ := hx (by rw [List.length_map]; omega)
      have hmw : Moves (fun _ => False) w wr := HB.out.2.2.2.trans hm
      have hv0 : wr.cell? ⟨g0, o0 + i, none⟩ = some (.int .u8 F[i]) := (hmw.cell (p := ⟨g0, o0 + i, none⟩) hgl0 (fun h => h)).trans (hcell i _ (by simp [hil]))
      have hxr := hF F[i] (List.getElem_mem hil)
      have b0 : (0 : Int) ≤ (i : Int) := by omega
      have b1 : (i : Int) < (F.length : Int) := by omega
      obtain ⟨x0, f0⟩ := made_cells wr
      have hwp : IntKind.i64.wrap ((i : Int) + 1) = (i : Int) + 1 := IntWalk.i64_in _ (by omega)
      have hgw := Nat.lt_of_lt_of_le hgl0 hmw.size
      have hm4 : Moves (fun _ => False) wr (wr.alloc (.cells ((madeCells #[.int .u8 0] 64).setIfInBounds 0 (.int .u8 ((i : Int) + 1))) 5)) := (Moves.refl _ wr).alloc _
      have hv4 : (wr.alloc (.cells ((madeCells #[.int .u8 0] 64).setIfInBounds 0 (.int .u8 ((i : Int) + 1))) 5)).cell? ⟨g0, o0 + i, none⟩ = some (.int .u8 F[i]) := (World.cell?_alloc_lt wr _ ⟨g0, o0 + i, none⟩ hgw).trans hv0
      have hx4 : (wr.alloc (.cells ((madeCells #[.int .u8 0] 64).setIfInBounds 0 (.int .u8 ((i : Int) + 1))) 5)).heap[wr.heap.size]? = some (.cells (cs7 ((i : Int) + 1)) 5 (0, 0)) := heap_alloc_new _ _
      have hin : inS (S1 (List.replicate 256 (List.replicate 64 0)) F (fun j => front ((j : Int) + 1)) 0 i) F[i] = true := by simp [inS, S1]; omega
      have HWR := Lib.hid (write_ok (hD.moves0 hm4) rfl rfl hin (front_row hx4 ((i : Int) + 1) (cs7_list _)) (front_len _) (by simp [S1]) (by simp [S1]) (by simp [S1]; omega) (by simp [S1]; omega))
      have hs1 : putS (S1 (List.replicate 256 (List.replicate 64 0)) F (fun j => front ((j : Int) + 1)) 0 i) F[i] (front ((i : Int) + 1)) = S1 (List.replicate 256 (List.replicate 64 0)) F (fun j => front ((j : Int) + 1)) 0 (i + 1) := s1_succ _ _ 0 hil
      have hwl := wantL_succ (List.replicate 256 (List.replicate 64 0)) (fun j => front ((j : Int) + 1)) (fun _ => true) hil
      rw [hs1] at HWR
      have HD := Lib.hid (And.intro (hD.moves0 hm4) (And.intro (hW.moves0 hm4) (hm.trans hm4)))
      have HWL := Lib.hid hwl
      clear hD hW hm hcell hx hs1 hwl hx4 hm4 hin
      generalize F[i] = x at hv0 hv4 hxr HWR HWL
      go_wp2_with fail
      refine HWR.out.mono ?_
      rintro e w5 ⟨rfl, h5, hm5⟩
      have hM5 := HD.out.1.under HD.out.2.2 hm5
      have hW5 := HD.out.2.1.after HD.out.1 hm5
      obtain ⟨xn, rfl⟩ : ∃ xn : Nat, x = xn := ⟨x.toNat, by omega⟩
      have hlen : (wantL (List.replicate 256 (List.replicate 64 0)) F (fun j => front ((j : Int) + 1)) (fun _ => true) i).length = 256 := by rw [wantL_len]; simp
      obtain ⟨q1, q2, q3⟩ := hW5.cell (j := xn) (by rw [hlen]; omega)
      have hv5 : w5.cell? ⟨g0, o0 + i, none⟩ = some (.int .u8 xn) := ((HB.out.2.2.2.trans hM5).cell (p := ⟨g0, o0 + i, none⟩) hgl0 (fun h => h)).trans (((HB.out.2.2.2.trans (HD.out.2.2)).cell (p := ⟨g0, o0 + i, none⟩) hgl0 (fun h => h)).symm.trans hv4)
      have H5 := Lib.hid (And.intro h5 (And.intro hW5 hM5))
      generalize (wantL (List.replicate 256 (List.replicate 64 0)) F (fun j => front ((j : Int) + 1)) (fun _ => true) i)[xn] = old at q1
      have d0 : (0 : Int) ≤ (xn : Int) := by omega
      have d1 : (xn : Int) < 256 := by omega
      clear h5 hm5 hM5 hW5 HD hv4 hv0 HWR x0 f0
      go_wp2_with fail
      obtain ⟨h5, hW5, hM5⟩ := H5.out
      have hb6 := hW5
      obtain ⟨cs6, hb6, -⟩ := hb6
      have h6 := h5.poke hb6 xn (.int .u8 ((i : Int) + 1))
      have hW6 := hW5.set xn ((i : Int) + 1)
      have hM6 : Moves (fun _ => False) w1 (w5.setCell ⟨ab, xn, none⟩ (.int .u8 ((i : Int) + 1))) := Moves.setCell (p := ⟨ab, xn, none⟩) hM5 (fun hlt => absurd hlt (by simp only; omega)) _
      have hwl := HWL.out
      simp only [if_true, Int.toNat_natCast, hd_front] at hwl
      rw [← hwl] at hW6
      have H6 := Lib.hid (And.intro h6 (And.intro hW6 hM6))
      clear h5 hW5 hM5 hb6 h6 hW6 hM6 hwl H5 q1 q2 q3 hv5
      go_roundg (F.length - (i + 1))
      case measure => omega
      case rel => exact ⟨i + 1, by omega, rfl, by go_num, H6.out.1, H6.out.2.1, H6.out.2.2⟩
    · obtain rfl : i = F.length := by omega
      have hst := settle_S1 (List.replicate 256 (List.replicate 64 0)) F G (fun j => front ((j : Int) + 1)) (fun j => front (100 + (j : Int))) 0 (fun _ => true)
      rw [Nat.zero_add] at hst
      have hws := want_start (List.replicate 256 (List.replicate 64 0)) F G (fun j => front ((j : Int) + 1)) (fun j => front (100 + (j : Int))) (fun _ => true) (fun j => B.getD j false)
      have HSY := Lib.hid (sync_on hD rfl)
      rw [hst] at HSY
      rw [hws] at hW
      have hKl : (putN (List.replicate 256 (List.replicate 64 0)) F ((List.range F.length).map fun (j : Nat) => front ((j : Int) + 1)) (fun _ => true) F.length).length = 256 := by rw [putN_len]; simp
      generalize putN (List.replicate 256 (List.replicate 64 0)) F ((List.range F.length).map fun (j : Nat) => front ((j : Int) + 1)) (fun _ => true) F.length = K at HSY hW hKl
      have HD := Lib.hid (And.intro hD (And.intro hW hm))
      clear hD hW hm hst hws
      go_wp2_with fail
      refine HSY.out.mono ?_
      rintro e w4 ⟨rfl, h4, hm4⟩
      have hM4 := HD.out.1.under HD.out.2.2 hm4
      have hW4 := HD.out.2.1.after HD.out.1 hm4
      have HE := Lib.hid (And.intro h4 (And.intro hW4 hM4))
      have HKL := Lib.hid hKl
      clear h4 hW4 hM4 hm4 HD HSY hKl
      go_wp2_with fail
      go_loopg [12] G.length (fun gg s12 wr => ∃ i : Nat, i ≤ G.length ∧ gg = G.length - i ∧ s12 = .int .i64 i ∧ IsDisk wr w1.heap.size d (S1 K G (fun j => front (100 + (j : Int))) F.length i) ∧ WantAt wr ab (wantL K G (fun j => front (100 + (j : Int))) (fun j => B.getD j false) i) ∧ Moves (fun _ => False) w1 wr)
      case atStart => exact ⟨0, Nat.zero_le _, rfl, rfl, HE.out.1, HE.out.2.1, HE.out.2.2⟩
      case round =>
        obtain ⟨i, hi, hgi, rfl, hD, hW, hm⟩ := hrel
        by_cases hil : i < G.length
        · obtain ⟨Ax, cx, hvx, -, hx⟩ := HR.out.2.1
          rw [List.length_map] at hvx
          cases hvx
          obtain ⟨g0, o0, rfl, -, hgl0, hcell⟩ := hx (by rw [List.length_map]; omega)
          have hmw : Moves (fun _ => False) w wr := HB.out.2.2.2.trans hm
          have hv0 : wr.cell? ⟨g0, o0 + i, none⟩ = some (.int .u8 G[i]) := (hmw.cell (p := ⟨g0, o0 + i, none⟩) hgl0 (fun h => h)).trans (hcell i _ (by simp [hil]))
          have hxr := hG G[i] (List.getElem_mem hil)
          have b0 : (0 : Int) ≤ (i : Int) := by omega
          have b1 : (i : Int) < (G.length : Int) := by omega
          obtain ⟨x0, f0⟩ := made_cells wr
          have hwp : IntKind.i64.wrap (100 + (i : Int)) = 100 + (i : Int) := IntWalk.i64_in _ (by omega)
          have hgw := Nat.lt_of_lt_of_le hgl0 hmw.size
          have hm4 : Moves (fun _ => False) wr (wr.alloc (.cells ((madeCells #[.int .u8 0] 64).setIfInBounds 0 (.int .u8 (100 + (i : Int)))) 5)) := (Moves.refl _ wr).alloc _
          have hv4 : (wr.alloc (.cells ((madeCells #[.int .u8 0] 64).setIfInBounds 0 (.int .u8 (100 + (i : Int)))) 5)).cell? ⟨g0, o0 + i, none⟩ = some (.int .u8 G[i]) := (World.cell?_alloc_lt wr _ ⟨g0, o0 + i, none⟩ hgw).trans hv0
          have hx4 : (wr.alloc (.cells ((madeCells #[.int .u8 0] 64).setIfInBounds 0 (.int .u8 (100 + (i : Int)))) 5)).heap[wr.heap.size]? = some (.cells (cs7 (100 + (i : Int))) 5 (0, 0)) := heap_alloc_new _ _
          have hin : inS (S1 K G (fun j => front (100 + (j : Int))) F.length i) G[i] = true := by unfold inS; rw [decide_eq_true_iff]; show 0 ≤ G[i] ∧ G[i] < ((K.length : Nat) : Int); have := HKL.out; omega
          have HWR := Lib.hid (write_ok (hD.moves0 hm4) rfl rfl hin (front_row hx4 (100 + (i : Int)) (cs7_list _)) (front_len _) (by simp [S1]) (by simp [S1]) (by simp [S1]; omega) (by simp [S1]; omega))
          have hs1 : putS (S1 K G (fun j => front (100 + (j : Int))) F.length i) G[i] (front (100 + (i : Int))) = S1 K G (fun j => front (100 + (j : Int))) F.length (i + 1) := s1_succ _ _ F.length hil
          have hwl := wantL_succ K (fun j => front (100 + (j : Int))) (fun j => B.getD j false) hil
          rw [hs1] at HWR
          have HD := Lib.hid (And.intro (hD.moves0 hm4) (And.intro (hW.moves0 hm4) (hm.trans hm4)))
          have HWL := Lib.hid hwl
          clear hD hW hm hcell hx hs1 hwl hx4 hm4 hin
          generalize G[i] = x at hv0 hv4 hxr HWR HWL
          go_wp2_with fail
          refine HWR.out.mono ?_
          rintro e w5 ⟨rfl, h5, hm5⟩
          have hM5 := HD.out.1.under HD.out.2.2 hm5
          have hW5 := HD.out.2.1.after HD.out.1 hm5
          obtain ⟨xn, rfl⟩ : ∃ xn : Nat, x = xn := ⟨x.toNat, by omega⟩
          have hlen : (wantL K G (fun j => front (100 + (j : Int))) (fun j => B.getD j false) i).length = 256 := by rw [wantL_len]; exact HKL.out
          obtain ⟨q1, q2, q3⟩ := hW5.cell (j := xn) (by rw [hlen]; omega)
          have hv5 : w5.cell? ⟨g0, o0 + i, none⟩ = some (.int .u8 xn) := ((HB.out.2.2.2.trans hM5).cell (p := ⟨g0, o0 + i, none⟩) hgl0 (fun h => h)).trans (((HB.out.2.2.2.trans (HD.out.2.2)).cell (p := ⟨g0, o0 + i, none⟩) hgl0 (fun h => h)).symm.trans hv4)
          have H5 := Lib.hid (And.intro h5 (And.intro hW5 hM5))
          generalize (wantL K G (fun j => front (100 + (j : Int))) (fun j => B.getD j false) i)[xn] = old at q1
          have d0 : (0 : Int) ≤ (xn : Int) := by omega
          have d1 : (xn : Int) < 256 := by omega
          clear h5 hm5 hM5 hW5 HD hv4 hv0 HWR x0 f0
          obtain ⟨A9, c9, hv9, -, hx9⟩ := HR.out.2.2
          rw [List.length_map] at hv9
          cases hv9
          by_cases hib : i < B.length
          · obtain ⟨g2, o2, rfl, -, hgl2, hcell2⟩ := hx9 (by rw [List.length_map]; omega)
            have hk5 : w5.cell? ⟨g2, o2 + i, none⟩ = some (.bool B[i]) := ((HB.out.2.2.2.trans H5.out.2.2).cell (p := ⟨g2, o2 + i, none⟩) hgl2 (fun h => h)).trans (hcell2 i _ (by simp [hib]))
            have hgd : B.getD i false = B[i] := by simp [List.getD_eq_getElem?_getD, hib]
            have b2 : (i : Int) < (B.length : Int) := by omega
            rw [hgd] at HWL
            clear hcell2 hx9 hgd
            cases hbb : B[i] with
            | true =>
              rw [hbb] at hk5 HWL
              clear hbb
              go_wp2_with fail
              obtain ⟨h5, hW5, hM5⟩ := H5.out
              have hb6 := hW5
              obtain ⟨cs6, hb6, -⟩ := hb6
              have h6 := h5.poke hb6 xn (.int .u8 (100 + (i : Int)))
              have hW6 := hW5.set xn (100 + (i : Int))
              have hM6 : Moves (fun _ => False) w1 (w5.setCell ⟨ab, xn, none⟩ (.int .u8 (100 + (i : Int)))) := Moves.setCell (p := ⟨ab, xn, none⟩) hM5 (fun hlt => absurd hlt (by simp only; omega)) _
              have hwl := HWL.out
              simp only [if_true, Int.toNat_natCast, hd_front] at hwl
              rw [← hwl] at hW6
              have H6 := Lib.hid (And.intro h6 (And.intro hW6 hM6))
              clear h5 hW5 hM5 hb6 h6 hW6 hM6 hwl H5 q1 q2 q3 hv5
              go_roundg (G.length - (i + 1))
              case measure => omega
              case rel => exact ⟨i + 1, by omega, rfl, by go_num, H6.out.1, H6.out.2.1, H6.out.2.2⟩
            | false =>
              rw [hbb] at hk5 HWL
              clear hbb
              go_wp2_with fail
              have hwl := HWL.out
              simp only [Bool.false_eq_true, if_false] at hwl
              have HWN := Lib.hid hwl
              clear hwl q1 q2 q3 hv5
              go_roundg (G.length - (i + 1))
              case measure => omega
              case rel => exact ⟨i + 1, by omega, rfl, by go_num, H5.out.1, by rw [HWN.out]; exact H5.out.2.1, H5.out.2.2⟩
          · have hgd : B.getD i false = false := by rw [List.getD_eq_getElem?_getD, List.getElem?_eq_none (by omega)]; rfl
            have b2 : ¬ (i : Int) < (B.length : Int) := by omega
            rw [hgd] at HWL
            clear hx9 hgd
            go_wp2_with fail
            have hwl := HWL.out
            simp only [Bool.false_eq_true, if_false] at hwl
            have HWN := Lib.hid hwl
            clear hwl q1 q2 q3 hv5
            go_roundg (G.length - (i + 1))
            case measure => omega
            case rel => exact ⟨i + 1, by omega, rfl, by go_num, H5.out.1, by rw [HWN.out]; exact H5.out.2.1, H5.out.2.2⟩
        · obtain rfl : i = G.length := by omega
          have hcs := cut_S1 K G (fun j => front (100 + (j : Int))) F.length B
          have hws := want_start K G G (fun j => front (100 + (j : Int))) (fun j => front (100 + (j : Int))) (fun j => B.getD j false) (fun _ => true)
          have hlow := HB.out.2.2.2.size
          have hr2 := (HR.out.2.2.mono (L' := fun k => k < w.heap.size) (fun k _ hk => hk)).moves (HB.out.2.2.2.trans hm) (fun _ _ _ h => h)
          have HCUT := Lib.hid (cut_any (bs := B) hD hr2 (fun k hk _ hd => by have := hD.low k hd; have hk : k < w.heap.size := hk; omega) (by omega))
          rw [hcs] at HCUT
          rw [hws] at hW
          have hKl2 : (putN K G ((List.range G.length).map fun (j : Nat) => front (100 + (j : Int))) (fun j => B.getD j false) G.length).length = 256 := by rw [putN_len]; exact HKL.out
          generalize putN K G ((List.range G.length).map fun (j : Nat) => front (100 + (j : Int))) (fun j => B.getD j false) G.length = K2 at HCUT hW hKl2
          have HD := Lib.hid (And.intro hD (And.intro hW hm))
          have HKL2 := Lib.hid hKl2
          clear hD hW hm hcs hws hr2 hKl2
          go_wp2_with fail
          refine HCUT.out.mono ?_
          rintro e w5 ⟨rfl, h5, hm5⟩
          have hM5 := HD.out.1.under HD.out.2.2 hm5
          have hW5 := HD.out.2.1.after HD.out.1 hm5
          have HON := Lib.hid (on_any h5)
          have HG := Lib.hid (And.intro h5 (And.intro hW5 hM5))
          clear h5 hW5 hM5 hm5 HD HCUT
          go_wp2_with fail
          refine HON.out.mono ?_
          rintro e w6 ⟨rfl, h6, hm6⟩
          have hM6 := HG.out.1.under HG.out.2.2 hm6
          have hW6 := HG.out.2.1.after HG.out.1 hm6
          have HH := Lib.hid (And.intro h6 (And.intro hW6 hM6))
          clear h6 hW6 hM6 hm6 HG HON
          go_wp2_with fail
          go_loopg [14] 256 (fun gg s14 wr => ∃ i : Nat, i ≤ 256 ∧ gg = 256 - i ∧ s14 = .int .i64 i ∧ Moves (fun _ => False) w6 wr)
          case atStart => exact ⟨0, Nat.zero_le _, rfl, rfl, Moves.refl _ _⟩
          case round =>
            obtain ⟨i, hi, hgi, rfl, hm⟩ := hrel
            by_cases hil : i < 256
            · have hD := HH.out.1.moves0 hm
              have hwf : (K2.getD i []).length = 64 := by
                obtain ⟨kv, kvs, m, D, pvs, kpv, hd⟩ := hD
                have hi2 : i < K2.length := by have := HKL2.out; omega
                rw [List.getD_eq_getElem?_getD, List.getElem?_eq_getElem hi2]
                exact hd.wf _ (List.getElem_mem hi2)
              have hin : inS { S1 K2 G (fun j => front (100 + (j : Int))) F.length 0 with off := false, writes := (F.length : Int) + G.length } i = true := by have := HKL2.out; simp [inS, S1]; omega
              have HRD := Lib.hid (read_ok (bs := K2.getD i []) hD rfl hin (by simp [S1]) (by simp [S1]) (by simp [rdN, S1]))
              have hWc := (HH.out.2.1.moves0 hm).cell (j := i) (by rw [wantL_len, HKL2.out]; exact hil)
              have hwv : (wantL K2 G (fun j => front (100 + (j : Int))) (fun _ => true) 0)[i]'(by rw [wantL_len, HKL2.out]; exact hil) = hd (K2.getD i []) := by
                have hi2 : i < K2.length := by have := HKL2.out; omega
                simp [wantL, putN_zero, List.getD_eq_getElem?_getD, List.getElem?_eq_getElem hi2]
              rw [hwv] at hWc
              have b0 : (0 : Int) ≤ (i : Int) := by omega
              have b1 : (i : Int) < 256 := by omega
              have HMW := Lib.hid hm
              obtain ⟨q1, q2, q3⟩ := hWc
              clear hD hin hm hwv
              generalize K2.getD i [] = bs at hwf HRD q1
              go_wp2_with fail
              refine HRD.out.mono ?_
              rintro e w7 ⟨g7, rfl, hg7, hl7, hc7, hm7⟩
              have e0 : w7.cell? ⟨g7, 0, none⟩ = some (.int .u8 (hd bs)) := hc7 0 _ (by
                cases bs with
                | nil => simp at hwf
                | cons x r => rfl)
              have e1 : w7.cell? ⟨ab, i, none⟩ = some (.int .u8 (hd bs)) := (hm7.cell (p := ⟨ab, i, none⟩) q3 (fun h => h)).trans q1
              rw [hwf]
              have HM7 := Lib.hid (HMW.out.trans hm7)
              clear hc7 hm7 q1 q2 q3 hg7 hl7 HRD hwf
              generalize hd bs = hb at e0 e1
              go_wp2_with fail
              go_quiet (fail)
              go_wp2
              go_roundg (256 - (i + 1))
              case measure => omega
              case rel => exact ⟨i + 1, by omega, rfl, by go_num, HM7.out.drewN _⟩
            · obtain rfl : i = 256 := by omega
              have HFIN := Lib.hid (HB.out.2.2.2.trans (HH.out.2.2.trans hm))
              clear hm
              go_wp2
              go_ret
              exact ⟨rfl, HFIN.out⟩
theorem u8_in {z : Int} (h : (Lit.int .u8 z).wf = true) : 0 ≤ z ∧ z ≤ 255 := by simpa [Lit.wf, IntKind.min, IntKind.max, IntKind.signed, IntKind.bits] using h
theorem disk_syncs_any (w : World) {v0 v1 v2 : Value} {F G : List Int} {B : List Bool} {L0 L1 L2 : Nat → Prop} (r0 : Row w L0 v0 (F.map (Value.int .u8)) ∧ ∀ z ∈ F, (Lit.int .u8 z).wf = true) (r1 : Row w L1 v1 (G.map (Value.int .u8)) ∧ ∀ z ∈ G, (Lit.int .u8 z).wf = true) (r2 : Row w L2 v2 (B.map Value.bool)) :
    Calls Try.prog 4 #[v0, v1, v2] w (TruePost w) :=
  disk_syncs w r0.1 r1.1 r2 (fun x hx => u8_in (r0.2 x hx)) (fun x hx => u8_in (r1.2 x hx))
end Go.Proofs.Ytbfnmgjpkieaoaa.Pl

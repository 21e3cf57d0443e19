/-
  The disk's settle: what is pending is kept, or lost, each as 'keep' says.
-/
import Derived.Test.YtnagpianaghjeaaDiskRow
import Derived.Deep.LoopGhost
import Derived.Deep.DeepMust
import Derived.OneCell
namespace Go.Proofs.Ytnagpianaghjeaa.Pl
open Go Go.RowKit Go.Maps Go.Sort Go.Proofs

theorem zeroS (w : World) : (zeroValue 55).run Try.prog w = .ok (.slice none 0 0) w := by kernel_rfl
set_option maxRecDepth 100000 in
theorem val_run {w : World} {m n : Nat} {D : DataW Value} {M : List (Pr × Value)} {p : Pr} {v : Value} (hown : w.ownsMap Try.prog 144 RV m n D) (hk : VOf D M) (hm : (p, v) ∈ M) :
    (Instr.lookup 103 (.map (some m)) (encK p) false).run Try.prog w = .ok v w := by
  obtain ⟨v', ps, hrun, hv⟩ := hown.lookup lawK Try.underlying103 (zeroS w) (rfl : RV (.slice none 0 0) = some (.held (.slice none 0 0), [])) (keyOf_K (hk.wf _ hm))
  have h1 := congrArg (Option.map Prod.fst) hv
  rw [hk.val _ hm] at h1
  simp [RV] at h1
  rw [hrun, h1]

theorem own_set {w : World} {base g n c i : Nat} {e : TypeId} {xs : List Value} (h : w.ownsRow base e 1 (.slice (some ⟨g, 0, none⟩) n c) n xs) (u : Value) : (w.setCell ⟨g, i, none⟩ u).ownsRow base e 1 (.slice (some ⟨g, 0, none⟩) n c) n (xs.set i u) := by
  refine ⟨by simpa using h.1, ?_⟩
  rcases h.2 with ⟨hv, _⟩ | ⟨g', cap, cur, hv, hb, hg, hn, hm, hs, ht⟩
  · cases hv
  · cases hv
    refine .inr ⟨g, c, cur.setIfInBounds i u, rfl, hb, ?_, hn, hm, by simpa using hs, ?_⟩
    · simp [World.setCell, Array.getElem?_modify, hg]
    · rw [← ht]
      simp [List.take_set]

/-- What is kept when the first n pending writes are settled. -/
def putN (K : List (List Int)) (ss : List Int) (ds : List (List Int)) (kp : Nat → Bool) (n : Nat) : List (List Int) :=
  (List.range n).foldl (fun K i => if kp i then K.set (sF ss i).toNat (ds.getD i []) else K) K
theorem putN_zero (K : List (List Int)) (ss : List Int) (ds : List (List Int)) (kp : Nat → Bool) : putN K ss ds kp 0 = K := rfl
theorem putN_succ (K : List (List Int)) (ss : List Int) (ds : List (List Int)) (kp : Nat → Bool) (n : Nat) : putN K ss ds kp (n + 1) = if kp n then (putN K ss ds kp n).set (sF ss n).toNat (ds.getD n []) else putN K ss ds kp n := by
  unfold putN
  rw [List.range_succ, List.foldl_append]
  rfl
theorem putN_len (K : List (List Int)) (ss : List Int) (ds : List (List Int)) (kp : Nat → Bool) (n : Nat) : (putN K ss ds kp n).length = K.length := by
  induction n with
  | zero => rfl
  | succ n ih => rw [putN_succ]; split <;> simp [ih]
theorem putN_wf {K : List (List Int)} {ss : List Int} {ds : List (List Int)} {kp : Nat → Bool} {n z : Nat} (hK : ∀ x ∈ K, x.length = z) (hd : ∀ x ∈ ds, x.length = z) (hn : n ≤ ds.length) : ∀ x ∈ putN K ss ds kp n, x.length = z := by
  induction n with
  | zero => exact hK
  | succ n ih =>
    intro x hx
    rw [putN_succ] at hx
    split at hx
    · rcases List.mem_or_eq_of_mem_set hx with hx | rfl
      · exact ih (by omega) x hx
      · have : n < ds.length := by omega
        rw [List.getD_eq_getElem?_getD, List.getElem?_eq_getElem this]
        exact hd _ (List.getElem_mem this)
    · exact ih (by omega) x hx
def settleS (S : DS) (kp : Nat → Bool) : DS := { S with kept := putN S.kept S.secs S.data kp S.secs.length, secs := [], data := [] }

def SettlePost (w : World) (base d : Nat) (S : DS) (e : Ending) (w' : World) : Prop := e = .returned (.tuple #[]) ∧ IsDisk w' base d S ∧ Moves (DOwn w d) w w' ∧ DKeep w d w'
def KeepPost (W : World) (b : Bool) (e : Ending) (W' : World) : Prop := e = .returned (.bool b) ∧ Moves (fun _ => False) W W'

theorem KeyBlk.cells {w : World} {g : Nat} {a b : Value} {t : TypeId} (h : w.heap[g]? = some (.cells #[a, b] t (0, 0))) : w.cell? ⟨g, 0, none⟩ = some a ∧ w.cell? ⟨g, 1, none⟩ = some b := by
  unfold World.cell?
  simp only [h]
  exact ⟨rfl, rfl⟩
/-- Between two rounds. -/
structure MidAt (w W : World) (base d : Nat) (S : DS) (kv : Value) (m : Nat) (D : DataW Value) (pvs : List Value) (kpv : Value) (kp : Nat → Bool) (i : Nat) : Prop where
  at_ : ∃ kvs, DiskAt W base d { S with kept := putN S.kept S.secs S.data kp i } kv kvs m D pvs kpv
  mov : Moves (DOwn w d) w W
set_option maxRecDepth 100000 in
set_option maxHeartbeats 4000000 in
theorem settle_any {w : World} {base d : Nat} {S : DS} {kv : Value} {kvs : List Value} {m : Nat} {D : DataW Value} {pvs : List Value} {kpv : Value} (h : DiskAt w base d S kv kvs m D pvs kpv) (g : Nat) (lb : Array Value) (kp : Nat → Bool)
    (eg : ∀ args w, (callFunc g args).run Try.prog w = .ok (.enter g args) w) (hk : ∀ i, i < S.secs.length → ∀ W, Moves (DOwn w d) w W → Calls Try.prog g (#[.int .i64 i] ++ lb) W (KeepPost W (kp i))) :
    Calls Try.prog 78 #[.pointer (some ⟨d, 0, none⟩), .func (.func g) #[] lb] w (SettlePost w base d (settleS S kp)) := by
  have HR := Lib.hid (row_any h)
  have H := Lib.hid h
  have HK := Lib.hid hk
  have hfew := h.few.1
  clear h hk
  go_enter Try.func78, Try.ntmps78
  go_wp2_with fail
  refine HR.out.mono ?_
  rintro e w1 ⟨A, c, rfl, hrow, hm1⟩
  obtain ⟨A', c', hv', hc, hcm, hA, hB, hx⟩ := own_form hrow
  cases hv'
  have HX := Lib.hid hx
  have HROW := Lib.hid hrow
  have h1 : MidAt w w1 base d S kv m D pvs kpv kp 0 := ⟨⟨kvs, by
    have h := H.out
    have hsec : ∀ a b, Sec w base a b → Sec w1 base a b := fun a b hab => hab.moves hm1 (fun _ _ _ h => h)
    exact ⟨(hm1.block d (Array.getElem?_eq_some_iff.1 h.blk).1 (fun h => h)).trans h.blk, h.hd, own_moves h.kept hm1 (fun _ _ h => h), h.secs.mono hsec, h.hm, hm1.ownsMap h.map (fun h => h), h.pend, h.data.mono hsec, h.len, own_moves h.keep hm1 (fun _ _ h => h), h.wf, h.wfd, h.wfs, h.few⟩⟩, hm1.none _⟩
  have H1 := Lib.hid h1
  have hs1 := hm1.size
  clear hx hrow hm1 h1 HR hB hA
  go_wp2_with fail
  go_loopg [9] S.secs.length (fun gg s9 wr => ∃ i : Nat, i ≤ S.secs.length ∧ gg = S.secs.length - i ∧ s9 = .int .i64 i ∧ MidAt w wr base d S kv m D pvs kpv kp i ∧ (∀ k, w.heap.size ≤ k → k < w1.heap.size → wr.heap[k]? = w1.heap[k]?) ∧ w1.heap.size ≤ wr.heap.size)
  case atStart => exact ⟨0, Nat.zero_le _, rfl, rfl, H1.out, fun _ _ _ => rfl, Nat.le_refl _⟩
  case round =>
    obtain ⟨i, hi, hgi, rfl, hmid, hold, hsz⟩ := hrel
    obtain ⟨wo, rfl⟩ : ∃ x, x = wr := ⟨wr, rfl⟩
    by_cases hin : i < S.secs.length
    · obtain ⟨gr, rfl, hgr, hgrl, hcell⟩ := HX.out (by omega)
      have hlen : ((List.range S.secs.length).map (fP (sF S.secs))).length = S.secs.length := by simp
      have hcg := cellsP_get (R := (List.range S.secs.length).map (fP (sF S.secs))) (k := i) (by rw [hlen]; exact hin)
      simp only [List.getElem_map, List.getElem_range, fP] at hcg
      have hv0 : wo.cell? ⟨gr, i * 2, none⟩ = some (.int .i64 i) := (World.cell?_of_block (w := w1) (hold gr hgr hgrl)).trans (hcell _ _ hcg.1)
      have hv1 : wo.cell? ⟨gr, i * 2 + 1, none⟩ = some (.int .i64 (sF S.secs i)) := (World.cell?_of_block (w := w1) (hold gr hgr hgrl)).trans (hcell _ _ hcg.2)
      have b0 : (0 : Int) ≤ (i : Int) := by omega
      have b1 : (i : Int) < (S.secs.length : Int) := by omega
      have HMID := Lib.hid hmid
      have HOLD := Lib.hid hold
      have HIN := Lib.hid hin
      clear hcell hcg hlen hmid hold
      have hcl := HMID.out
      obtain ⟨⟨kvs1, hD1⟩, hmv1⟩ := hcl
      have hww := hmv1.size
      have hpw := World.alloc_heap_new wo (.cells #[.int .i64 i, .int .i64 (sF S.secs i)] 144)
      have hma := (Moves.refl (fun _ => False) wo).alloc (.cells #[.int .i64 i, .int .i64 (sF S.secs i)] 144)
      have hkc := HK.out i hin _ (hmv1.trans (hma.none (DOwn w d)))
      have HD1 := Lib.hid hD1
      have HMV1 := Lib.hid hmv1
      have HMA := Lib.hid hma
      have HPW := Lib.hid hpw
      have HKC := Lib.hid hkc
      have HSI : Hid (wo.alloc (.cells #[.int .i64 i, .int .i64 (sF S.secs i)] 144) = wo.alloc (.cells #[.int .i64 i, .int .i64 (sF S.secs i)] 144)) := Lib.hid rfl
      clear hD1 hmv1 hma hpw hkc
      have HSV := Lib.hid (rfl : sF S.secs i = sF S.secs i)
      generalize hsi : sF S.secs i = si at hv1 HMA HPW HKC
      have HSIE := Lib.hid hsi
      clear hsi HSV HSI
      go_wp2_with fail
      refine HKC.out.mono ?_
      rintro e w2 ⟨rfl, hm2⟩
      have hmw := HMA.out.trans hm2
      have hpb : w2.heap[wo.heap.size]? = some (.cells #[.int .i64 i, .int .i64 si] 144 (0, 0)) := (hm2.block wo.heap.size (by simp) (fun h => h)).trans HPW.out
      obtain ⟨q0, q1⟩ := KeyBlk.cells hpb
      have hsec2 : ∀ a b, Sec wo base a b → Sec w2 base a b := fun a b hab => hab.moves hmw (fun _ _ _ h => h)
      have hD2 : DiskAt w2 base d { S with kept := putN S.kept S.secs S.data kp i } kv kvs1 m D pvs kpv := by
        have h := HD1.out
        exact ⟨(hmw.block d (Array.getElem?_eq_some_iff.1 h.blk).1 (fun h => h)).trans h.blk, h.hd, own_moves h.kept hmw (fun _ _ h => h), h.secs.mono hsec2, h.hm, hmw.ownsMap h.map (fun h => h), h.pend, h.data.mono hsec2, h.len, own_moves h.keep hmw (fun _ _ h => h), h.wf, h.wfd, h.wfs, h.few⟩
      have HD2 := Lib.hid hD2
      have HMW := Lib.hid hmw
      have hsz2 := hmw.size
      have HOLD2 : Hid (∀ k, w.heap.size ≤ k → k < w1.heap.size → w2.heap[k]? = w1.heap[k]?) := Lib.hid (fun k h1 h2 => (hmw.block k (by omega) (fun h => h)).trans (HOLD.out k h1 h2))
      clear hv0 hv1 hm2 hpb hsec2 hD2 hmw HKC HPW HMA
      cases hkb : kp i with
      | false =>
        have HN : Hid (putN S.kept S.secs S.data kp (i + 1) = putN S.kept S.secs S.data kp i) := Lib.hid (by rw [putN_succ, hkb]; rfl)
        clear hkb
        go_wp2_with fail
        go_roundg (S.secs.length - (i + 1))
        case measure => omega
        case rel => exact ⟨i + 1, by omega, rfl, by go_num, ⟨⟨kvs1, by rw [HN.out]; exact HD2.out⟩, HMV1.out.trans (HMW.out.none _)⟩, HOLD2.out, by omega⟩
      | true =>
        have HN : Hid (putN S.kept S.secs S.data kp (i + 1) = (putN S.kept S.secs S.data kp i).set (sF S.secs i).toNat (S.data.getD i [])) := Lib.hid (by rw [putN_succ, hkb]; rfl)
        have hd2 := HD2.out
        have hpm : (((i : Int), si), vF pvs i) ∈ pl S.secs pvs := by
          rw [← HSIE.out]
          exact pl_mem hin
        have hrun0 := val_run (w := w2.drew) hd2.map.drew hd2.pend hpm
        have hsir : 0 ≤ si ∧ si < S.kept.length := by
          rw [← HSIE.out]
          have := hd2.wfs (sF S.secs i) (by unfold sF; rw [List.getD_eq_getElem?_getD, List.getElem?_eq_getElem hin]; exact List.getElem_mem hin)
          simpa [putN_len] using this
        obtain ⟨s, rfl⟩ : ∃ s : Nat, si = s := ⟨si.toNat, by omega⟩
        have hkl : kvs1.length = S.kept.length := by have := hd2.secs.1; simpa [putN_len] using this
        obtain ⟨Ak, ck, hkv, hck, hckm, hAk, hBk, hxk⟩ := own_form hd2.kept
        obtain ⟨gk, rfl, hgk, hgkl, hck1⟩ := hxk (by omega)
        have hcs : w2.cell? ⟨gk, s, none⟩ = some (kvs1[s]'(by omega)) := hck1 s _ (List.getElem?_eq_getElem (by omega))
        obtain ⟨vold, hvold⟩ : ∃ vold, w2.cell? ⟨gk, s, none⟩ = some vold := ⟨_, hcs⟩
        have hvold2 : w2.drew.cell? ⟨gk, s, none⟩ = some vold := hvold
        clear hck1 hcs
        subst hkv
        have d1 : w2.cell? ⟨d, 1, none⟩ = some (.slice (some ⟨gk, 0, none⟩) kvs1.length ck) := by simp [World.cell?, hd2.blk]
        have d2 : w2.cell? ⟨d, 2, none⟩ = some (.map (some m)) := by simp [World.cell?, hd2.blk]
        have hdat : Sec w2 base (vF pvs i) (S.data.getD i []) := by
          have h1 : pvs.length = S.data.length := hd2.data.1
          have h2 : S.data.length = S.secs.length := hd2.len
          have := hd2.data.2 i (show i < pvs.length by omega) (show i < S.data.length by omega)
          unfold vF
          rw [List.getD_eq_getElem?_getD, List.getD_eq_getElem?_getD, List.getElem?_eq_getElem (show i < pvs.length by omega), List.getElem?_eq_getElem (show i < S.data.length by omega)]
          exact this
        obtain ⟨gv, ov, cv, ccs, hvv, hsv⟩ := hdat
        have hdat : Sec w2 base (.slice (some ⟨gv, ov, none⟩) (S.data.getD i []).length cv) (S.data.getD i []) := ⟨gv, ov, cv, ccs, rfl, hsv⟩
        rw [hvv] at hrun0
        have HDAT := Lib.hid hdat
        generalize (S.data.getD i []).length = nv at hrun0 HDAT
        clear hdat hsv hvv
        have hrun : (Instr.lookup 103 (.map (some m)) (.agg #[.int .i64 i, .int .i64 s]) false).run Try.prog w2.drew = .ok (.slice (some ⟨gv, ov, none⟩) nv cv) w2.drew := hrun0
        have HKL := Lib.hid hkl
        have hfz : w2.frozen? ⟨gk, s, none⟩ = false := by
          obtain ⟨cur, hc⟩ := own_block hd2.kept rfl
          simp [World.frozen?, hc]
        have hfz2 : w2.drew.frozen? ⟨gk, s, none⟩ = false := hfz
        have bs0 : (0 : Int) ≤ (s : Int) := by omega
        have bs1 : (s : Int) < (kvs1.length : Int) := by omega
        clear hkb hd2 hpm hxk hBk hAk hkl hrun0
        go_wp2_with fail
        go_still_tail 13, (by kernel_rfl)
        change wpList _ _ _ _ _ w2.drew
        go_wp2_with fail
        have hd2 := HD2.out
        have hgd : gk ≠ d := fun e => by
          obtain ⟨cur, hc⟩ := own_block hd2.kept rfl
          rw [e, hd2.blk] at hc
          cases hc
        have hgm : gk ≠ m := fun e => by
          obtain ⟨cur, hc⟩ := own_block hd2.kept rfl
          obtain ⟨es, ck, hb, _⟩ := hd2.map
          rw [e, hb] at hc
          cases hc
        have hg8 : ∀ q cs, w2.heap[q]? = some (.cells cs 5 (0, 0)) → ¬ q = gk := fun q cs hq e => by
          obtain ⟨cur, hc⟩ := own_block hd2.kept rfl
          rw [e, hc] at hq
          cases hq
        have hm3 : Moves (fun k => k = gk) w2 (w2.drew.setCell ⟨gk, s, none⟩ (.slice (some ⟨gv, ov, none⟩) nv cv)) := Moves.setCell (p := ⟨gk, s, none⟩) ((Moves.refl (fun k => k = gk) w2).drew) (fun _ => rfl) _
        have hsec3 : ∀ a b, Sec w2 base a b → Sec (w2.drew.setCell ⟨gk, s, none⟩ (.slice (some ⟨gv, ov, none⟩) nv cv)) base a b := fun a b hab => hab.moves hm3 hg8
        have hD3 : DiskAt (w2.drew.setCell ⟨gk, s, none⟩ (.slice (some ⟨gv, ov, none⟩) nv cv)) base d { S with kept := putN S.kept S.secs S.data kp (i + 1) } (.slice (some ⟨gk, 0, none⟩) kvs1.length ck) (kvs1.set s (.slice (some ⟨gv, ov, none⟩) nv cv)) m D pvs kpv := by
          have hst : (sF S.secs i).toNat = s := by rw [HSIE.out]; simp
          refine ⟨(hm3.block d (Array.getElem?_eq_some_iff.1 hd2.blk).1 (fun e => hgd e.symm)).trans hd2.blk, hd2.hd, ?_, ?_, hd2.hm, hm3.ownsMap hd2.map (fun e => hgm e.symm), hd2.pend, hd2.data.mono hsec3, hd2.len, own_moves hd2.keep hm3 (fun q hq e => ?_), ?_, hd2.wfd, ?_, ?_⟩
          · rw [List.length_set]
            exact own_set hd2.kept.drew _
          · show All2 _ _ (putN S.kept S.secs S.data kp (i + 1))
            rw [HN.out, hst]
            exact (hd2.secs.mono hsec3).set (hsec3 _ _ HDAT.out) s
          · obtain ⟨cur, hc⟩ := own_block hd2.kept rfl
            obtain ⟨cur', hc'⟩ := own_block hd2.keep hq
            rw [e, hc] at hc'
            cases hc'
          · have hl := hd2.len
            have hl2 : i + 1 ≤ S.data.length := by have : S.data.length = S.secs.length := hl; omega
            exact putN_wf (n := i + 1) H.out.wf H.out.wfd hl2
          · intro x hx
            have := hd2.wfs x hx
            simpa [putN_len] using this
          · have := hd2.few
            simpa [putN_len] using this
        have HD3 := Lib.hid hD3
        have HM3 := Lib.hid hm3
        have HGK : Hid (DOwn w d gk) := Lib.hid (.inr ⟨_, H.out.blk, .inl ⟨_, rfl, rfl⟩⟩)
        have HOLD3 : Hid (∀ k, w.heap.size ≤ k → k < w1.heap.size → (w2.drew.setCell ⟨gk, s, none⟩ (.slice (some ⟨gv, ov, none⟩) nv cv)).heap[k]? = w1.heap[k]?) := Lib.hid (fun k h1 h2 => (hm3.block k (by omega) (fun (e : k = gk) => by have := (H.out.kept.lt gk rfl).2; omega)).trans (HOLD2.out k h1 h2))
        have hsz3 := hm3.size
        clear hD3 hm3 hsec3 hg8 hd2 hrun d1 d2
        go_roundg (S.secs.length - (i + 1))
        case measure => omega
        case rel => exact ⟨i + 1, by omega, rfl, by go_num, ⟨⟨_, HD3.out⟩, (HMV1.out.trans (HMW.out.none _)).andThen HM3.out (fun k e _ => by rw [e]; exact HGK.out)⟩, HOLD3.out, Nat.le_trans hsz (Nat.le_trans hsz2 hsz3)⟩
    · obtain rfl : i = S.secs.length := by omega
      obtain ⟨⟨kvs1, hd2⟩, hmv⟩ := hmid
      have d2 : wo.cell? ⟨d, 2, none⟩ = some (.map (some m)) := by simp [World.cell?, hd2.blk]
      have hfz : wo.frozen? ⟨d, 2, none⟩ = false := by simp [World.frozen?, hd2.blk]
      have hdl := (Array.getElem?_eq_some_iff.1 hd2.blk).1
      have HD2 := Lib.hid hd2
      have HMV := Lib.hid hmv
      clear hd2 hmv hold
      have hmm := @run_makeMap Try.prog
      go_wp2_with fail
      go_end0
      have hd2 := HD2.out
      have hm3 : Moves (fun k => k = d) wo ((wo.setCell ⟨d, 2, none⟩ (.map (some wo.heap.size))).alloc (.map #[] 0)) := (Moves.setCell (p := ⟨d, 2, none⟩) (Moves.refl (fun k => k = d) wo) (fun _ => rfl) _).alloc _
      have hmap : ((wo.setCell ⟨d, 2, none⟩ (.map (some wo.heap.size))).alloc (.map #[] 0)).ownsMap Try.prog 144 RV wo.heap.size 0 (.map []) := by
        have := World.ownsMap_made (H := Value) (wo.setCell ⟨d, 2, none⟩ (.map (some wo.heap.size))) Try.prog 144 RV
        simpa [World.setCell] using this
      have hblk : ((wo.setCell ⟨d, 2, none⟩ (.map (some wo.heap.size))).alloc (.map #[] 0)).heap[d]? = some (.cells #[.int .i64 S.size, kv, .map (some wo.heap.size), .bool S.off, .bool S.armed, .int .i64 S.left, kpv, .int .i64 S.writes] 105 (0, 0)) := by
        refine (Below.heap_alloc _ _ _ (by simpa [World.setCell] using hdl)).trans ?_
        simp [World.setCell, Array.getElem?_modify, hd2.blk]
      have hsec : ∀ a b, Sec wo base a b → Sec ((wo.setCell ⟨d, 2, none⟩ (.map (some wo.heap.size))).alloc (.map #[] 0)) base a b := fun a b hab => hab.moves hm3 (fun q cs hq e => by
        rw [e, hd2.blk] at hq
        cases hq)
      refine ⟨rfl, ⟨kv, kvs1, wo.heap.size, .map [], [], kpv, hblk, hd2.hd, own_moves hd2.kept hm3 (fun q hq e => ?_), hd2.secs.mono hsec, ?_, hmap, VOf.nil, All2.nil _, rfl, own_moves hd2.keep hm3 (fun q hq e => ?_), hd2.wf, by simp [settleS], by simp [settleS], ?_⟩, HMV.out.andThen hm3 (fun k e _ => .inl e), DKeep.of H.out.blk hblk rfl (fun k e => .inr (by simp at e; rw [← e]; exact HMV.out.size))⟩
      · obtain ⟨cur, hc⟩ := own_block hd2.kept hq
        rw [e, hd2.blk] at hc
        cases hc
      · have := hd2.hd; omega
      · obtain ⟨cur, hc⟩ := own_block hd2.keep hq
        rw [e, hd2.blk] at hc
        cases hc
      · have := hd2.few
        exact ⟨by simp [settleS], this.2⟩
end Go.Proofs.Ytnagpianaghjeaa.Pl

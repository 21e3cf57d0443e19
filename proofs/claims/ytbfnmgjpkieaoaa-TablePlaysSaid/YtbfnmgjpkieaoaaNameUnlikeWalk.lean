/-
  NameUnlike: the statement's walk.
-/
import Derived.Test.YtbfnmgjpkieaoaaNameTextsWalk
namespace Go.Proofs.Ytbfnmgjpkieaoaa.Tb
open Go Go.RowKit Go.Maps Go.Sort Go.Proofs Go.Shelf

theorem neq_names (n m : Nm) (w : World) : (binOp .neq 77 (.agg (encM n).toArray) (.agg (encM m).toArray)).run Try.prog w = .ok (.bool !(n.1 == m.1)) w := by
  have h := eql_names n m w
  rw [run_eql_struct] at h
  rw [run_neq_struct]
  cases hr : (Op.equalIn 10000 77 (.agg (encM n).toArray) (.agg (encM m).toArray)).run Try.prog w with
  | ok b w' =>
    rw [hr] at h
    simp only [Result.andThen_ok, Result.ok.injEq, Value.bool.injEq] at h
    rw [h.1, h.2]
    rfl
  | halt _ _ => rw [hr] at h; cases h
theorem wpList_neq_midg {P : Program} {ops : Array Oper} {rest : List Oper} {op : Oper} {a : Act} {w : World} {Q : Exit → Act → World → Prop} (hw : Region.wanted op (yielded ops a.tmps) = true) (t u : TypeId) (x y : Operand) (ho : op.op = .binOp .neq t x y u)
    (vx vy : Array Value) (hx : a.eval x = .agg vx) (hy : a.eval y = .agg vy) (hg : P.eqGuardType P.depth t = false) (b : Bool) (hr : (binOp .neq t (.agg vx) (.agg vy)).run P w = .ok (.bool b) w)
    (h : wpList P ops Q rest (a.put op.dst (.bool b)) w) : wpList P ops Q (op :: rest) a w :=
  wpList_want hw fun _ hK => by
    unfold Oper.wp execOp
    simp only [ho, hx, hy, Sem.run_bind, run_eqGuard_agg w _ _ _ _ _ _ hg, Result.andThen_ok, hr, Sem.run_pure]
    exact hK _ _ h
theorem bindE_ok {M : List (Nm × Int)} {n : Nm} {to : Int} (h1 : 1 ≤ to) (h2 : goodN n = true) (h3 : hasN M n = true ∨ M.length < 64) : bindE M n to = 0 := by
  unfold bindE
  rw [if_neg (by omega), h2, if_neg (by decide), if_neg (by rcases h3 with h3 | h3; rw [h3]; simp; omega)]
theorem bind_ok {w : World} {base p : Nat} {M : List (Nm × Int)} (h : TabAt w base p M) (hL : LenCell w) (n : Nm) {to : Int} (hto : (Lit.int .i64 to).wf = true) (hbase : base ≤ w.heap.size) (hlen : M.length ≤ 1000000) (h1 : 1 ≤ to) (h2 : goodN n = true) (h3 : hasN M n = true ∨ M.length < 64) :
    Calls Try.prog 46 #[.pointer (some ⟨p, 0, none⟩), .agg (encM n).toArray, .int .i64 to] w (BindPost w base p (putM M n to) (getZ M n) 0) :=
  bind_any h hL n hto hbase hlen (bindE_ok h1 h2 h3) (by unfold bindV; rw [bindE_ok h1 h2 h3, if_pos rfl]) (by unfold bindM; rw [bindE_ok h1 h2 h3, if_pos rfl])
theorem fixE_good {s : ByteArray} (h : fixE s = 0) : GoodT s := by
  unfold fixE at h
  split at h
  · assumption
  · cases h
theorem putM_two {x y : Nm} (h : x ≠ y) (u v : Int) : putM [(x, u)] y v = [(x, u), (y, v)] := by
  unfold putM delM
  have e : [(x, u)].filter (fun p : Nm × Int => !(p.1 == y)) = [(x, u)] := List.filter_eq_self.2 fun p hp => by
    rw [List.mem_singleton] at hp
    subst hp
    exact bne_of h
  rw [e]
  rfl
theorem toList_ne {a b : ByteArray} (h : a ≠ b) : (a.toList == b.toList) = false := by
  rw [beq_eq_false_iff_ne, Lib.toList_data, Lib.toList_data]
  intro e
  exact h (ByteArray.ext (Array.ext' e))
set_option maxRecDepth 100000 in
set_option maxHeartbeats 8000000 in
theorem nameunlike {a c : ByteArray} (ha : a.size ≤ maxLen) (hc : c.size ≤ maxLen) {w : World} (hL : LenCell w) : Calls Try.prog 12 #[.string a, .string c] w (ValPost w (.bool true)) := by
  unfold maxLen at ha hc
  have HK := Lib.hid (known_any hL)
  have HL := Lib.hid hL
  clear hL
  by_cases h60 : 60 < a.size
  · have h1 : (60 : Int) < (a.size : Int) := by omega
    clear h60
    go_enter Try.func12, Try.ntmps12
    go_wp2_with (first
      | (go_at_call 42
         refine HK.out.mono ?_
         rintro e w1 ⟨rfl, hm1⟩)
      | fail)
    go_ret
    exact ⟨rfl, hm1⟩
  have h1 : ¬ (60 : Int) < (a.size : Int) := by omega
  by_cases hc60 : 60 < c.size
  · have h2 : (60 : Int) < (c.size : Int) := by omega
    clear h60 hc60
    go_enter Try.func12, Try.ntmps12
    go_wp2_with (first
      | (go_at_call 42
         refine HK.out.mono ?_
         rintro e w1 ⟨rfl, hm1⟩)
      | fail)
    go_ret
    exact ⟨rfl, hm1⟩
  have h2 : ¬ (60 : Int) < (c.size : Int) := by omega
  have HFa := Lib.hid (fun W => fix_any a W)
  have HFc := Lib.hid (fun W => fix_any c W)
  have HGa := Lib.hid (@fixE_good a)
  have HGc := Lib.hid (@fixE_good c)
  have HXa := Lib.hid (fun (h : GoodT a) => (fix_good h).1)
  have HXc := Lib.hid (fun (h : GoodT c) => (fix_good h).1)
  have hea := fixE_or a
  have hec := fixE_or c
  clear h60 hc60
  generalize fixN a = x at HFa HXa
  generalize fixN c = y at HFc HXc
  generalize fixE a = ea at HFa HGa hea
  generalize fixE c = ec at HFc HGc hec
  go_enter Try.func12, Try.ntmps12
  go_upto_region 6 with (first
    | (go_at_call 42
       refine HK.out.mono ?_
       rintro e w1 ⟨rfl, hm1⟩)
    | (go_at_call 43
       refine (HFa.out _).mono ?_
       rintro e w2 ⟨rfl, hm2⟩)
    | (refine wpList_store_eq (o := ⟨none, .store _ _ _, _, _, _, _⟩) rfl 77 (.tmp 5) (.tmp 25) rfl _ _ rfl rfl _ (store_new32 _ _ rfl x) ?_
       go_frame)
    | fail)
  have hm1a := (hm1.trans hm2).alloc (.cells (encM x).toArray 77)
  have hr1 := range_of (heap_alloc_new w2 (.cells (encM x).toArray 77))
  have hk1 : w2.heap.size < (w2.alloc (.cells (encM x).toArray 77)).heap.size := by simp
  generalize w2.heap.size = k1 at hr1 hk1 ⊢
  generalize w2.alloc (.cells (encM x).toArray 77) = W1 at hm1a hr1 hk1 ⊢
  have H1 := Lib.hid (And.intro hm1a (And.intro hr1 hk1))
  clear hm1a hr1 hk1 hm1 hm2
  go_upto_region 7 with (first
    | (go_at_call 43
       refine (HFc.out _).mono ?_
       rintro e w3 ⟨rfl, hm3⟩)
    | (refine wpList_store_eq (o := ⟨none, .store _ _ _, _, _, _, _⟩) rfl 77 (.tmp 7) (.tmp 30) rfl _ _ rfl rfl _ (store_new32 _ _ rfl y) ?_
       go_frame)
    | fail)
  have hm3a := hm3.alloc (.cells (encM y).toArray 77)
  have hr2 := range_of (heap_alloc_new w3 (.cells (encM y).toArray 77))
  have hk2 : w3.heap.size < (w3.alloc (.cells (encM y).toArray 77)).heap.size := by simp
  have hr1 := rangeAt_moves H1.out.2.1 hm3a H1.out.2.2 (fun h => h)
  have hk1 : k1 < (w3.alloc (.cells (encM y).toArray 77)).heap.size := Nat.lt_of_lt_of_le H1.out.2.2 hm3a.size
  have hmW := H1.out.1.trans hm3a
  generalize w3.heap.size = k2 at hr2 hk2 ⊢
  generalize w3.alloc (.cells (encM y).toArray 77) = W2 at hmW hr2 hk2 hr1 hk1 hm3a ⊢
  clear H1 hm3 hm3a HFa HFc HK
  by_cases hbad : ea = 0 ∧ ec = 0
  · obtain ⟨rfl, rfl⟩ := hbad
    have hga := HGa.out rfl
    have hgc := HGc.out rfl
    have hxa := HXa.out hga
    have hxc := HXc.out hgc
    have hgx : goodN x = true := by rw [hxa]; exact good_nm hga
    have hgy : goodN y = true := by rw [hxc]; exact good_nm hgc
    have hxy : x = y ↔ a = c := ⟨fun e => nm_inj hga hgc (by rw [← hxa, ← hxc, e]), fun e => by rw [hxa, hxc, e]⟩
    have HGG := Lib.hid (And.intro hgx (And.intro hgy hxy))
    clear hga hgc hxa hxc hgx hgy hxy hea hec HGa HGc HXa HXc
    go_upto_region 10 with fail
    have hs3 := KSt.new (HL.out.moves0 hmW)
    have hbw := hmW.size
    generalize W2.heap.size = b at hs3 hk1 hk2 hbw ⊢
    generalize W2.alloc (.cells #[.map none] 84) = W3 at hs3 ⊢
    have HW2 := Lib.hid (And.intro hmW hbw)
    have HR1 : Hid (∀ W M, KSt W2 b b M W → W.rangeAt k1 0 (encM x)) := Lib.hid (fun W M h => h.rng hr1 hk1)
    have HR2 : Hid (∀ W M, KSt W2 b b M W → W.rangeAt k2 0 (encM y)) := Lib.hid (fun W M h => h.rng hr2 hk2)
    have S3 := Lib.hid hs3
    clear hs3 hmW hr1 hr2 hk1 hk2 hbw
    have c5 : (Lit.int .i64 1).wf = true := by decide
    have c6 : (Lit.int .i64 2).wf = true := by decide
    have HC := Lib.hid (And.intro c5 c6)
    clear c5 c6
    go_upto_region 11 with (first
      | (refine wpList_load_at (op := ⟨some 36, _, _, _, _, _⟩) rfl 77 (.tmp 5) rfl _ _ rfl (load_nm (HR1.out _ _ S3.out)) ?_
         go_frame)
      | (go_at_call 46
         refine (bind_ok S3.out.tab S3.out.len x HC.out.1 S3.out.big (by simp) (by omega) HGG.out.1 (.inr (by simp))).mono ?_
         rintro e w4 ⟨rfl, ht4, hm4⟩)
      | fail)
    have S4 := Lib.hid (S3.out.next ht4 hm4)
    rw [put_nil] at S4
    clear ht4 hm4 S3
    go_upto_region 12 with (first
      | (refine wpList_load_at (op := ⟨some 38, _, _, _, _, _⟩) rfl 77 (.tmp 7) rfl _ _ rfl (load_nm (HR2.out _ _ S4.out)) ?_
         go_frame)
      | (go_at_call 46
         refine (bind_ok S4.out.tab S4.out.len y HC.out.2 S4.out.big (by simp) (by omega) HGG.out.2.1 (.inr (by simp))).mono ?_
         rintro e w5 ⟨rfl, ht5, hm5⟩)
      | fail)
    have S5 := Lib.hid (S4.out.next ht5 hm5)
    clear ht5 hm5 S4
    by_cases hac : a = c
    · have hxy := HGG.out.2.2.2 hac
      have ea := Lib.hid (beq_iff_eq.2 hxy)
      subst hac
      subst hxy
      rw [put_one] at S5
      have HE := Lib.hid (fun W => eql_names x x W)
      rw [beq_self_eq_true] at HE
      have HLk := Lib.hid (lookup_any S5.out.tab x (v := 2) (b := true) (by simp [getZ, getM]) (by simp [hasN, getM]))
      go_upto_region 14 with (first
        | (refine wpList_load_at (op := ⟨some 41, _, _, _, _, _⟩) rfl 77 (.tmp 5) rfl _ _ rfl (load_nm (HR1.out _ _ S5.out)) ?_
           go_frame)
        | (go_at_call 48
           refine HLk.out.mono ?_
           rintro e w6 ⟨rfl, hm6⟩)
        | fail)
      have S6 := Lib.hid (S5.out.next0 hm6)
      clear hm6 S5 HLk
      go_wp2_with (first
        | (refine wpList_load_at (op := ⟨some 48, _, _, _, _, _⟩) rfl 77 (.tmp 5) rfl _ _ rfl (load_nm (HR1.out _ _ S6.out)) ?_
           go_frame)
        | (refine wpList_load_at (op := ⟨some 49, _, _, _, _, _⟩) rfl 77 (.tmp 7) rfl _ _ rfl (load_nm (HR2.out _ _ S6.out)) ?_
           go_frame)
        | (refine wpList_eql_midg (op := ⟨some 50, _, _, _, _, _⟩) rfl 77 77 (.tmp 48) (.tmp 49) rfl (encM x).toArray (encM x).toArray rfl rfl (by kernel_rfl) true (HE.out _) ?_
           go_frame)
        | (go_at_call 47
           refine (len_any S6.out.tab).mono ?_
           rintro e w7 ⟨rfl, rfl⟩)
        | fail)
      go_ret
      exact ⟨rfl, S6.out.under HW2.out.1 HW2.out.2⟩
    · have hxy : x ≠ y := fun e => hac (HGG.out.2.2.1 e)
      have hstr := toList_ne hac
      rw [putM_two hxy] at S5
      have HE := Lib.hid (fun W => neq_names x y W)
      rw [beq_eq_false_iff_ne.2 (fun e => hxy (Subtype.ext e))] at HE
      have HLk := Lib.hid (lookup_any S5.out.tab x (v := 1) (b := true) (by simp [getZ, getM]) (by simp [hasN, getM]))
      clear hxy hac
      go_upto_region 15 with (first
        | (refine wpList_load_at (op := ⟨some 41, _, _, _, _, _⟩) rfl 77 (.tmp 5) rfl _ _ rfl (load_nm (HR1.out _ _ S5.out)) ?_
           go_frame)
        | (go_at_call 48
           refine HLk.out.mono ?_
           rintro e w6 ⟨rfl, hm6⟩)
        | fail)
      have S6 := Lib.hid (S5.out.next0 hm6)
      clear hm6 S5 HLk
      go_wp2_with (first
        | (refine wpList_load_at (op := ⟨some 62, _, _, _, _, _⟩) rfl 77 (.tmp 5) rfl _ _ rfl (load_nm (HR1.out _ _ S6.out)) ?_
           go_frame)
        | (refine wpList_load_at (op := ⟨some 63, _, _, _, _, _⟩) rfl 77 (.tmp 7) rfl _ _ rfl (load_nm (HR2.out _ _ S6.out)) ?_
           go_frame)
        | (refine wpList_neq_midg (op := ⟨some 64, _, _, _, _, _⟩) rfl 77 77 (.tmp 62) (.tmp 63) rfl (encM x).toArray (encM y).toArray rfl rfl (by kernel_rfl) true (HE.out _) ?_
           go_frame)
        | (go_at_call 47
           refine (len_any S6.out.tab).mono ?_
           rintro e w7 ⟨rfl, rfl⟩)
        | fail)
      go_ret
      exact ⟨rfl, S6.out.under HW2.out.1 HW2.out.2⟩
  · have hs : (ea + ec != 0) = true := by
      rw [bne_iff_ne]
      omega
    have hw1 : IntKind.i64.wrap (ea + ec) = ea + ec := IntWalk.i64_in _ (by omega)
    have hb1 : 0 ≤ ea ∧ ea ≤ 4 ∧ 0 ≤ ec ∧ ec ≤ 4 := by omega
    obtain ⟨hb1, hb2, hb3, hb4⟩ := hb1
    clear hbad hea hec hr1 hr2 hk1 hk2
    go_wp2_with fail
    go_ret
    exact ⟨rfl, hmW⟩
end Go.Proofs.Ytbfnmgjpkieaoaa.Tb

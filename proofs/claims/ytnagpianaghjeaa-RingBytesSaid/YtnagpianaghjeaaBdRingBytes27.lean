/-
  A region that draws its order, in a round of a range over a function: from the plain walk of it.
  slices.Chunk over bytes: its iterator gives each chunk once, in order.
  Bytes as a disk, refused.
  Bytes as a disk: each sector is a chunk of them.
  Bytes as a disk: the walk.
-/
import Derived.Test.YtnagpianaghjeaaBdRingBytes5
import Derived.Deep.RegionHeld3
import Derived.RangeFuncCalls
import Derived.OrdersIn
import Derived.TacticsIn
import Derived.Test.YtnagpianaghjeaaBdRingBytes15
import Derived.RangeFuncNested
import Derived.RangeFuncBound
import Derived.RangeFuncLeaves
import Derived.Shelf.Abstract
import Derived.Shelf.RegionOpen
import Derived.WalkKit
import Derived.OwnWalkIn
import Derived.TacticsInMore
import Derived.RegionIn
import Derived.LoopNIn
import Derived.LoopIn
import Derived.Test.YtnagpianaghjeaaBdRingBytes21
import Derived.RangeFuncFrom
namespace Go.Proofs.Ytnagpianaghjeaa.Pl
open Go Go.RowKit Go.Proofs

section
variable {P : Program} {ops : Array Oper} {Q : Exit → Act → World → Prop} {l n : Nat}

theorem rowsIn_round {row : String} {args : Array Value} {w : World} {R : Value → World → Prop} (h : Rows P row args w R) : RowsIn (Fence.wide.inRound l) n P row args w R :=
  fun c cs _ => let ⟨v, w', r, s⟩ := h c cs; ⟨v, w', r, stepsIn_wide.2 s⟩
theorem callsIn_round {f : FuncId} {args : Array Value} {w : World} {R : Ending → World → Prop} (h : Calls P f args w R) : CallsIn (Fence.wide.inRound l) n P f args w R := CallsIn.inRound l (callsIn_wide.2 h)

theorem operIn_round {o : Oper} {a : Act} {w : World} {K K' : Act → World → Prop} (hd : ∀ c, o.op ≠ .defer c) (hK : ∀ a w, K a w → K' a w) (h : o.wp P a w K Q) : o.wpIn (Fence.wide.inRound l) n P a w K' Q := by
  refine ⟨fun _ _ => trivial, ?_⟩
  rw [Oper.semAt_eq _ _ _ hd]
  unfold Oper.wp at h
  generalize (execOp a.eval o).run P w = r at h ⊢
  have hdp : (Fence.wide.inRound l).depth.isSome = true → 1 ≤ n := fun h => by cases h
  cases r with
  | ok x w' =>
    cases x with
    | value v => exact hK _ _ h
    | skip => exact hK _ _ h
    | defer d => exact hK _ _ h
    | enter f args => exact ⟨hdp, (callsIn_round h).mono (fun e w'' he => by cases e <;> first | exact hK _ _ he | exact he)⟩
    | row rw args => exact ⟨hdp, (rowsIn_round h).mono (fun v w'' he => hK _ _ he)⟩
    | _ => exact h.elim
  | halt x w' =>
    cases x with
    | panic v => exact h
    | _ => exact h.elim

theorem anyIn_round {md : Region.Mode} (hd : ∀ (i : Nat) (o : Oper), ops[i]? = some o → ∀ c, o.op ≠ Op.defer c) (hQ : ¬ LetsOut Q) : ∀ (fuel : Nat) (listed : Array Bool) (a : Act) (w : World), wpAny P md ops Q fuel listed a w → wpAnyIn (Fence.wide.inRound l) n P md ops Q fuel listed a w
  | 0, _, _, _, h => h
  | fuel + 1, listed, a, w, h => by
    refine ⟨h.1, fun i hi => ?_⟩
    have h1 := h.2 i hi
    unfold wpOp at h1
    unfold wpOpIn
    cases ho : ops[i]? with
    | none => rw [ho] at h1; exact anyIn_round hd hQ fuel _ _ _ h1
    | some o =>
      rw [ho] at h1
      dsimp only at h1 ⊢
      by_cases hw : Region.wanted o (yielded ops a.tmps) = true
      · rw [if_pos hw] at h1 ⊢
        rcases h1 with h1 | h1
        · exact operIn_round (hd i o ho) (fun a w hk => anyIn_round hd hQ fuel _ _ _ hk) h1
        · exact absurd h1.2 hQ
      · rw [if_neg hw] at h1 ⊢
        exact ⟨fun _ _ => trivial, anyIn_round hd hQ fuel _ _ _ h1⟩

theorem step_append_run {o : Oper} {a : Act} {w w' : World} {v u v' : Value} {K : Act → World → Prop} {E : Prop} (hgd : o.guard = none) (s x : Operand) (t : TypeId) (ho : o.op = .call { callee := .builtin .append, args := #[s, x], argTypes := #[t, t] })
    (hv : a.eval s = v) (hx : a.eval x = u) (hr : (Builtin.append_ #[t, t] o.type #[v, u]).run P w = .ok v' w') (h : K (a.put o.dst v') w') :
    if Region.wanted o (yielded ops a.tmps) = true then Oper.wp P o a w K Q else E := by
  have hw : Region.wanted o (yielded ops a.tmps) = true := by simp [Region.wanted, hgd]
  rw [if_pos hw]
  unfold Oper.wp execOp
  simp only [ho, resolve, invoke, builtin, Sem.run_bind, Sem.run_pure, Result.andThen_ok, List.map_toArray, List.map_cons, List.map_nil, hv, hx, hr]
  exact h

def noDefer (o : Oper) : Bool := match o.op with | .defer _ => false | _ => true
theorem noDefer_all (h : ops.toList.all noDefer = true) : ∀ (i : Nat) (o : Oper), ops[i]? = some o → ∀ c, o.op ≠ .defer c := fun i o hi c e => by
  have h1 := List.all_eq_true.1 h o (by
    rw [← Array.getElem?_toList] at hi
    exact List.mem_of_getElem? hi)
  unfold noDefer at h1
  rw [e] at h1
  cases h1

/-- The region, its post a normal end alone, held to S. -/
theorem region_round {S : World → Prop} {id : Nat} {a : Act} {w : World} (hm : P.follows .mixedOrders = true) (hd : ops.toList.all noDefer = true) (hS : S w.drew)
    (h : S w.drew → wpAnyH P .any ops (fun e a w => e = .normal ∧ Q .normal a w) S ops.size (Array.replicate ops.size false) a w.drew) : (Code.region id ops true).wpIn (Fence.wide.inRound l) n P Q a w := by
  refine wpIn_mono (Q := fun e a w => e = .normal ∧ Q .normal a w) ?_ (fun e a w he => by rcases he with ⟨rfl, he⟩; exact he)
  exact wpIn_region_any hm (anyIn_round (noDefer_all hd) (fun h => by obtain ⟨_, _, e, _⟩ := h; cases e) _ _ _ _ (wpAny_of_held _ _ _ _ (h hS)))
end
end Go.Proofs.Ytnagpianaghjeaa.Pl
namespace Go.Proofs.Ytnagpianaghjeaa.Pl
open Go Go.RowKit Go.Maps Go.Sort Go.Proofs Go.Shelf
attribute [local go_sem] Oper.semAt_some

/-- What a round keeps: all that lay ahead, and the iterator's two boxes. -/
abbrev KpC (n0 Bs Bn : Nat) (W W' : World) : Prop := Moves (fun k => n0 ≤ k ∧ k ≠ Bs ∧ k ≠ Bn) W W'
/-- The first chunks. -/
def firsts (m k : Nat) : List (Fin m) := (List.finRange m).take k
theorem firsts_succ {m k : Nat} (h : k < m) : firsts m (k + 1) = firsts m k ++ [⟨k, h⟩] := by
  unfold firsts
  rw [List.take_succ_eq_append_getElem (by simpa using h)]
  simp
theorem firsts_len {m k : Nat} (h : k ≤ m) : (firsts m k).length = k := by simp [firsts]; omega
theorem firsts_all (m : Nat) : firsts m m = List.finRange m := by unfold firsts; exact List.take_of_length_le (by simp)

set_option maxRecDepth 100000 in
set_option maxHeartbeats 2000000 in
theorem chunk1_in (F : Fence) (n : Nat) (h91 : F.fn 108) (hro : F.round = none) (hn : 1 ≤ n) (l Bs Bn n0 : Nat) (g o c m z : Nat) (hz : 1 ≤ z ∧ z ≤ 1024) (hN : m * z ≤ 100000) (hc : m * z ≤ c) (J Jx : List (Fin m) → World → Prop)
    (hY : ∀ pre x W, J pre W → pre.length < m → YieldAt F (n - 1) Try.prog l #[.slice (some ⟨g, o + x.val * z, none⟩) z z] W fun e W' =>
      (e = .returned (.bool true) ∧ J (pre ++ [x]) W' ∧ KpC n0 Bs Bn W W') ∨ (e = .returned (.bool false) ∧ Jx (pre ++ [x]) W'))
    (W : World) (hbs : Bs < W.heap.size) (hbn : Bn < W.heap.size) (hB : W.cell? ⟨Bs, 0, none⟩ = some (.slice (some ⟨g, o, none⟩) (m * z) c)) (hZ : W.cell? ⟨Bn, 0, none⟩ = some (.int .i64 z)) (hJ : AbidesFrom W.heap.size J) (h0 : J [] W) :
    CallsIn F n Try.prog 108 #[.func (.yield l) #[] #[], .pointer (some ⟨Bs, 0, none⟩), .pointer (some ⟨Bn, 0, none⟩)] W fun e W' => (∃ v, e = .returned v) ∧
      ((∃ ys, ys = List.finRange m ∧ J ys W') ∨ (∃ pre, (∃ k, k ≤ m ∧ pre = firsts m k) ∧ Jx pre W')) := by
  refine callsIn_of_wp Try.func108 rfl h91 ?_ hro
  simp only [Try.ntmps108, List.size_toArray, List.length_cons, List.length_nil, Nat.reduceAdd, Nat.reduceSub, Array.replicate_succ, Array.replicate_zero, List.push_toArray, List.append_toArray, List.nil_append, List.cons_append]
  gi_wp2
  gi_loopw [4] (fun i wr => ∃ k : Nat, k ≤ m ∧ i = .int .i64 (k * z : Nat) ∧ J (firsts m k) wr ∧ KpC n0 Bs Bn W wr) (fun i _ => m * z - (intOf i).toNat)
  case atStart => exact ⟨0, Nat.zero_le _, by simp, h0, Moves.refl _ _⟩
  case round =>
    obtain ⟨k, hk, rfl, hJs, hmv⟩ := hrel
    have hB' : wr.cell? ⟨Bs, 0, none⟩ = some (.slice (some ⟨g, o, none⟩) (m * z) c) := (hmv.cell (p := ⟨Bs, 0, none⟩) hbs (fun h => h.2.1 rfl)).trans hB
    have hZ' : wr.cell? ⟨Bn, 0, none⟩ = some (.int .i64 z) := (hmv.cell (p := ⟨Bn, 0, none⟩) hbn (fun h => h.2.2 rfl)).trans hZ
    by_cases hlt : k < m
    · obtain ⟨fn, tmps, assign, body, hy, hR⟩ := hY _ ⟨k, hlt⟩ wr.drew (hJ _ wr wr.drew none hJs ⟨rfl, rfl, rfl, Nat.le_refl _, fun _ _ _ => rfl⟩ (fun r e => by cases e)) (by rw [firsts_len hk]; exact hlt)
      dsimp only at hy
      have hs : k * z + z ≤ m * z := by rw [← Nat.succ_mul]; exact Nat.mul_le_mul_right z hlt
      have HKS := Lib.hid (Nat.succ_mul k z)
      generalize k * z = q at hs hy HKS ⊢
      generalize m * z = N at hs hN hc hB' ⊢
      have q1 : (q : Int) < (N : Int) := by omega
      have q0 : (0 : Int) ≤ (q : Int) := by omega
      have q2 : (q : Int) ≤ (N : Int) := by omega
      have q3 : (q : Int) ≤ (c : Int) := by omega
      have q4 : (q : Int) + (z : Int) ≤ (c : Int) := by omega
      have q5 : (0 : Int) ≤ (q : Int) + (z : Int) := by omega
      have q6 : (q : Int) ≤ (q : Int) + (z : Int) := by omega
      have q7 : ((q : Int) + (z : Int)).toNat = q + z := by omega
      have q8 : q + z - q = z := by omega
      have q9 : min (z : Int) ((N - q : Nat) : Int) = (z : Int) := by omega
      have q10 : ¬ (q + z = q) := by omega
      have q11 : ¬ (c = q) := by omega
      have q12 : ¬ (N = q) := by omega
      have hmd : KpC n0 Bs Bn W wr.drew := hmv.trans (Moves.refl _ wr).drew
      have HJ := Lib.hid (And.intro hJ hmd)
      clear hJ hmd hmv hJs h0 hY
      gi_wp2
      gi_region
      all_goals
        gi_wp2
        refine hR.mono ?_
        rintro e W3 (⟨rfl, hJ3, hk3⟩ | ⟨rfl, hJx3⟩)
        · have hmv3 := HJ.out.2.trans hk3
          have hZ3 : W3.cell? ⟨Bn, 0, none⟩ = some (.int .i64 z) := (hmv3.cell (p := ⟨Bn, 0, none⟩) hbn (fun h => h.2.2 rfl)).trans hZ
          have HK3 := Lib.hid (And.intro hJ3 hmv3)
          clear hJ3 hk3 hmv3
          gi_wp2
          go_roundw
          case rel => exact ⟨k + 1, by omega, by rw [show (k + 1) * z = q + z from HKS.out]; simp, by rw [firsts_succ hlt]; exact HK3.out.1, HK3.out.2⟩
          case measure => simp [intOf]; omega
        · gi_wp2
          refine bodyPost_ret (results_none rfl _ _ _) rfl ?_
          exact ⟨⟨_, rfl⟩, .inr ⟨_, ⟨k + 1, by omega, (firsts_succ hlt).symm⟩, hJx3⟩⟩
    · obtain rfl : k = m := by omega
      have q1 : ¬ ((k * z : Nat) : Int) < ((k * z : Nat) : Int) := by omega
      rw [firsts_all] at hJs
      gi_wp2
      go_end0
      exact ⟨⟨_, rfl⟩, .inl hJs⟩
theorem kpC_t {n0 Bs Bn : Nat} {A B C : World} (h : KpC n0 Bs Bn A B) (k : KpC n0 Bs Bn B C) : KpC n0 Bs Bn A C := h.trans k
theorem kpC_b {n0 Bs Bn : Nat} {w : World} (hn : n0 ≤ w.heap.size) (h1 : Bs < w.heap.size) (h2 : Bn < w.heap.size) (W : World) (l : Nat) (o o' : Obj) (hl : w.heap.size ≤ l) (_ : W.heap[l]? = some o) (_ : o.isCells = false) (_ : o.isWalk = false) : KpC n0 Bs Bn W (W.putObj l o') := by
  have h := grownBy_putObj' W l o'
  exact ⟨h.os, h.tape, h.output, h.size, fun k hk hs => h.block k hk (fun e => by cases e; exact hs ⟨by omega, by omega, by omega⟩)⟩

theorem chunk_stops (F : Fence) (n : Nat) (h91 : F.fn 108) (hro : F.round = none) (hn : 1 ≤ n) (Bs Bn n0 : Nat) (g o c m z : Nat) (hz : 1 ≤ z ∧ z ≤ 1024) (hN : m * z ≤ 100000) (hc : m * z ≤ c) (w : World) (hbs : Bs < w.heap.size) (hbn : Bn < w.heap.size)
    (hB : w.cell? ⟨Bs, 0, none⟩ = some (.slice (some ⟨g, o, none⟩) (m * z) c)) (hZ : w.cell? ⟨Bn, 0, none⟩ = some (.int .i64 z)) :
    SeqStopsK F n Try.prog 108 #[.pointer (some ⟨Bs, 0, none⟩), .pointer (some ⟨Bn, 0, none⟩)] (fun x : Fin m => #[Value.slice (some ⟨g, o + x.val * z, none⟩) z z]) (KpC n0 Bs Bn) (fun ys => ys = List.finRange m) (fun _ => True) m w := fun l J Jx W hW hJ _ hY h0 => by
  refine (chunk1_in F n h91 hro hn l Bs Bn n0 g o c m z hz hN hc J Jx hY W (Nat.lt_of_lt_of_le hbs hW.size) (Nat.lt_of_lt_of_le hbn hW.size) ((hW.cell (p := ⟨Bs, 0, none⟩) hbs).trans hB) ((hW.cell (p := ⟨Bn, 0, none⟩) hbn).trans hZ) hJ h0).mono ?_
  rintro e W' ⟨he, ⟨ys, rfl, hj⟩ | ⟨pre, -, hj⟩⟩
  · exact ⟨he, .inl ⟨_, rfl, hj⟩⟩
  · exact ⟨he, .inr ⟨_, trivial, hj⟩⟩

set_option maxHeartbeats 1000000 in
/-- slices.Chunk: the slice and the size are boxed; the function value captures the boxes. -/
theorem chunk_any {z : Nat} (hz : 1 ≤ z ∧ z ≤ 1024) (A : Option Addr) (k c : Nat) (w : World) : Calls Try.prog 68 #[.slice A k c, .int .i64 z] w fun e w' => e = .returned (.func (.func 108) #[] #[.pointer (some ⟨w.heap.size, 0, none⟩), .pointer (some ⟨w.heap.size + 1, 0, none⟩)]) ∧ w' = (w.alloc (.cells #[.slice A k c] 55)).alloc (.cells #[.int .i64 z] 3) := by
  have h1 : ¬ (z : Int) < 1 := by omega
  go_enter Try.func68, Try.ntmps68
  go_wp2
  go_ret
  exact ⟨rfl, rfl⟩
end Go.Proofs.Ytnagpianaghjeaa.Pl
namespace Go.Proofs.Ytnagpianaghjeaa.Pl
open Go Go.RowKit Go.Maps Go.Sort Go.Proofs

set_option maxRecDepth 100000 in
set_option maxHeartbeats 2000000 in
theorem of_bad {N : Nat} {z : Int} (hb : z < 64 ∨ 1024 < z ∨ (N : Int) % z ≠ 0 ∨ N = 0) (hN : N ≤ 80000) (A : Option Addr) (c : Nat) (w : World) : Calls Try.prog 25 #[.slice A N c, .int .i64 z] w (SameP w (.tuple #[.pointer none, .int .i64 1])) := by
  by_cases h1 : z < 64
  · clear hb
    go_enter Try.func25, Try.ntmps25
    go_wp2
    go_ret2
    exact ⟨rfl, rfl⟩
  by_cases h2 : 1024 < z
  · clear hb
    go_enter Try.func25, Try.ntmps25
    go_wp2
    go_ret2
    exact ⟨rfl, rfl⟩
  obtain ⟨y, rfl⟩ : ∃ y : Nat, z = y := ⟨z.toNat, by omega⟩
  have hy0 : ¬ (y : Int) = 0 := by omega
  by_cases h3 : N % y = 0
  · obtain rfl : N = 0 := by
      rcases hb with h | h | h | h
      · omega
      · omega
      · exact absurd (by exact_mod_cast h3) h
      · exact h
    have HRT := Lib.hid (right_any (n := 0) (z := y) (b := false) (by unfold rightZ; simp) w)
    have t1 : Int.tmod (0 : Int) (y : Int) = 0 := by simp
    have t2 : Int.tdiv (0 : Int) (y : Int) = 0 := by simp
    clear hb h3
    go_enter Try.func25, Try.ntmps25
    go_wp2_with fail
    refine HRT.out.mono ?_
    rintro e w1 ⟨rfl, rfl⟩
    go_wp2
    go_ret2
    exact ⟨rfl, rfl⟩
  · have t1 : Int.tmod (N : Int) (y : Int) = ((N % y : Nat) : Int) := by rw [Int.tmod_eq_emod_of_nonneg (by omega)]; rfl
    have t3 : ¬ ((N % y : Nat) : Int) = 0 := by omega
    clear hb
    go_enter Try.func25, Try.ntmps25
    go_wp2
    go_ret2
    exact ⟨rfl, rfl⟩
end Go.Proofs.Ytnagpianaghjeaa.Pl
namespace Go.Proofs.Ytnagpianaghjeaa.Pl
open Go Go.RowKit Go.Maps Go.Sort Go.Proofs Go.Shelf

/-- A chunk. -/
def ch (xs : List Int) (z i : Nat) : List Int := (xs.drop (i * z)).take z
theorem ch_len {xs : List Int} {k z i : Nat} (h : xs.length = k * z) (hi : i < k) : (ch xs z i).length = z := by
  have : (i + 1) * z ≤ k * z := Nat.mul_le_mul_right z hi
  rw [Nat.succ_mul] at this
  simp [ch]; omega
def ofS (z : Nat) (K : List (List Int)) : DS := { newS 0 z with kept := K }

structure InvOf (w : World) (B1 px d m z k : Nat) (xs : List Int) (pre : List (Fin k)) (W : World) (kv : Value) (kvs : List Value) : Prop where
  at_ : DiskAt W w.heap.size d (ofS z (pre.map fun x => ch xs z x.val)) kv kvs m (.map []) [] (.slice none 0 0)
  own : W.ownsRow B1 55 1 kv kvs.length kvs
  box : W.heap[px]? = some (.cells #[.pointer (some ⟨d, 0, none⟩)] 26 (0, 0))
  mov : Moves (fun _ => False) w W
  lo : w.heap.size ≤ B1 ∧ B1 ≤ W.heap.size ∧ d < B1 ∧ m < B1 ∧ px < B1

theorem InvOf.from {w : World} {B1 px d m z k : Nat} {xs : List Int} : OwnFrom B1 (fun (pre : List (Fin k)) W => ∃ kv kvs, InvOf w B1 px d m z k xs pre W kv kvs) := by
  rintro pre W W' row ⟨kv, kvs, h⟩ hg hr
  have hm : Moves (fun j => row = some j) W W' := ⟨hg.os, hg.tape, hg.output, hg.size, fun j hj hs => hg.block j hj (fun e => hs e.symm)⟩
  have nc : ∀ j cs t fr, W.heap[j]? = some (.cells cs t fr) → ¬ row = some j := fun j cs t fr hj e => by
    obtain ⟨-, o, ho, hc⟩ := hr j e
    rw [hj] at ho
    cases ho
    cases hc
  refine ⟨kv, kvs, (Clear.moves ⟨h.at_, nc _ _ _ _ h.at_.blk, fun j hj => ?_, fun e => ?_, fun j cs hj => nc _ _ _ _ hj, fun j cs hj => nc _ _ _ _ hj⟩ hm), own_moves h.own hm (fun j hj => ?_), (hm.block px (Array.getElem?_eq_some_iff.1 h.box).1 (nc _ _ _ _ h.box)).trans h.box, h.mov.andThen hm (fun j e hlt => ?_), ⟨h.lo.1, Nat.le_trans h.lo.2.1 hm.size, h.lo.2.2⟩⟩
  · obtain ⟨cur, hc⟩ := own_block h.at_.kept hj
    exact nc _ _ _ _ hc
  · have := (hr m e).1; have := h.lo.2.2.2.1; omega
  · obtain ⟨cur, hc⟩ := own_block h.own hj
    exact nc _ _ _ _ hc
  · have := (hr j e).1; have := h.lo.1; omega

theorem InvOf.step {w W w' w5 : World} {B1 px d m z k Bs Bn : Nat} {xs : List Int} {pre : List (Fin k)} {x : Fin k} {Ak : Option Addr} {ck : Nat} {kvs : List Value} {Ac A1 : Option Addr} {cc k1 : Nat} (h : InvOf w B1 px d m z k xs pre W (.slice Ak kvs.length ck) kvs)
    (hl : xs.length = k * z) (hz : 64 ≤ z ∧ z ≤ 1024) (hk : k ≤ 16000) (hlen : pre.length < k) (hbs : Bs < B1 ∧ Bn < B1 ∧ Bs ≠ d ∧ Bn ≠ d)
    (hm' : Moves (fun _ => False) W w') (hown : w'.ownsRow W.heap.size 5 1 (.slice Ac z cc) z ((ch xs z x.val).map encB))
    (hn5 : w5.ownsRow B1 55 1 (.slice A1 (kvs.length + 1) k1) (kvs.length + 1) (kvs ++ [.slice Ac z cc]))
    (hg5 : (w'.alloc (.cells #[.slice Ac z cc] 55)).grownBy w5 (Value.slice Ak kvs.length ck).ownBlock) :
    KeepsOthers W (w5.setCell ⟨d, 1, none⟩ (.slice A1 (kvs.length + 1) k1)) ∧ KpC w.heap.size Bs Bn W (w5.setCell ⟨d, 1, none⟩ (.slice A1 (kvs.length + 1) k1)) ∧ InvOf w B1 px d m z k xs (pre ++ [x]) (w5.setCell ⟨d, 1, none⟩ (.slice A1 (kvs.length + 1) k1)) (.slice A1 (kvs.length + 1) k1) (kvs ++ [.slice Ac z cc]) := by
  have hD := h.at_
  have hdl := (Array.getElem?_eq_some_iff.1 hD.blk).1
  have hkd : (Value.slice Ak kvs.length ck).ownBlock ≠ some d := fun e => by
    have := (h.own.lt d e).1; have := h.lo.2.2.1; omega
  have hm6 : Moves (fun j => j = d) w5 (w5.setCell ⟨d, 1, none⟩ (.slice A1 (kvs.length + 1) k1)) := Moves.setCell (p := ⟨d, 1, none⟩) (Moves.refl (fun j => j = d) w5) (fun _ => rfl) _
  have hmA : Moves (fun j => (Value.slice Ak kvs.length ck).ownBlock = some j) W w5 := ((hm'.none _).alloc _).grown hg5 (fun j e _ => e)
  have hmm : Moves (fun j => j = d ∨ (Value.slice Ak kvs.length ck).ownBlock = some j) W (w5.setCell ⟨d, 1, none⟩ (.slice A1 (kvs.length + 1) k1)) := (hmA.mono (fun j e => .inr e)).andThen hm6 (fun j e _ => .inl e)
  have hw5 : w5.heap[d]? = W.heap[d]? := hmA.block d hdl hkd
  have hb6 : (w5.setCell ⟨d, 1, none⟩ (.slice A1 (kvs.length + 1) k1)).heap[d]? = some (.cells #[.int .i64 z, .slice A1 (kvs.length + 1) k1, .map (some m), .bool false, .bool false, .int .i64 0, .slice none 0 0, .int .i64 0] 105 (0, 0)) := by
    simp [World.setCell, Array.getElem?_modify, hw5, hD.blk, newS, ofS]
  have hcl : ∀ j, (j = d ∨ (Value.slice Ak kvs.length ck).ownBlock = some j) → ∃ cs t, W.heap[j]? = some (.cells cs t (0, 0)) ∧ (t = 105 ∨ t = 55) := fun j e => by
    rcases e with e | e
    · rw [e]; exact ⟨_, _, hD.blk, .inl rfl⟩
    · obtain ⟨cur, hc⟩ := own_block h.own e
      exact ⟨_, _, hc, .inr rfl⟩
  have hty : ∀ (j : Nat) (cs : Array Value) (t : TypeId) (fr : Nat × Nat), W.heap[j]? = some (.cells cs t fr) → t ≠ 105 → t ≠ 55 → ¬ (j = d ∨ (Value.slice Ak kvs.length ck).ownBlock = some j) := fun j cs t fr hj h1 h2 e => by
    obtain ⟨cs', t', hc, ht⟩ := hcl j e
    rw [hj] at hc
    injection hc with hc
    injection hc with _ h3
    rcases ht with rfl | rfl
    · exact h1 h3
    · exact h2 h3
  have hsec : ∀ a b, Sec W w.heap.size a b → Sec (w5.setCell ⟨d, 1, none⟩ (.slice A1 (kvs.length + 1) k1)) w.heap.size a b := fun a b hab => hab.moves hmm (fun j cs hj => hty j cs _ _ hj (by decide) (by decide))
  have hcz : (ch xs z x.val).length = z := ch_len hl x.isLt
  have hsz := h.mov.size
  have hnew : Sec (w5.setCell ⟨d, 1, none⟩ (.slice A1 (kvs.length + 1) k1)) w.heap.size (.slice Ac z cc) (ch xs z x.val) := by
    have h1 : w'.ownsRow w.heap.size 5 1 (.slice Ac z cc) z ((ch xs z x.val).map encB) := own_weak hsz hown
    have h2 : Sec w' w.heap.size (.slice Ac z cc) (ch xs z x.val) := Sec.of_own h1 (by omega)
    have hmB : Moves (fun j => j = d ∨ (Value.slice Ak kvs.length ck).ownBlock = some j) w' (w5.setCell ⟨d, 1, none⟩ (.slice A1 (kvs.length + 1) k1)) := (((((Moves.refl (fun _ => False) w').none _).alloc _).grown hg5 (fun j e _ => e)).mono (fun j e => .inr e)).andThen hm6 (fun j e _ => .inl e)
    refine h2.moves hmB (fun j cs hj e => ?_)
    obtain ⟨cs', t', hc, ht⟩ := hcl j e
    have hc' := (hm'.block j (Array.getElem?_eq_some_iff.1 hc).1 (fun h => h)).trans hc
    rw [hj] at hc'
    injection hc' with hc'
    injection hc' with _ h3
    rcases ht with rfl | rfl
    · exact absurd h3 (by decide)
    · exact absurd h3 (by decide)
  have hkl : kvs.length = pre.length := by have := hD.secs.1; simpa [ofS] using this
  have how : (w5.setCell ⟨d, 1, none⟩ (.slice A1 (kvs.length + 1) k1)).ownsRow B1 55 1 (.slice A1 (kvs.length + 1) k1) (kvs ++ [Value.slice Ac z cc]).length (kvs ++ [.slice Ac z cc]) := by
    rw [List.length_append, List.length_singleton]
    refine own_moves hn5 hm6 (fun j hj e => ?_)
    have e : j = d := e
    have := (hn5.lt j hj).1; have := h.lo.2.2.1; omega
  have hmv : Moves (fun _ => False) w (w5.setCell ⟨d, 1, none⟩ (.slice A1 (kvs.length + 1) k1)) := h.mov.andThen hmm (fun j e hlt => by
    rcases e with e | e
    · have := hD.hd; omega
    · have := (h.own.lt j e).1; have := h.lo.1; omega)
  refine ⟨⟨hmm.size, fun j ob hj hc => (hmm.block j (Array.getElem?_eq_some_iff.1 hj).1 (fun e => ?_)).trans hj⟩, ⟨hmm.os, hmm.tape, hmm.output, hmm.size, fun j hj hs => hmm.block j hj (fun e => hs ?_)⟩, ⟨?_, how, ?_, hmv, ⟨h.lo.1, Nat.le_trans h.lo.2.1 hmm.size, h.lo.2.2⟩⟩⟩
  · obtain ⟨cs', t', hc', -⟩ := hcl j e
    rw [hj] at hc'
    cases hc'
    cases hc
  · rcases e with e | e
    · have := hD.hd; exact ⟨by omega, by omega, by omega⟩
    · have := (h.own.lt j e).1; have := h.lo.1; exact ⟨by omega, by omega, by omega⟩
  · refine ⟨by simpa [ofS, newS] using hb6, hD.hd, own_weak h.lo.1 how, ?_, hD.hm, hmm.ownsMap hD.map (fun e => ?_), VOf.nil, All2.nil _, rfl, World.ownsRow_nil _ _ _ _, ?_, by simp [ofS, newS], by simp [ofS, newS], by simp [ofS, newS]; omega⟩
    · show All2 _ _ ((pre ++ [x]).map fun x => ch xs z x.val)
      rw [List.map_append]
      exact (hD.secs.mono hsec).append hnew
    · obtain ⟨es, ck', hb, _⟩ := hD.map
      obtain ⟨cs', t', hc', -⟩ := hcl m e
      rw [hc'] at hb
      cases hb
    · intro y hy
      obtain ⟨i, -, rfl⟩ := List.mem_map.1 hy
      exact ch_len hl i.isLt
  · exact (hmm.block px (Array.getElem?_eq_some_iff.1 h.box).1 (hty px _ _ _ h.box (by decide) (by decide))).trans h.box
end Go.Proofs.Ytnagpianaghjeaa.Pl
namespace Go.Proofs.Ytnagpianaghjeaa.Pl
open Go Go.RowKit Go.Maps Go.Sort Go.Proofs Go.Shelf
attribute [local go_sem] Oper.semAt_some

def OfPost (w : World) (z : Nat) (K : List (List Int)) (e : Ending) (w' : World) : Prop := ∃ d, e = .returned (.tuple #[.pointer (some ⟨d, 0, none⟩), .int .i64 0]) ∧ IsDisk w' w.heap.size d (ofS z K) ∧ Moves (fun _ => False) w w'

set_option maxRecDepth 100000 in
set_option maxHeartbeats 8000000 in
theorem of_ok {w : World} {g o c k z N : Nat} {xs : List Int} (hN : N = k * z) (hl : xs.length = N) (hk : 1 ≤ k ∧ k ≤ 300) (hz : 64 ≤ z ∧ z ≤ 1024) (hN4 : N ≤ 80000) (hc : N ≤ c) (hg : g < w.heap.size) (hx : ∀ j u, (xs.map encB)[j]? = some u → w.cell? ⟨g, o + j, none⟩ = some u) :
    Calls Try.prog 25 #[.slice (some ⟨g, o, none⟩) N c, .int .i64 z] w (OfPost w z ((List.finRange k).map fun x => ch xs z x.val)) := by
  refine (callsIn_wide (n := 6)).1 ?_
  have hRT := fun W => callsIn_wide (n := 5) |>.2 (right_any (n := k) (z := z) (b := true) (by unfold rightZ; simp; omega) W)
  have hCH := fun W => callsIn_wide (n := 5) |>.2 (chunk_any (z := z) (by omega) (some ⟨g, o, none⟩) N c W)
  have hfR : Fence.wide.fn 67 := trivial
  have hfC : Fence.wide.fn 68 := trivial
  have hmm := @run_makeMap Try.prog
  have hz0 : ¬ (z : Int) = 0 := by omega
  have t0 : ¬ (z : Int) < 64 := by omega
  have t00 : ¬ (1024 : Int) < (z : Int) := by omega
  have t1 : Int.tmod (N : Int) (z : Int) = 0 := by
    rw [Int.tmod_eq_emod_of_nonneg (by omega), hN]
    simp
  have t2 : Int.tdiv (N : Int) (z : Int) = (k : Int) := by
    rw [Int.tdiv_eq_ediv_of_nonneg (by omega), hN]
    rw [Int.natCast_mul]
    exact Int.mul_ediv_cancel _ (by omega)
  have HH := Lib.hid (And.intro hN (And.intro hl hx))
  clear hN hl hx
  refine callsIn_of_wp_marks Try.func25 rfl trivial ?_ rfl
  simp only [Try.ntmps25, List.size_toArray, List.length_cons, List.length_nil, Nat.reduceAdd, Nat.reduceSub, Array.replicate_succ, Array.replicate_zero, List.push_toArray, List.append_toArray, List.nil_append, List.cons_append]
  gi_wp2_with (first
    | (gi_at_call 67
       refine (hRT _).mono ?_
       rintro e w1 ⟨rfl, rfl⟩)
    | (gi_at_call 68
       refine (hCH _).mono ?_
       rintro e w1 ⟨rfl, rfl⟩)
    | gi_in)
  have hdat : DiskAt (((((w.alloc (.map #[] 0)).alloc (.cells #[.int .i64 z, .slice none 0 0, .map (some w.heap.size), .bool false, .bool false, .int .i64 0, .slice none 0 0, .int .i64 0] 105)).alloc (.cells #[.pointer (some ⟨w.heap.size + 1, 0, none⟩)] 26)).alloc (.cells #[.slice (some ⟨g, o, none⟩) N c] 55)).alloc (.cells #[.int .i64 z] 3)) w.heap.size (w.heap.size + 1) (ofS z []) (.slice none 0 0) [] w.heap.size (.map []) [] (.slice none 0 0) :=
    ⟨(Below.heap_alloc _ _ _ (by simp)).trans ((Below.heap_alloc _ _ _ (by simp)).trans ((Below.heap_alloc _ _ _ (by simp)).trans (heap_alloc2_new w (.map #[] 0) _))), by omega, World.ownsRow_nil _ _ _ _, All2.nil _, Nat.le_refl _, ((((World.ownsMap_made (H := Value) w Try.prog 144 RV).alloc _).alloc _).alloc _).alloc _, VOf.nil, All2.nil _, rfl, World.ownsRow_nil _ _ _ _, by simp [newS, ofS], by simp [newS, ofS], by simp [newS, ofS], by simp [newS, ofS]⟩
  have hinv : InvOf w (((((w.alloc (.map #[] 0)).alloc (.cells #[.int .i64 z, .slice none 0 0, .map (some w.heap.size), .bool false, .bool false, .int .i64 0, .slice none 0 0, .int .i64 0] 105)).alloc (.cells #[.pointer (some ⟨w.heap.size + 1, 0, none⟩)] 26)).alloc (.cells #[.slice (some ⟨g, o, none⟩) N c] 55)).alloc (.cells #[.int .i64 z] 3)).heap.size (w.heap.size + 1 + 1) (w.heap.size + 1) w.heap.size z k xs [] (((((w.alloc (.map #[] 0)).alloc (.cells #[.int .i64 z, .slice none 0 0, .map (some w.heap.size), .bool false, .bool false, .int .i64 0, .slice none 0 0, .int .i64 0] 105)).alloc (.cells #[.pointer (some ⟨w.heap.size + 1, 0, none⟩)] 26)).alloc (.cells #[.slice (some ⟨g, o, none⟩) N c] 55)).alloc (.cells #[.int .i64 z] 3)) (.slice none 0 0) [] :=
    ⟨hdat, World.ownsRow_nil _ _ _ _, (Below.heap_alloc _ _ _ (by simp)).trans ((Below.heap_alloc _ _ _ (by simp)).trans (by have := heap_alloc_new (((w.alloc (.map #[] 0)).alloc (.cells #[.int .i64 z, .slice none 0 0, .map (some w.heap.size), .bool false, .bool false, .int .i64 0, .slice none 0 0, .int .i64 0] 105))) (.cells #[.pointer (some ⟨w.heap.size + 1, 0, none⟩)] 26); simpa using this)), (((((Moves.refl (fun _ => False) w).alloc _).alloc _).alloc _).alloc _).alloc _, by simp; omega⟩
  have hBsb : (((((w.alloc (.map #[] 0)).alloc (.cells #[.int .i64 z, .slice none 0 0, .map (some w.heap.size), .bool false, .bool false, .int .i64 0, .slice none 0 0, .int .i64 0] 105)).alloc (.cells #[.pointer (some ⟨w.heap.size + 1, 0, none⟩)] 26)).alloc (.cells #[.slice (some ⟨g, o, none⟩) N c] 55)).alloc (.cells #[.int .i64 z] 3)).heap[w.heap.size + 1 + 1 + 1]? = some (.cells #[.slice (some ⟨g, o, none⟩) N c] 55 (0, 0)) := (Below.heap_alloc _ _ _ (by simp)).trans (by have := heap_alloc_new (((w.alloc (.map #[] 0)).alloc (.cells #[.int .i64 z, .slice none 0 0, .map (some w.heap.size), .bool false, .bool false, .int .i64 0, .slice none 0 0, .int .i64 0] 105)).alloc (.cells #[.pointer (some ⟨w.heap.size + 1, 0, none⟩)] 26)) (.cells #[.slice (some ⟨g, o, none⟩) N c] 55); simpa using this)
  have hBnb : (((((w.alloc (.map #[] 0)).alloc (.cells #[.int .i64 z, .slice none 0 0, .map (some w.heap.size), .bool false, .bool false, .int .i64 0, .slice none 0 0, .int .i64 0] 105)).alloc (.cells #[.pointer (some ⟨w.heap.size + 1, 0, none⟩)] 26)).alloc (.cells #[.slice (some ⟨g, o, none⟩) N c] 55)).alloc (.cells #[.int .i64 z] 3)).heap[w.heap.size + 1 + 1 + 1 + 1]? = some (.cells #[.int .i64 z] 3 (0, 0)) := by have := heap_alloc_new ((((w.alloc (.map #[] 0)).alloc (.cells #[.int .i64 z, .slice none 0 0, .map (some w.heap.size), .bool false, .bool false, .int .i64 0, .slice none 0 0, .int .i64 0] 105)).alloc (.cells #[.pointer (some ⟨w.heap.size + 1, 0, none⟩)] 26)).alloc (.cells #[.slice (some ⟨g, o, none⟩) N c] 55)) (.cells #[.int .i64 z] 3); simpa using this
  have hBs : (((((w.alloc (.map #[] 0)).alloc (.cells #[.int .i64 z, .slice none 0 0, .map (some w.heap.size), .bool false, .bool false, .int .i64 0, .slice none 0 0, .int .i64 0] 105)).alloc (.cells #[.pointer (some ⟨w.heap.size + 1, 0, none⟩)] 26)).alloc (.cells #[.slice (some ⟨g, o, none⟩) N c] 55)).alloc (.cells #[.int .i64 z] 3)).cell? ⟨w.heap.size + 1 + 1 + 1, 0, none⟩ = some (.slice (some ⟨g, o, none⟩) N c) := by unfold World.cell?; simp only [hBsb]; rfl
  have hBn : (((((w.alloc (.map #[] 0)).alloc (.cells #[.int .i64 z, .slice none 0 0, .map (some w.heap.size), .bool false, .bool false, .int .i64 0, .slice none 0 0, .int .i64 0] 105)).alloc (.cells #[.pointer (some ⟨w.heap.size + 1, 0, none⟩)] 26)).alloc (.cells #[.slice (some ⟨g, o, none⟩) N c] 55)).alloc (.cells #[.int .i64 z] 3)).cell? ⟨w.heap.size + 1 + 1 + 1 + 1, 0, none⟩ = some (.int .i64 z) := by unfold World.cell?; simp only [hBnb]; rfl
  have hsz : (((((w.alloc (.map #[] 0)).alloc (.cells #[.int .i64 z, .slice none 0 0, .map (some w.heap.size), .bool false, .bool false, .int .i64 0, .slice none 0 0, .int .i64 0] 105)).alloc (.cells #[.pointer (some ⟨w.heap.size + 1, 0, none⟩)] 26)).alloc (.cells #[.slice (some ⟨g, o, none⟩) N c] 55)).alloc (.cells #[.int .i64 z] 3)).heap.size = w.heap.size + 1 + 1 + 1 + 1 + 1 := by simp
  have HI0 := Lib.hid (And.intro hinv (And.intro hBs (And.intro hBn hsz)))
  clear hdat hinv hBs hBn hBsb hBnb hsz hRT hCH hmm t1 t2 t0 t00 hz0
  generalize (((((w.alloc (.map #[] 0)).alloc (.cells #[.int .i64 z, .slice none 0 0, .map (some w.heap.size), .bool false, .bool false, .int .i64 0, .slice none 0 0, .int .i64 0] 105)).alloc (.cells #[.pointer (some ⟨w.heap.size + 1, 0, none⟩)] 26)).alloc (.cells #[.slice (some ⟨g, o, none⟩) N c] 55)).alloc (.cells #[.int .i64 z] 3)) = w1 at HI0 ⊢
  generalize hm : w.heap.size = m at HI0 ⊢
  have HM := Lib.hid hm
  clear hm
  have HSZ : Hid (w1.heap.size = m + 1 + 1 + 1 + 1 + 1) := Lib.hid HI0.out.2.2.2
  generalize hd : m + 1 = d at HI0 HSZ ⊢
  generalize hpx : d + 1 = px at HI0 HSZ ⊢
  generalize hbs : px + 1 = Bs at HI0 HSZ ⊢
  generalize hbn : Bs + 1 = Bn at HI0 HSZ ⊢
  have HQ : Hid (m < d ∧ d < px ∧ px < Bs ∧ Bs < Bn ∧ Bn < w1.heap.size) := Lib.hid (by have := HSZ.out; omega)
  clear hd hpx hbs hbn
  have hmx : Try.prog.follows .mixedOrders = true := by kernel_rfl
  obtain ⟨i4, hi4, hq0, hq1, hq2⟩ := info_parts infoBS
  have hq3 : (Value.slice none 0 0).cells.size = 1 := rfl
  have hq4 : (0 : Nat) < 1 := by decide
  refine wpIn_rangeFunc_ownF rfl (by omega) (gf := 108) (lb := #[.pointer (some ⟨Bs, 0, none⟩), .pointer (some ⟨Bn, 0, none⟩)]) rfl trivial (enters_of Try.func108 (by kernel_rfl) rfl)
    (chunk_stops Fence.wide (6 - 1) trivial rfl (by omega) Bs Bn w.heap.size g o c k z (by omega) (by have := HH.out.1; omega) (by have := HH.out.1; omega) w1 (by have := HQ.out; omega) (by have := HQ.out; omega) (by rw [← HH.out.1]; exact HI0.out.2.1) HI0.out.2.2.1)
    kpC_t (kpC_b (by have := HQ.out; have := HM.out; omega) (by have := HQ.out; omega) (by have := HQ.out; omega)) (Below.refl _ _) (fun _ => rfl)
    (fun pre W => ∃ kv kvs, InvOf w w1.heap.size px d m z k xs pre W kv kvs) (fun _ _ _ => False) InvOf.from (fun _ _ _ _ _ hs _ _ => hs) ⟨_, _, HI0.out.1⟩
    (fun x => { tmps := #[.slice (some ⟨g, o, none⟩) N c, .int .i64 z, undef, undef, .pointer none, .int .i64 0, .pointer (some ⟨px, 0, none⟩), .slice (some ⟨g, o + x.val * z, none⟩) z z, .int .i64 z, .bool false, .bool false, .int .i64 z, .bool false, .bool false, .bool false, .slice (some ⟨g, o, none⟩) N c, .int .i64 N, .int .i64 z, .int .i64 0, .bool false, .bool false, .bool false, .slice (some ⟨g, o, none⟩) N c, .int .i64 N, .int .i64 z, .int .i64 k, .int .i64 z, .bool true, .bool false, .bool false, .int .i64 z, .map (some m), .agg #[.int .i64 z, .slice none 0 0, .map (some m), .bool false, .bool false, .int .i64 0, .slice none 0 0, .int .i64 0], .pointer (some ⟨d, 0, none⟩), .slice (some ⟨g, o, none⟩) N c, .int .i64 z, .func (.func 108) #[] #[.pointer (some ⟨Bs, 0, none⟩), .pointer (some ⟨Bn, 0, none⟩)], .slice (some ⟨g, o + x.val * z, none⟩) z z, undef, undef, undef, undef, undef, undef, undef, undef, undef, undef, undef, undef], defers := [] }) ?assign ?body ?done ?stop
  case assign =>
    intro l x W K hK
    gi_wp2
    exact hK
  case body =>
    rintro l pre x W ⟨kv, kvs, hI⟩ hlen
    have HLEN := Lib.hid hlen
    clear hlen
    obtain ⟨Ak, ck, rfl, -⟩ := own_form hI.own
    have hdw := (Array.getElem?_eq_some_iff.1 hI.at_.blk).1
    have hpw := (Array.getElem?_eq_some_iff.1 hI.box).1
    have c6 : W.cell? ⟨px, 0, none⟩ = some (.pointer (some ⟨d, 0, none⟩)) := by unfold World.cell?; simp only [hI.box]; rfl
    obtain ⟨-, cd, -⟩ := hI.at_.cells
    have hcl := ch_len (HH.out.2.1.trans HH.out.1) x.isLt
    have hrow : Row W (fun j => j < w.heap.size) (.slice (some ⟨g, o + x.val * z, none⟩) z z) ((ch xs z x.val).map encB) := by
      refine ⟨_, z, by rw [List.length_map, hcl], by rw [List.length_map, hcl]; exact Nat.le_refl _, fun _ => ⟨g, o + x.val * z, rfl, hg, Nat.lt_of_lt_of_le hg hI.mov.size, fun j u hu => ?_⟩⟩
      have hj : j < z := by have := (List.getElem?_eq_some_iff.1 hu).1; rw [List.length_map, hcl] at this; exact this
      refine (hI.mov.cell (p := ⟨g, o + x.val * z + j, none⟩) hg (fun h => h)).trans ?_
      rw [Nat.add_assoc]
      refine HH.out.2.2 _ _ ?_
      rw [← hu, List.getElem?_map, List.getElem?_map, ch, List.getElem?_take_of_lt hj, List.getElem?_drop]
    have HCL := Lib.hid ((cloneB (hrow.moves (Moves.refl (fun _ => False) W).drew (fun _ _ _ h => h)) (fun u hu => by obtain ⟨b, _, rfl⟩ := List.mem_map.1 hu; rfl) (by rw [List.length_map, hcl]; omega)))
    have HI := Lib.hid hI
    have HKN : Hid (kvs.length + 1 ≤ maxLen ∧ (kvs.length + 1) * 24 ≤ 140737488355328) := Lib.hid (by
      have h1 := hI.at_.secs.1
      have h2 : kvs.length = pre.length := by simpa [ofS] using h1
      have := HLEN.out
      unfold maxLen; omega)
    have HCZ := Lib.hid hcl
    have hfCl : Fence.wide.fn 69 := trivial
    clear hI hrow hcl
    generalize o + x.val * z = ox at HCL ⊢
    -- ROUND
    gi_wp2
    refine region_round (S := fun w' => w'.cell? ⟨px, 0, none⟩ = some (.pointer (some ⟨d, 0, none⟩))) hmx (by kernel_rfl) c6 (fun hH0 => ?_)
    try simp only [List.size_toArray, List.length_cons, List.length_nil, Nat.reduceAdd]
    refine wpAnyH_take (i := 0) (oi := { dst := some 38, op := Op.load 26 (Operand.tmp 6), type := 26, pos := "disk.go:50", after := #[], guard := none }) (v := ?_) rfl (by kernel_rfl) (by kernel_rfl) (by kernel_rfl) (fun _ _ _ h => by cases h.1) (Or.inl ⟨by rfl, ?_⟩) (by assumption) ?_
    rotate_left
    · intro w hSw
      try dsimp only at hSw
      go_simp
      try with_reducible rfl
    try simp only [Act.put, List.setIfInBounds_toArray, List.set_cons_zero, List.set_cons_succ]
    refine wpAnyH_take (i := 1) (oi := { dst := some 39, op := Op.load 26 (Operand.tmp 6), type := 26, pos := "disk.go:50", after := #[], guard := none }) (v := ?_) rfl (by kernel_rfl) (by kernel_rfl) (by kernel_rfl) (fun _ _ _ h => by cases h.1) (Or.inl ⟨by rfl, ?_⟩) (by assumption) ?_
    rotate_left
    · intro w hSw
      try dsimp only at hSw
      go_simp
      try with_reducible rfl
    try simp only [Act.put, List.setIfInBounds_toArray, List.set_cons_zero, List.set_cons_succ]
    refine wpAnyH_take (i := 2) (oi := { dst := some 40, op := Op.nilCheck (Operand.tmp 39), type := 0, pos := "disk.go:50", after := #[{ on := 1, ground := Ground.data }], guard := none }) (v := ?_) rfl (by kernel_rfl) (by kernel_rfl) (by kernel_rfl) (fun _ _ _ h => by cases h.1) (Or.inl ⟨by rfl, ?_⟩) (by assumption) ?_
    rotate_left
    · intro w hSw
      try dsimp only at hSw
      go_simp
      try with_reducible rfl
    try simp only [Act.put, List.setIfInBounds_toArray, List.set_cons_zero, List.set_cons_succ]
    refine wpAnyH_take (i := 3) (oi := { dst := some 41, op := Op.fieldAddr 105 (Operand.tmp 40) 1, type := 0, pos := "disk.go:50", after := #[{ on := 2, ground := Ground.data }], guard := none }) (v := ?_) rfl (by kernel_rfl) (by kernel_rfl) (by kernel_rfl) (fun _ _ _ h => by cases h.1) (Or.inl ⟨by rfl, ?_⟩) (by assumption) ?_
    rotate_left
    · intro w hSw
      try dsimp only at hSw
      go_simp
      try with_reducible rfl
    try simp only [Act.put, List.setIfInBounds_toArray, List.set_cons_zero, List.set_cons_succ]
    refine wpAnyH_take (i := 5) (oi := { dst := some 43, op := Op.move (Operand.tmp 7), type := 55, pos := "disk.go:50", after := #[], guard := none }) (v := ?_) rfl (by kernel_rfl) (by kernel_rfl) (by kernel_rfl) (fun _ _ _ h => by cases h.1) (Or.inl ⟨by rfl, ?_⟩) (by assumption) ?_
    rotate_left
    · intro w hSw
      try dsimp only at hSw
      go_simp
      try with_reducible rfl
    try simp only [Act.put, List.setIfInBounds_toArray, List.set_cons_zero, List.set_cons_succ]
    refine wpAnyH_ready (rs := [4, 6]) (by kernel_rfl) (by simp) ?_
    refine AllReadyH.cons (o := { dst := some 42, op := Op.load 71 (Operand.tmp 41), type := 71, pos := "disk.go:50", after := #[{ on := 3, ground := Ground.data }], guard := none }) rfl (fun K hK => ?_) ?_
    · go_simp
      refine hK.out _ _ ?_ (fun hH1 => ?_)
      · exact hH0
      clear hK K hH0
      try simp only [Act.put, List.setIfInBounds_toArray, List.set_cons_zero, List.set_cons_succ]
      refine wpAnyH_ready (rs := [6]) (by kernel_rfl) (by simp) ?_
      refine AllReadyH.cons (o := { dst := some 44, op := Op.call { callee := Callee.value (Operand.func 69), args := #[Operand.tmp 43], argTypes := #[55] }, type := 55, pos := "disk.go:50", after := #[{ on := 5, ground := Ground.data }], guard := none }) rfl (fun K hK => ?_) ?_
      · go_simp
        go_at_call 69
        refine HCL.out.mono ?_
        rintro e w' ⟨v', rfl, hown', hm'⟩
        rw [List.length_map, HCZ.out] at hown'
        obtain ⟨Ac, cc, rfl, -⟩ := own_form hown'
        have hmw : Moves (fun _ => False) W w' := ⟨hm'.os, hm'.tape, hm'.output, hm'.size, hm'.block⟩
        obtain ⟨v1, w5, hrun, hn5, hg5, hl5⟩ := run_append_src (P := Try.prog) (w'.alloc (.cells #[.slice Ac z cc] 55)) w1.heap.size 71 71 55 i4 _ 1 24 Try.underlying71 hi4 hq0 hq1 hq2 hq3 hq4 (.slice Ak kvs.length ck) kvs.length kvs ((own_moves HI.out.own hmw (fun _ _ h => h)).alloc _) (some ⟨w'.heap.size, 0, none⟩) 1 1 [.slice Ac z cc] rfl (fun _ => ⟨_, rfl, World.news_of_block (cs := #[.slice Ac z cc]) (t := 55) (fr := (0, 0)) (heap_alloc_new _ _)⟩) (by simp [Value.oneCell']) HKN.out.1 HKN.out.2 (by have h1 := HI.out.lo.2.1; have h2 := hmw.size; simp; omega)
        obtain ⟨A1, k1, rfl, -⟩ := own_form hn5
        have hdw' : d < w'.heap.size := Nat.lt_of_lt_of_le hdw hmw.size
        have hpw' : px < w'.heap.size := Nat.lt_of_lt_of_le hpw hmw.size
        have hnd : some d ≠ (Value.slice Ak kvs.length ck).ownBlock := fun e => by have := (HI.out.own.lt d e.symm).1; have := HI.out.lo.2.2.1; omega
        have hnp : some px ≠ (Value.slice Ak kvs.length ck).ownBlock := fun e => by have := (HI.out.own.lt px e.symm).1; have := HI.out.lo.2.2.2.2; omega
        have c6' : w'.cell? ⟨px, 0, none⟩ = some (.pointer (some ⟨d, 0, none⟩)) := (hmw.cell (p := ⟨px, 0, none⟩) hpw (fun h => h)).trans c6
        have cd' : w'.cell? ⟨d, 1, none⟩ = some (.slice Ak kvs.length ck) := (hmw.cell (p := ⟨d, 1, none⟩) hdw (fun h => h)).trans cd
        have c65 : w5.cell? ⟨px, 0, none⟩ = some (.pointer (some ⟨d, 0, none⟩)) := (World.cell?_of_block (hg5.block px (by simp; omega) hnp)).trans ((World.cell?_alloc_lt _ _ ⟨px, 0, none⟩ hpw').trans c6')
        have cd5 : w5.cell? ⟨d, 1, none⟩ = some (.slice Ak kvs.length ck) := (World.cell?_of_block (hg5.block d (by simp; omega) hnd)).trans ((World.cell?_alloc_lt _ _ ⟨d, 1, none⟩ hdw').trans cd')
        have f5 : w5.frozen? ⟨d, 1, none⟩ = false := by
          have h5 : w5.heap[d]? = W.heap[d]? := (hg5.block d (by simp; omega) hnd).trans ((Below.heap_alloc _ _ _ hdw').trans (hmw.block d hdw (fun h => h)))
          simp [World.frozen?, h5, HI.out.at_.blk]
        have HST := Lib.hid (InvOf.step HI.out (HH.out.2.1.trans HH.out.1) hz (by omega) HLEN.out (Bs := Bs) (Bn := Bn) (by have := HQ.out; omega) hmw hown' hn5 hg5)
        clear hown' hm' hmw hn5 hg5 hl5 hnd hnp
        go_wp2_with fail
        refine hK.out _ _ ?_ (fun hH2 => ?_)
        · exact c6'
        clear hK K hH1
        try simp only [Act.put, List.setIfInBounds_toArray, List.set_cons_zero, List.set_cons_succ]
        refine wpAnyH_ready (rs := [7]) (by kernel_rfl) (by simp) ?_
        refine AllReadyH.cons (o := { dst := some 45, op := Op.buildSlice 71 1 #[(0, Operand.tmp 44)], type := 71, pos := "disk.go:50", after := #[{ on := 6, ground := Ground.data }], guard := none }) rfl (fun K hK => ?_) ?_
        · go_simp
          refine hK.out _ _ ?_ (fun hH3 => ?_)
          · exact (World.cell?_alloc_lt _ _ ⟨px, 0, none⟩ hpw').trans c6'
          clear hK K hH2
          try simp only [Act.put, List.setIfInBounds_toArray, List.set_cons_zero, List.set_cons_succ]
          refine wpAnyH_ready (rs := [8]) (by kernel_rfl) (by simp) ?_
          refine AllReadyH.cons (o := { dst := some 46, op := Op.call { callee := Callee.builtin Builtin.append, args := #[Operand.tmp 42, Operand.tmp 45], argTypes := #[71, 71] }, type := 71, pos := "disk.go:50", after := #[{ on := 4, ground := Ground.data }, { on := 7, ground := Ground.data }, { on := 6, ground := Ground.chain }], guard := none }) rfl (fun K hK => ?_) ?_
          · refine step_append_run rfl (.tmp 42) (.tmp 45) 71 rfl rfl rfl hrun ?_
            refine hK.out _ _ ?_ (fun hH4 => ?_)
            · exact c65
            clear hK K hH3
            try simp only [Act.put, List.setIfInBounds_toArray, List.set_cons_zero, List.set_cons_succ]
            refine wpAnyH_take (i := 9) (oi := { dst := some 47, op := Op.nilCheck (Operand.tmp 38), type := 0, pos := "disk.go:50", after := #[{ on := 0, ground := Ground.data }, { on := 0, ground := Ground.phase }, { on := 1, ground := Ground.phase }, { on := 2, ground := Ground.phase }, { on := 3, ground := Ground.phase }, { on := 4, ground := Ground.phase }, { on := 5, ground := Ground.phase }, { on := 6, ground := Ground.phase }, { on := 7, ground := Ground.phase }, { on := 8, ground := Ground.phase }], guard := none }) (v := ?_) rfl (by kernel_rfl) (by kernel_rfl) (by kernel_rfl) (fun _ _ _ h => by cases h.1) (Or.inl ⟨by rfl, ?_⟩) (by assumption) ?_
            rotate_left
            · intro w hSw
              try dsimp only at hSw
              go_simp
              try with_reducible rfl
            try simp only [Act.put, List.setIfInBounds_toArray, List.set_cons_zero, List.set_cons_succ]
            refine wpAnyH_take (i := 10) (oi := { dst := some 48, op := Op.fieldAddr 105 (Operand.tmp 47) 1, type := 0, pos := "disk.go:50", after := #[{ on := 9, ground := Ground.data }, { on := 0, ground := Ground.phase }, { on := 1, ground := Ground.phase }, { on := 2, ground := Ground.phase }, { on := 3, ground := Ground.phase }, { on := 4, ground := Ground.phase }, { on := 5, ground := Ground.phase }, { on := 6, ground := Ground.phase }, { on := 7, ground := Ground.phase }, { on := 8, ground := Ground.phase }], guard := none }) (v := ?_) rfl (by kernel_rfl) (by kernel_rfl) (by kernel_rfl) (fun _ _ _ h => by cases h.1) (Or.inl ⟨by rfl, ?_⟩) (by assumption) ?_
            rotate_left
            · intro w hSw
              try dsimp only at hSw
              go_simp
              try with_reducible rfl
            try simp only [Act.put, List.setIfInBounds_toArray, List.set_cons_zero, List.set_cons_succ]
            refine wpAnyH_ready (rs := [11]) (by kernel_rfl) (by simp) ?_
            refine AllReadyH.cons (o := { dst := none, op := Op.store 71 (Operand.tmp 48) (Operand.tmp 46), type := 0, pos := "disk.go:50", after := #[{ on := 10, ground := Ground.data }, { on := 8, ground := Ground.data }, { on := 8, ground := Ground.chain }, { on := 0, ground := Ground.phase }, { on := 1, ground := Ground.phase }, { on := 2, ground := Ground.phase }, { on := 3, ground := Ground.phase }, { on := 4, ground := Ground.phase }, { on := 5, ground := Ground.phase }, { on := 6, ground := Ground.phase }, { on := 7, ground := Ground.phase }, { on := 8, ground := Ground.phase }], guard := none }) rfl (fun K hK => ?_) ?_
            · go_simp
              refine hK.out _ _ ?_ (fun hH5 => ?_)
              · exact (World.cell?_setCell_far w5 ⟨d, 1, none⟩ ⟨px, 0, none⟩ _ (fun (e : d = px) => by have := HQ.out; omega)).trans c65
              clear hK K hH4
              try simp only [Act.put, List.setIfInBounds_toArray, List.set_cons_zero, List.set_cons_succ]
              refine wpAnyH_done (by kernel_rfl) ?_ _
              refine ⟨rfl, ?_⟩
              exact ⟨HST.out.1, HST.out.2.1, _, _, HST.out.2.2⟩
            exact AllReadyH.nil
          exact AllReadyH.nil
        exact AllReadyH.nil
      exact AllReadyH.nil
    refine AllReadyH.cons (o := { dst := some 44, op := Op.call { callee := Callee.value (Operand.func 69), args := #[Operand.tmp 43], argTypes := #[55] }, type := 55, pos := "disk.go:50", after := #[{ on := 5, ground := Ground.data }], guard := none }) rfl (fun K hK => ?_) ?_
    · go_simp
      go_at_call 69
      refine HCL.out.mono ?_
      rintro e w' ⟨v', rfl, hown', hm'⟩
      rw [List.length_map, HCZ.out] at hown'
      obtain ⟨Ac, cc, rfl, -⟩ := own_form hown'
      have hmw : Moves (fun _ => False) W w' := ⟨hm'.os, hm'.tape, hm'.output, hm'.size, hm'.block⟩
      obtain ⟨v1, w5, hrun, hn5, hg5, hl5⟩ := run_append_src (P := Try.prog) (w'.alloc (.cells #[.slice Ac z cc] 55)) w1.heap.size 71 71 55 i4 _ 1 24 Try.underlying71 hi4 hq0 hq1 hq2 hq3 hq4 (.slice Ak kvs.length ck) kvs.length kvs ((own_moves HI.out.own hmw (fun _ _ h => h)).alloc _) (some ⟨w'.heap.size, 0, none⟩) 1 1 [.slice Ac z cc] rfl (fun _ => ⟨_, rfl, World.news_of_block (cs := #[.slice Ac z cc]) (t := 55) (fr := (0, 0)) (heap_alloc_new _ _)⟩) (by simp [Value.oneCell']) HKN.out.1 HKN.out.2 (by have h1 := HI.out.lo.2.1; have h2 := hmw.size; simp; omega)
      obtain ⟨A1, k1, rfl, -⟩ := own_form hn5
      have hdw' : d < w'.heap.size := Nat.lt_of_lt_of_le hdw hmw.size
      have hpw' : px < w'.heap.size := Nat.lt_of_lt_of_le hpw hmw.size
      have hnd : some d ≠ (Value.slice Ak kvs.length ck).ownBlock := fun e => by have := (HI.out.own.lt d e.symm).1; have := HI.out.lo.2.2.1; omega
      have hnp : some px ≠ (Value.slice Ak kvs.length ck).ownBlock := fun e => by have := (HI.out.own.lt px e.symm).1; have := HI.out.lo.2.2.2.2; omega
      have c6' : w'.cell? ⟨px, 0, none⟩ = some (.pointer (some ⟨d, 0, none⟩)) := (hmw.cell (p := ⟨px, 0, none⟩) hpw (fun h => h)).trans c6
      have cd' : w'.cell? ⟨d, 1, none⟩ = some (.slice Ak kvs.length ck) := (hmw.cell (p := ⟨d, 1, none⟩) hdw (fun h => h)).trans cd
      have c65 : w5.cell? ⟨px, 0, none⟩ = some (.pointer (some ⟨d, 0, none⟩)) := (World.cell?_of_block (hg5.block px (by simp; omega) hnp)).trans ((World.cell?_alloc_lt _ _ ⟨px, 0, none⟩ hpw').trans c6')
      have cd5 : w5.cell? ⟨d, 1, none⟩ = some (.slice Ak kvs.length ck) := (World.cell?_of_block (hg5.block d (by simp; omega) hnd)).trans ((World.cell?_alloc_lt _ _ ⟨d, 1, none⟩ hdw').trans cd')
      have f5 : w5.frozen? ⟨d, 1, none⟩ = false := by
        have h5 : w5.heap[d]? = W.heap[d]? := (hg5.block d (by simp; omega) hnd).trans ((Below.heap_alloc _ _ _ hdw').trans (hmw.block d hdw (fun h => h)))
        simp [World.frozen?, h5, HI.out.at_.blk]
      have HST := Lib.hid (InvOf.step HI.out (HH.out.2.1.trans HH.out.1) hz (by omega) HLEN.out (Bs := Bs) (Bn := Bn) (by have := HQ.out; omega) hmw hown' hn5 hg5)
      clear hown' hm' hmw hn5 hg5 hl5 hnd hnp
      go_wp2_with fail
      refine hK.out _ _ ?_ (fun hH1 => ?_)
      · exact c6'
      clear hK K hH0
      try simp only [Act.put, List.setIfInBounds_toArray, List.set_cons_zero, List.set_cons_succ]
      refine wpAnyH_ready (rs := [4, 7]) (by kernel_rfl) (by simp) ?_
      refine AllReadyH.cons (o := { dst := some 42, op := Op.load 71 (Operand.tmp 41), type := 71, pos := "disk.go:50", after := #[{ on := 3, ground := Ground.data }], guard := none }) rfl (fun K hK => ?_) ?_
      · go_simp
        refine hK.out _ _ ?_ (fun hH2 => ?_)
        · exact hH1
        clear hK K hH1
        try simp only [Act.put, List.setIfInBounds_toArray, List.set_cons_zero, List.set_cons_succ]
        refine wpAnyH_ready (rs := [7]) (by kernel_rfl) (by simp) ?_
        refine AllReadyH.cons (o := { dst := some 45, op := Op.buildSlice 71 1 #[(0, Operand.tmp 44)], type := 71, pos := "disk.go:50", after := #[{ on := 6, ground := Ground.data }], guard := none }) rfl (fun K hK => ?_) ?_
        · go_simp
          refine hK.out _ _ ?_ (fun hH3 => ?_)
          · exact (World.cell?_alloc_lt _ _ ⟨px, 0, none⟩ hpw').trans c6'
          clear hK K hH2
          try simp only [Act.put, List.setIfInBounds_toArray, List.set_cons_zero, List.set_cons_succ]
          refine wpAnyH_ready (rs := [8]) (by kernel_rfl) (by simp) ?_
          refine AllReadyH.cons (o := { dst := some 46, op := Op.call { callee := Callee.builtin Builtin.append, args := #[Operand.tmp 42, Operand.tmp 45], argTypes := #[71, 71] }, type := 71, pos := "disk.go:50", after := #[{ on := 4, ground := Ground.data }, { on := 7, ground := Ground.data }, { on := 6, ground := Ground.chain }], guard := none }) rfl (fun K hK => ?_) ?_
          · refine step_append_run rfl (.tmp 42) (.tmp 45) 71 rfl rfl rfl hrun ?_
            refine hK.out _ _ ?_ (fun hH4 => ?_)
            · exact c65
            clear hK K hH3
            try simp only [Act.put, List.setIfInBounds_toArray, List.set_cons_zero, List.set_cons_succ]
            refine wpAnyH_take (i := 9) (oi := { dst := some 47, op := Op.nilCheck (Operand.tmp 38), type := 0, pos := "disk.go:50", after := #[{ on := 0, ground := Ground.data }, { on := 0, ground := Ground.phase }, { on := 1, ground := Ground.phase }, { on := 2, ground := Ground.phase }, { on := 3, ground := Ground.phase }, { on := 4, ground := Ground.phase }, { on := 5, ground := Ground.phase }, { on := 6, ground := Ground.phase }, { on := 7, ground := Ground.phase }, { on := 8, ground := Ground.phase }], guard := none }) (v := ?_) rfl (by kernel_rfl) (by kernel_rfl) (by kernel_rfl) (fun _ _ _ h => by cases h.1) (Or.inl ⟨by rfl, ?_⟩) (by assumption) ?_
            rotate_left
            · intro w hSw
              try dsimp only at hSw
              go_simp
              try with_reducible rfl
            try simp only [Act.put, List.setIfInBounds_toArray, List.set_cons_zero, List.set_cons_succ]
            refine wpAnyH_take (i := 10) (oi := { dst := some 48, op := Op.fieldAddr 105 (Operand.tmp 47) 1, type := 0, pos := "disk.go:50", after := #[{ on := 9, ground := Ground.data }, { on := 0, ground := Ground.phase }, { on := 1, ground := Ground.phase }, { on := 2, ground := Ground.phase }, { on := 3, ground := Ground.phase }, { on := 4, ground := Ground.phase }, { on := 5, ground := Ground.phase }, { on := 6, ground := Ground.phase }, { on := 7, ground := Ground.phase }, { on := 8, ground := Ground.phase }], guard := none }) (v := ?_) rfl (by kernel_rfl) (by kernel_rfl) (by kernel_rfl) (fun _ _ _ h => by cases h.1) (Or.inl ⟨by rfl, ?_⟩) (by assumption) ?_
            rotate_left
            · intro w hSw
              try dsimp only at hSw
              go_simp
              try with_reducible rfl
            try simp only [Act.put, List.setIfInBounds_toArray, List.set_cons_zero, List.set_cons_succ]
            refine wpAnyH_ready (rs := [11]) (by kernel_rfl) (by simp) ?_
            refine AllReadyH.cons (o := { dst := none, op := Op.store 71 (Operand.tmp 48) (Operand.tmp 46), type := 0, pos := "disk.go:50", after := #[{ on := 10, ground := Ground.data }, { on := 8, ground := Ground.data }, { on := 8, ground := Ground.chain }, { on := 0, ground := Ground.phase }, { on := 1, ground := Ground.phase }, { on := 2, ground := Ground.phase }, { on := 3, ground := Ground.phase }, { on := 4, ground := Ground.phase }, { on := 5, ground := Ground.phase }, { on := 6, ground := Ground.phase }, { on := 7, ground := Ground.phase }, { on := 8, ground := Ground.phase }], guard := none }) rfl (fun K hK => ?_) ?_
            · go_simp
              refine hK.out _ _ ?_ (fun hH5 => ?_)
              · exact (World.cell?_setCell_far w5 ⟨d, 1, none⟩ ⟨px, 0, none⟩ _ (fun (e : d = px) => by have := HQ.out; omega)).trans c65
              clear hK K hH4
              try simp only [Act.put, List.setIfInBounds_toArray, List.set_cons_zero, List.set_cons_succ]
              refine wpAnyH_done (by kernel_rfl) ?_ _
              refine ⟨rfl, ?_⟩
              exact ⟨HST.out.1, HST.out.2.1, _, _, HST.out.2.2⟩
            exact AllReadyH.nil
          exact AllReadyH.nil
        exact AllReadyH.nil
      refine AllReadyH.cons (o := { dst := some 45, op := Op.buildSlice 71 1 #[(0, Operand.tmp 44)], type := 71, pos := "disk.go:50", after := #[{ on := 6, ground := Ground.data }], guard := none }) rfl (fun K hK => ?_) ?_
      · go_simp
        refine hK.out _ _ ?_ (fun hH2 => ?_)
        · exact (World.cell?_alloc_lt _ _ ⟨px, 0, none⟩ hpw').trans c6'
        clear hK K hH1
        try simp only [Act.put, List.setIfInBounds_toArray, List.set_cons_zero, List.set_cons_succ]
        refine wpAnyH_ready (rs := [4]) (by kernel_rfl) (by simp) ?_
        refine AllReadyH.cons (o := { dst := some 42, op := Op.load 71 (Operand.tmp 41), type := 71, pos := "disk.go:50", after := #[{ on := 3, ground := Ground.data }], guard := none }) rfl (fun K hK => ?_) ?_
        · go_simp
          refine hK.out _ _ ?_ (fun hH3 => ?_)
          · exact hH2
          clear hK K hH2
          try simp only [Act.put, List.setIfInBounds_toArray, List.set_cons_zero, List.set_cons_succ]
          refine wpAnyH_ready (rs := [8]) (by kernel_rfl) (by simp) ?_
          refine AllReadyH.cons (o := { dst := some 46, op := Op.call { callee := Callee.builtin Builtin.append, args := #[Operand.tmp 42, Operand.tmp 45], argTypes := #[71, 71] }, type := 71, pos := "disk.go:50", after := #[{ on := 4, ground := Ground.data }, { on := 7, ground := Ground.data }, { on := 6, ground := Ground.chain }], guard := none }) rfl (fun K hK => ?_) ?_
          · refine step_append_run rfl (.tmp 42) (.tmp 45) 71 rfl rfl rfl hrun ?_
            refine hK.out _ _ ?_ (fun hH4 => ?_)
            · exact c65
            clear hK K hH3
            try simp only [Act.put, List.setIfInBounds_toArray, List.set_cons_zero, List.set_cons_succ]
            refine wpAnyH_take (i := 9) (oi := { dst := some 47, op := Op.nilCheck (Operand.tmp 38), type := 0, pos := "disk.go:50", after := #[{ on := 0, ground := Ground.data }, { on := 0, ground := Ground.phase }, { on := 1, ground := Ground.phase }, { on := 2, ground := Ground.phase }, { on := 3, ground := Ground.phase }, { on := 4, ground := Ground.phase }, { on := 5, ground := Ground.phase }, { on := 6, ground := Ground.phase }, { on := 7, ground := Ground.phase }, { on := 8, ground := Ground.phase }], guard := none }) (v := ?_) rfl (by kernel_rfl) (by kernel_rfl) (by kernel_rfl) (fun _ _ _ h => by cases h.1) (Or.inl ⟨by rfl, ?_⟩) (by assumption) ?_
            rotate_left
            · intro w hSw
              try dsimp only at hSw
              go_simp
              try with_reducible rfl
            try simp only [Act.put, List.setIfInBounds_toArray, List.set_cons_zero, List.set_cons_succ]
            refine wpAnyH_take (i := 10) (oi := { dst := some 48, op := Op.fieldAddr 105 (Operand.tmp 47) 1, type := 0, pos := "disk.go:50", after := #[{ on := 9, ground := Ground.data }, { on := 0, ground := Ground.phase }, { on := 1, ground := Ground.phase }, { on := 2, ground := Ground.phase }, { on := 3, ground := Ground.phase }, { on := 4, ground := Ground.phase }, { on := 5, ground := Ground.phase }, { on := 6, ground := Ground.phase }, { on := 7, ground := Ground.phase }, { on := 8, ground := Ground.phase }], guard := none }) (v := ?_) rfl (by kernel_rfl) (by kernel_rfl) (by kernel_rfl) (fun _ _ _ h => by cases h.1) (Or.inl ⟨by rfl, ?_⟩) (by assumption) ?_
            rotate_left
            · intro w hSw
              try dsimp only at hSw
              go_simp
              try with_reducible rfl
            try simp only [Act.put, List.setIfInBounds_toArray, List.set_cons_zero, List.set_cons_succ]
            refine wpAnyH_ready (rs := [11]) (by kernel_rfl) (by simp) ?_
            refine AllReadyH.cons (o := { dst := none, op := Op.store 71 (Operand.tmp 48) (Operand.tmp 46), type := 0, pos := "disk.go:50", after := #[{ on := 10, ground := Ground.data }, { on := 8, ground := Ground.data }, { on := 8, ground := Ground.chain }, { on := 0, ground := Ground.phase }, { on := 1, ground := Ground.phase }, { on := 2, ground := Ground.phase }, { on := 3, ground := Ground.phase }, { on := 4, ground := Ground.phase }, { on := 5, ground := Ground.phase }, { on := 6, ground := Ground.phase }, { on := 7, ground := Ground.phase }, { on := 8, ground := Ground.phase }], guard := none }) rfl (fun K hK => ?_) ?_
            · go_simp
              refine hK.out _ _ ?_ (fun hH5 => ?_)
              · exact (World.cell?_setCell_far w5 ⟨d, 1, none⟩ ⟨px, 0, none⟩ _ (fun (e : d = px) => by have := HQ.out; omega)).trans c65
              clear hK K hH4
              try simp only [Act.put, List.setIfInBounds_toArray, List.set_cons_zero, List.set_cons_succ]
              refine wpAnyH_done (by kernel_rfl) ?_ _
              refine ⟨rfl, ?_⟩
              exact ⟨HST.out.1, HST.out.2.1, _, _, HST.out.2.2⟩
            exact AllReadyH.nil
          exact AllReadyH.nil
        exact AllReadyH.nil
      exact AllReadyH.nil
    exact AllReadyH.nil
  case done =>
    rintro D ys W hD rfl ⟨kv, kvs, hI⟩ hK
    have c6 : W.cell? ⟨px, 0, none⟩ = some (.pointer (some ⟨d, 0, none⟩)) := by unfold World.cell?; simp only [hI.box]; rfl
    obtain ⟨kv2, kvs2, h2⟩ := InvOf.from _ W _ (some D) ⟨kv, kvs, hI⟩ (grownBy_putObj' W D (.deferred none)) (fun r e => by cases e; exact ⟨hD, _, hK, rfl⟩)
    have H2 := Lib.hid h2
    clear h2 hI
    gi_wp2
    refine ⟨by simp, .inl ⟨_, _, rfl, run_takeDeferred hK, ?_⟩⟩
    exact ⟨_, results_tmp2 rfl _ _ _, d, rfl, ⟨_, _, _, _, _, _, H2.out.at_⟩, H2.out.mov⟩
  case stop =>
    rintro D c pre W _ _ h _
    exact h.elim
end Go.Proofs.Ytnagpianaghjeaa.Pl

/-
  The statements' own 'known': its last region.
-/
import Derived.Test.YtbfnmgjpkieaoaaTabKnown
namespace Go.Proofs.Ytbfnmgjpkieaoaa.Tb
open Go Go.RowKit Go.Maps Go.Sort Go.Proofs Go.Shelf

def findReg (n : Nat) : Code → Option Code
  | .region k ops d => if k = n then some (.region k ops d) else none
  | .rangeFunc _ _ a c => match findReg n a with
    | some x => some x
    | none => findReg n c
  | .seq a b => match findReg n a with
    | some x => some x
    | none => findReg n b
  | .block _ c => findReg n c
  | .loop c => findReg n c
  | .scope c => findReg n c
  | .cond _ a b => match findReg n a with
    | some x => some x
    | none => findReg n b
  | _ => none
theorem cells_nm {w : World} {b : Nat} {x : Nm} (h : w.rangeAt b 0 (encM x)) : (loadCells ⟨b, 0, none⟩ 32).run Try.prog w = .ok (encM x).toArray w := by
  have := run_loadCells_list (P := Try.prog) w ⟨b, 0, none⟩ (encM x) (fun j v hv => by rw [Addr.add_mid]; exact h j v hv)
  rwa [encM_len] at this
noncomputable def knownC (n : Nat) : Code := (Try.f42.body.bind (findReg n)).getD .skip
set_option maxRecDepth 100000 in
set_option maxHeartbeats 4000000 in
theorem known9 {code : Code} (hcode : knownC 9 = code) {n : Nm} {W2 w8 : World} {b k1 g o c : Nat} {Q : Exit → Act → World → Prop} {c0 c3 c15 c16 c17 c18 c19 c20 c21 c22 c23 c24 c25 c26 c27 c28 c29 c30 c31 c32 c33 c34 c35 c36 c37 c38 c39 c40 c41 c42 c43 c44 c45 c46 c47 c48 c49 c50 c51 c52 c53 c54 c55 c56 c57 c58 c59 c60 c61 c62 c63 c64 c65 c66 c67 c68 c69 c70 c71 c72 c73 c74 c75 c76 c77 c78 c79 c80 c81 c82 c83 c84 c85 c86 c87 c88 c89 c90 c91 c92 c93 c94 c95 c96 c97 c98 c99 c100 c101 c102 c103 c104 c105 c106 c107 c108 c109 c110 c111 c112 c113 : Value}
    (hg3 : txt n = sAB) (hg0 : (encM n)[0]? = some (.int .u8 97)) (hg2' : (encM n)[2]? = some (.int .u8 0)) (hrr : ∀ W M, KSt W2 b b M W → W.rangeAt k1 0 (encM n)) (hs8 : KSt W2 b b [] w8) (hg8 : g < w8.heap.size)
    (r0 : w8.cell? ⟨g, o, none⟩ = some (.string sAB)) (r1 : w8.cell? ⟨g, o + 1, none⟩ = some (.int .i64 6))
    (hQ : ∀ (L : List Value) (w9 : World), KSt W2 b b [] w9 → Q .normal ⟨List.toArray (.bool true :: L), []⟩ w9) :
    Code.wp Try.prog code Q ⟨List.toArray (c0 :: .pointer (some ⟨k1, 0, none⟩) :: .int .i64 0 :: c3 :: .int .i64 4 :: .pointer (some ⟨b, 0, none⟩) :: .int .i64 0 :: .int .i64 0 :: .int .i64 5 :: .int .i64 0 :: .int .i64 6 :: .bool true :: .slice (some ⟨g, o, none⟩) 1 c :: .int .i64 6 :: .bool true :: c15 :: c16 :: c17 :: c18 :: c19 :: c20 :: c21 :: c22 :: c23 :: c24 :: c25 :: c26 :: c27 :: c28 :: c29 :: c30 :: c31 :: c32 :: c33 :: c34 :: c35 :: c36 :: c37 :: c38 :: c39 :: c40 :: c41 :: c42 :: c43 :: c44 :: c45 :: c46 :: c47 :: c48 :: c49 :: c50 :: c51 :: c52 :: c53 :: c54 :: c55 :: c56 :: c57 :: c58 :: c59 :: c60 :: c61 :: c62 :: c63 :: c64 :: c65 :: c66 :: c67 :: c68 :: c69 :: c70 :: c71 :: c72 :: c73 :: c74 :: c75 :: c76 :: c77 :: c78 :: c79 :: c80 :: c81 :: c82 :: c83 :: c84 :: c85 :: c86 :: c87 :: c88 :: c89 :: c90 :: c91 :: c92 :: c93 :: c94 :: c95 :: c96 :: c97 :: c98 :: c99 :: c100 :: c101 :: c102 :: c103 :: c104 :: c105 :: c106 :: c107 :: c108 :: c109 :: c110 :: c111 :: c112 :: c113 :: []), []⟩ w8 := by
  subst hcode
  conv => arg 2; whnf
  have HG := Lib.hid (And.intro hg3 (And.intro hg0 hg2'))
  have HR := Lib.hid hrr
  have S8 := Lib.hid hs8
  have HQ := Lib.hid hQ
  have HSt : Hid (∀ W, LenCell W → Calls Try.prog 45 #[.agg (encM n).toArray] W (ValPost W (.string sAB))) := Lib.hid (fun W h => by rw [← hg3]; exact string_nm n h)
  clear hg3 hg0 hg2' hrr hs8 hQ
  repeat (first
    | (refine wpList_load_at (op := ⟨some 55, _, _, _, _, _⟩) (by kernel_rfl) 77 (.tmp 1) rfl _ _ rfl (load_nm (HR.out _ _ S8.out)) ?_
       go_frame)
    | (go_at_call 45
       refine (HSt.out _ S8.out.len).mono ?_
       rintro e w9 ⟨rfl, hm9⟩
       have S9 := Lib.hid (S8.out.next0 hm9)
       have t0 : w9.cell? ⟨g, o, none⟩ = some (.string sAB) := (hm9.cell (p := ⟨g, o, none⟩) hg8 (fun h => h)).trans r0
       have t1 : w9.cell? ⟨g, o + 1, none⟩ = some (.int .i64 6) := (hm9.cell (p := ⟨g, o + 1, none⟩) hg8 (fun h => h)).trans r1
       have e0 : w9.cell? ⟨k1, 0, none⟩ = some (.int .u8 97) := (HR.out _ _ S9.out) 0 _ HG.out.2.1
       have e2 : w9.cell? ⟨k1, 2, none⟩ = some (.int .u8 0) := (HR.out _ _ S9.out) 2 _ HG.out.2.2
       clear r0 r1 hm9 hg8
       dsimp only)
    | (go_at_call 47
       refine (len_any S9.out.tab).mono ?_
       rintro e w10 ⟨rfl, rfl⟩
       dsimp only)
    | go_values | go_skip | go_guarded | go_step | go_upon | go_back)
  exact HQ.out _ _ S9.out
end Go.Proofs.Ytbfnmgjpkieaoaa.Tb

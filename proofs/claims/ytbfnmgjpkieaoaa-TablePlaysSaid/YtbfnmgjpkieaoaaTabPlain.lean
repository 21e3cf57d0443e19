/-
  Names: plain words about a name's bytes and its text (no program in sight).
-/
import Derived.Test.YtbfnmgjpkieaoaaTabString
import Derived.Sort.Walk0
import Derived.Lib.IndexLaws
import Derived.Shelf.SlSortCmp.NoneTotal
namespace Go.Proofs.Ytbfnmgjpkieaoaa.Tb
open Go Go.RowKit Go.Maps Go.Sort Go.Proofs Go.Shelf

/-- A name: 32 bytes. -/
abbrev Nm := {l : List UInt8 // l.length = 32}
instance : Inhabited Nm := ⟨⟨List.replicate 32 0, by simp⟩⟩
def ints (n : Nm) : List Int := n.1.map fun b => (b.toNat : Int)
theorem ints_len (n : Nm) : (ints n).length = 32 := by unfold ints; rw [List.length_map, n.2]
theorem byte_of_int {a b : UInt8} (h : (a.toNat : Int) = b.toNat) : a = b := UInt8.toNat_inj.1 (by omega)
theorem ints_inj {n m : Nm} (h : ints n = ints m) : n = m := by
  refine Subtype.ext ?_
  unfold ints at h
  exact (List.map_inj_right (fun a b h => byte_of_int h)).1 h
/-- A name's cells. -/
def encM (n : Nm) : List Value := n.1.map fun b => Value.int .u8 (b.toNat : Int)
theorem encM_len (n : Nm) : (encM n).length = 32 := by unfold encM; rw [List.length_map, n.2]
theorem cellsN_ints (n : Nm) : cellsN (ints n) = encM n := by unfold cellsN ints encM; rw [List.map_map]; rfl
theorem encN_ints (n : Nm) : encN (ints n) = .agg (encM n).toArray := by unfold encN; rw [cellsN_ints]
theorem encM_one (n : Nm) : ∀ v ∈ encM n, v.oneCell' = true := fun v hv => by obtain ⟨x, -, rfl⟩ := List.mem_map.1 hv; rfl
theorem encM_inj {n m : Nm} (h : encM n = encM m) : n = m := by
  refine Subtype.ext ?_
  unfold encM at h
  exact (List.map_inj_right (fun a b h => byte_of_int (Value.int.inj h).2)).1 h

/-! ### the order -/
theorem cmpB_lt : ∀ a b : List UInt8, Lib.compareBytes a b < 0 ↔ a < b
  | [], [] => by simp [Lib.compareBytes]
  | [], _ :: _ => by simp [Lib.compareBytes]
  | _ :: _, [] => by simp [Lib.compareBytes]
  | a :: ar, b :: bs => by
    unfold Lib.compareBytes
    rw [List.cons_lt_cons_iff, ← cmpB_lt ar bs]
    by_cases h : a < b
    · simp [h]
    · by_cases h2 : b < a
      · have : a ≠ b := fun e => by subst e; exact h h2
        simp [h, h2, this]
      · have : a = b := UInt8.le_antisymm (UInt8.not_lt.1 h2) (UInt8.not_lt.1 h)
        subst this
        simp [h]
theorem cmpB_zero : ∀ a b : List UInt8, Lib.compareBytes a b = 0 ↔ a = b
  | [], [] => by simp [Lib.compareBytes]
  | [], _ :: _ => by simp [Lib.compareBytes]
  | _ :: _, [] => by simp [Lib.compareBytes]
  | a :: ar, b :: bs => by
    unfold Lib.compareBytes
    rw [List.cons.injEq, ← cmpB_zero ar bs]
    by_cases h : a < b
    · have : a ≠ b := fun e => by subst e; exact UInt8.lt_irrefl _ h
      simp [h, this]
    · by_cases h2 : b < a
      · have : a ≠ b := fun e => by subst e; exact h h2
        simp [h, h2, this]
      · have : a = b := UInt8.le_antisymm (UInt8.not_lt.1 h2) (UInt8.not_lt.1 h)
        subst this
        simp [h]
def cmpN (x y : Nm) : Int := Lib.compareBytes x.1 y.1
theorem ltN (x y : Nm) : ltOf cmpN x y = decide (x.1 < y.1) := by
  unfold ltOf cmpN
  congr 1
  simp only [eq_iff_iff]
  exact cmpB_lt _ _
theorem swoN : SWO (ltOf cmpN) where
  irrefl x := by rw [ltN]; simp [List.lt_irrefl]
  trans x y z h1 h2 := by rw [ltN] at *; simp only [decide_eq_true_eq] at *; exact List.lt_trans h1 h2
  ntrans x y z h1 h2 := by
    rw [ltN] at *
    simp only [decide_eq_false_iff_not, List.not_lt] at *
    exact List.le_trans h2 h1
theorem totN (x y : Nm) (h1 : ltOf cmpN x y = false) (h2 : ltOf cmpN y x = false) : x = y := by
  rw [ltN] at h1 h2
  simp only [decide_eq_false_iff_not, List.not_lt] at h1 h2
  exact Subtype.ext (List.le_antisymm h2 h1)
def sortN (ks : List Nm) : List Nm := ks.mergeSort (fun x y => !(ltOf cmpN) y x)
theorem sortN_len (ks : List Nm) : (sortN ks).length = ks.length := List.length_mergeSort _
theorem leN_trans (a b c : Nm) (h1 : (!(ltOf cmpN) b a) = true) (h2 : (!(ltOf cmpN) c b) = true) : (!(ltOf cmpN) c a) = true := by
  simp only [Bool.not_eq_true'] at *
  exact swoN.ntrans _ _ _ h2 h1
theorem leN_total (a b : Nm) : ((!(ltOf cmpN) b a) || (!(ltOf cmpN) a b)) = true := by
  rw [ltN, ltN]
  simp only [Bool.or_eq_true, Bool.not_eq_true', decide_eq_false_iff_not, List.not_lt]
  exact List.le_total _ _
theorem sortN_pairwise (l : List Nm) : (sortN l).Pairwise (fun a b => (!(ltOf cmpN) b a) = true) := List.pairwise_mergeSort leN_trans leN_total l
theorem sortN_isPerm (l : List Nm) : (sortN l).Perm l := List.mergeSort_perm l _
theorem sortN_unique {l l' : List Nm} (h : l.Perm l') (hl : l.Pairwise (fun a b => (!(ltOf cmpN) b a) = true)) (hl' : l'.Pairwise (fun a b => (!(ltOf cmpN) b a) = true)) : l = l' := by
  refine List.Perm.eq_of_pairwise (le := fun a b => (!(ltOf cmpN) b a) = true) (fun a b _ _ h1 h2 => ?_) hl hl' h
  simp only [Bool.not_eq_true'] at h1 h2
  exact totN a b h2 h1
theorem sortN_perm {l l' : List Nm} (h : l.Perm l') : sortN l = sortN l' :=
  sortN_unique (((sortN_isPerm l).trans h).trans (sortN_isPerm l').symm) (sortN_pairwise l) (sortN_pairwise l')

/-! ### a name's text -/
def cutN (l : List UInt8) : List UInt8 := l.takeWhile (fun b => b != 0)
def txt (n : Nm) : ByteArray := ⟨(cutN n.1).toArray⟩
theorem txt_data (n : Nm) : (txt n).data.toList = cutN n.1 := rfl
theorem txt_size (n : Nm) : (txt n).size = (cutN n.1).length := by simp [txt, ByteArray.size]
theorem cutN_le (l : List UInt8) : (cutN l).length ≤ l.length := (List.takeWhile_sublist _).length_le
theorem cutN_no (l : List UInt8) : ∀ b ∈ cutN l, b ≠ 0 := fun b hb => by
  have h := List.all_takeWhile (p := fun b : UInt8 => b != 0) (l := l)
  have := List.all_eq_true.1 h b hb
  simpa using this
theorem indexByte_no : ∀ {l : List UInt8}, (∀ b ∈ l, b ≠ 0) → Lib.indexByte l 0 = -1
  | [], _ => rfl
  | b :: l, h => by
    have h1 : (b == 0) = false := by simpa using h b (by simp)
    have h2 := indexByte_no (l := l) fun x hx => h x (by simp [hx])
    unfold Lib.indexByte
    rw [h2, h1]
    rfl
theorem indexByte_yes {l : List UInt8} {b : UInt8} (hb : b ∈ l) (h0 : b = 0) : 0 ≤ Lib.indexByte l 0 := by
  subst h0
  have h := Lib.indexByte_ge l 0
  by_cases h2 : Lib.indexByte l 0 = -1
  · obtain ⟨k, hk⟩ := List.mem_iff_getElem?.1 hb
    exact absurd hk (Lib.indexByte_none h2 k)
  · omega
theorem cut_eq (l : List UInt8) : (Lib.cut l [0]).1 = cutN l := by
  unfold Lib.cut cutN
  rw [Lib.index_one]
  induction l with
  | nil => rfl
  | cons b l ih =>
    unfold Lib.indexByte
    by_cases h : b = 0
    · subst h
      simp
    · have h1 : (b == 0) = false := by simpa using h
      have h2 : (b != 0) = true := by simpa using h
      rw [List.takeWhile_cons, if_pos h2]
      simp only [h1, Bool.false_eq_true, if_false]
      have hge := Lib.indexByte_ge l 0
      by_cases h3 : Lib.indexByte l 0 = -1
      · rw [h3] at ih ⊢
        simp only [show ¬ (0 : Int) ≤ -1 by omega, if_false] at ih
        simp only [beq_self_eq_true, if_true, show ¬ (0 : Int) ≤ -1 by omega, if_false]
        rw [← ih]
      · have h4 : (Lib.indexByte l 0 == -1) = false := by simpa using h3
        obtain ⟨k, hk⟩ : ∃ k : Nat, Lib.indexByte l 0 = k := ⟨(Lib.indexByte l 0).toNat, by omega⟩
        rw [hk] at ih ⊢
        rw [hk] at h4
        rw [if_pos (by omega)] at ih
        simp only [h4, Bool.false_eq_true, if_false]
        rw [if_pos (by omega)]
        simp only [Int.toNat_natCast] at ih
        rw [show ((k : Int) + 1).toNat = k + 1 by omega, List.take_succ_cons, ih]
theorem strOf_ints (n : Nm) : (strOfNums (ints n)).data.toList = n.1 := by
  rw [strOfNums_data]
  unfold ints
  rw [List.map_map]
  conv => rhs; rw [← List.map_id n.1]
  refine List.map_congr_left fun b _ => ?_
  simp
theorem textOf_ints (n : Nm) : textOf (ints n) = txt n := by
  unfold textOf txt
  rw [strOf_ints, cut_eq]

/-- Bytes, and 0 behind: 32 of them. -/
def padL (l : List UInt8) : List UInt8 := (l ++ List.replicate (32 - l.length) 0).take 32
theorem padL_len (l : List UInt8) : (padL l).length = 32 := by unfold padL; simp; omega
/-- A text's name. -/
def nm (s : ByteArray) : Nm := ⟨padL s.data.toList, padL_len _⟩
theorem padL_short {l : List UInt8} (h : l.length ≤ 32) : padL l = l ++ List.replicate (32 - l.length) 0 := by
  unfold padL
  rw [List.take_of_length_le (by simp; omega)]
theorem size_data (s : ByteArray) : s.data.toList.length = s.size := rfl
theorem nameOf_nm {s : ByteArray} (h : s.size ≤ 32) : nameOf s = ints (nm s) := by
  unfold nameOf ints nm
  simp only
  rw [padL_short h, List.map_append, List.map_replicate]
  rfl
/-- A text that may be a name. -/
def GoodT (s : ByteArray) : Prop := 1 ≤ s.size ∧ s.size ≤ 32 ∧ ∀ b ∈ s.data.toList, b ≠ 0
instance (s : ByteArray) : Decidable (GoodT s) := by unfold GoodT; infer_instance
/-- A name that is a text's. -/
def goodN (n : Nm) : Bool := decide (1 ≤ (cutN n.1).length ∧ padL (cutN n.1) = n.1)
theorem cutN_append {l r : List UInt8} (h : ∀ b ∈ l, b ≠ 0) : cutN (l ++ r) = l ++ cutN r := by
  unfold cutN
  rw [List.takeWhile_append_of_pos]
  intro b hb
  simpa using h b hb
theorem cutN_zeros (k : Nat) : cutN (List.replicate k 0) = [] := by
  cases k <;> simp [cutN, List.replicate_succ]
theorem cutN_pad {l : List UInt8} (h : l.length ≤ 32) (hn : ∀ b ∈ l, b ≠ 0) : cutN (padL l) = l := by
  rw [padL_short h, cutN_append hn, cutN_zeros, List.append_nil]
theorem txt_nm {s : ByteArray} (h : GoodT s) : txt (nm s) = s := by
  obtain ⟨h1, h2, h3⟩ := h
  unfold txt nm
  simp only
  rw [cutN_pad h2 h3]
theorem good_nm {s : ByteArray} (h : GoodT s) : goodN (nm s) = true := by
  obtain ⟨h1, h2, h3⟩ := h
  unfold goodN nm
  simp only [decide_eq_true_eq]
  rw [cutN_pad h2 h3]
  exact ⟨h1, rfl⟩
theorem nm_txt {n : Nm} (h : goodN n = true) : nm (txt n) = n := by
  unfold goodN at h
  simp only [decide_eq_true_eq] at h
  exact Subtype.ext h.2
theorem txt_good {n : Nm} (h : goodN n = true) : GoodT (txt n) := by
  unfold goodN at h
  simp only [decide_eq_true_eq] at h
  refine ⟨by rw [txt_size]; exact h.1, ?_, cutN_no _⟩
  rw [txt_size]
  have := cutN_le n.1
  rw [n.2] at this
  exact this
theorem nm_inj {s t : ByteArray} (hs : GoodT s) (ht : GoodT t) (h : nm s = nm t) : s = t := by
  rw [← txt_nm hs, ← txt_nm ht, h]
theorem txt_inj {n m : Nm} (hn : goodN n = true) (hm : goodN m = true) (h : txt n = txt m) : n = m := by
  rw [← nm_txt hn, ← nm_txt hm, h]
/-- Names stand as their texts do. -/
theorem pad_lt : ∀ (a b : List UInt8) (i j : Nat), (∀ x ∈ a, x ≠ 0) → (∀ x ∈ b, x ≠ 0) → a.length + i = b.length + j → (a ++ List.replicate i 0 < b ++ List.replicate j 0 ↔ a < b)
  | [], [], i, j, _, _, h => by
    obtain rfl : i = j := by simpa using h
    simp [List.lt_irrefl]
  | [], b :: bs, i, j, _, hb, h => by
    obtain ⟨i', rfl⟩ : ∃ i', i = i' + 1 := ⟨i - 1, by simp at h; omega⟩
    have h0 : (0 : UInt8) < b := by
      have := hb b (by simp)
      rw [UInt8.lt_iff_toNat_lt]
      have h2 : b.toNat ≠ 0 := fun e => this (by rw [← UInt8.toNat_inj]; exact e)
      show 0 < b.toNat
      omega
    rw [List.replicate_succ]
    simp [List.cons_lt_cons_iff, h0]
  | a :: ar, [], i, j, ha, _, h => by
    obtain ⟨j', rfl⟩ : ∃ j', j = j' + 1 := ⟨j - 1, by simp at h; omega⟩
    have h0 : a ≠ 0 := ha a (by simp)
    rw [List.replicate_succ]
    simp [List.cons_lt_cons_iff, h0]
  | a :: ar, b :: bs, i, j, ha, hb, h => by
    rw [List.cons_append, List.cons_append, List.cons_lt_cons_iff, List.cons_lt_cons_iff, pad_lt ar bs i j (fun x hx => ha x (by simp [hx])) (fun x hx => hb x (by simp [hx])) (by simp at h; omega)]
theorem txt_lt {n m : Nm} (hn : goodN n = true) (hm : goodN m = true) : n.1 < m.1 ↔ (txt n).data.toList < (txt m).data.toList := by
  have h1 := txt_good hn
  have h2 := txt_good hm
  have e1 : n.1 = cutN n.1 ++ List.replicate (32 - (cutN n.1).length) 0 := by
    unfold goodN at hn
    simp only [decide_eq_true_eq] at hn
    have := hn.2
    rw [padL_short (by have := cutN_le n.1; have := n.2; omega)] at this
    exact this.symm
  have e2 : m.1 = cutN m.1 ++ List.replicate (32 - (cutN m.1).length) 0 := by
    unfold goodN at hm
    simp only [decide_eq_true_eq] at hm
    have := hm.2
    rw [padL_short (by have := cutN_le m.1; have := m.2; omega)] at this
    exact this.symm
  rw [txt_data, txt_data]
  conv => lhs; rw [e1, e2]
  refine pad_lt _ _ _ _ (cutN_no _) (cutN_no _) ?_
  have := cutN_le m.1
  have := m.2
  have := cutN_le n.1
  have := n.2
  omega
end Go.Proofs.Ytbfnmgjpkieaoaa.Tb

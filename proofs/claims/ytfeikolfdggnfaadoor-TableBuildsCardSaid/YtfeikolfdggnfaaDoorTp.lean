/- Plain laws on rows of one width: no program in sight. -/
import Derived.Test.YtfeikolfdggnfaaDoorTi
namespace Go.Proofs.YtfeikolfdggnfaaDoor
open Go.RowKit

theorem toList_extract (b : ByteArray) (i j : Nat) : (b.extract i j).toList = (b.data.extract i j).toList := by rw [ByteArray.toList_eq, ByteArray.data_extract]

theorem size_cat {ys : List ByteArray} {wd : Nat} (h : ∀ x ∈ ys, x.size = wd) : (catB ys).size = ys.length * wd := by
  rw [catB_size]
  induction ys with
  | nil => simp
  | cons y ys ih =>
    have h1 := ih (fun x hx => h x (List.mem_cons_of_mem _ hx))
    have h2 := h y List.mem_cons_self
    have h3 : y.data.toList.length = y.size := by rw [Array.length_toList]; rfl
    rw [List.flatMap_cons, List.length_append, List.length_cons, Nat.add_mul, Nat.one_mul]
    omega

theorem flat_slice {ys : List ByteArray} {wd : Nat} (h : ∀ x ∈ ys, x.size = wd) : ∀ (i : Nat) (hi : i < ys.length), ((ys.flatMap (·.data.toList)).take (i * wd + wd)).drop (i * wd) = ys[i].data.toList := by
  induction ys with
  | nil => intro i hi; simp at hi
  | cons y ys ih =>
    intro i hi
    have h2 := h y List.mem_cons_self
    have h3 : y.data.toList.length = wd := by rw [Array.length_toList]; exact h2
    rw [List.flatMap_cons]
    rcases i with _ | i
    · simp only [Nat.zero_mul, Nat.zero_add, List.drop_zero, List.getElem_cons_zero]
      rw [← h3, List.take_left']
      rfl
    · have := ih (fun x hx => h x (List.mem_cons_of_mem _ hx)) i (by simpa using hi)
      rw [List.getElem_cons_succ, ← this, show (i + 1) * wd = wd + i * wd by rw [Nat.add_mul]; omega]
      rw [← h3, Nat.add_assoc, List.take_length_add_append, List.drop_length_add_append]

theorem rowB_cat {ys : List ByteArray} {wd : Nat} (h : ∀ x ∈ ys, x.size = wd) {i : Nat} (hi : i < ys.length) : rowB (catB ys) wd i = ys[i] := by
  apply ByteArray.ext
  unfold rowB
  rw [ByteArray.data_extract]
  apply Array.toList_inj.1
  rw [Array.toList_extract, List.extract_eq_drop_take', ← flat_slice h i hi]
  rfl

theorem keyB_cat {ys : List ByteArray} {wd key : Nat} (h : ∀ x ∈ ys, x.size = wd) {i : Nat} (hi : i < ys.length) : (keyB (catB ys) wd key i).toList = keyL key ys[i] := by
  unfold keyB keyL; rw [rowB_cat h hi]

/-- Each key is behind the one before it. -/
def Rising (key : Nat) (ys : List ByteArray) : Prop := ∀ i (hi : i + 1 < ys.length), Op.bytesLess (keyL key (ys[i]'(by omega))) (keyL key ys[i + 1]) = true

theorem Rising.lt {key : Nat} {ys : List ByteArray} (h : Rising key ys) : ∀ (i j : Nat) (hi : i < ys.length) (hj : j < ys.length), i < j → Op.bytesLess (keyL key ys[i]) (keyL key ys[j]) = true := by
  intro i j hi hj hij
  obtain ⟨d, rfl⟩ : ∃ d, j = i + 1 + d := ⟨j - i - 1, by omega⟩
  clear hij
  induction d with
  | zero => exact h i hj
  | succ d ih => exact bl_trans (ih (by omega)) (h (i + 1 + d) hj)

/-- Rows with rising keys are what they are, in whatever order they came. -/
theorem rising_unique {key : Nat} {ys zs : List ByteArray} (hp : ys.Perm zs) (hs : SortedK key ys) (hz : Rising key zs) : ys = zs := by
  refine List.Perm.eq_of_pairwise (le := fun a b => Op.bytesLess (keyL key b) (keyL key a) = false) ?_ ?_ ?_ hp
  · intro a b ha hb h1 h2
    have e := bl_total h1 h2
    have ha' := hp.mem_iff.1 ha
    obtain ⟨i, hi, rfl⟩ := List.getElem_of_mem ha'
    obtain ⟨j, hj, rfl⟩ := List.getElem_of_mem hb
    rcases Nat.lt_trichotomy i j with h | h | h
    · have := hz.lt i j hi hj h; rw [e, bl_irrefl] at this; cases this
    · subst h; rfl
    · have := hz.lt j i hj hi h; rw [e, bl_irrefl] at this; cases this
  · rw [List.pairwise_iff_getElem]; intro i j hi hj hij; exact hs i j hj hij
  · rw [List.pairwise_iff_getElem]; intro i j hi hj hij; exact bl_asymm (hz.lt i j hi hj hij)

theorem badFrom_none {ys : List ByteArray} {wd key : Nat} (h : ∀ x ∈ ys, x.size = wd) : ∀ (m i : Nat), 1 ≤ i → i + m ≥ ys.length →
    (badFrom (catB ys) wd key ys.length m i = none ↔ ∀ j (hj : j < ys.length), i ≤ j → Op.bytesLess (keyL key (ys[j - 1]'(by omega))) (keyL key ys[j]) = true)
  | 0, i, hi, hm => ⟨fun _ j hj hij => by omega, fun _ => rfl⟩
  | m + 1, i, hi, hm => by
    simp only [badFrom]
    by_cases hlt : i < ys.length
    · rw [if_pos hlt, keyB_cat h hlt, keyB_cat h (show i - 1 < ys.length by omega)]
      by_cases hb : Op.bytesLess (keyL key (ys[i - 1]'(by omega))) (keyL key ys[i]) = true
      · rw [if_pos hb, badFrom_none h m (i + 1) (by omega) (by omega)]
        constructor
        · intro h1 j hj hij
          rcases Nat.eq_or_lt_of_le hij with rfl | h2
          · exact hb
          · exact h1 j hj h2
        · intro h1 j hj hij; exact h1 j hj (by omega)
      · rw [if_neg hb]
        constructor
        · intro h1; cases h1
        · intro h1; exact absurd (h1 i hlt (Nat.le_refl _)) hb
    · rw [if_neg hlt]
      exact ⟨fun _ j hj hij => by omega, fun _ => rfl⟩

theorem newE_cat {ys : List ByteArray} {wd key : Nat} (h : ∀ x ∈ ys, x.size = wd) (hm : mayB wd key = true) :
    newE wd key (catB ys) = (badFrom (catB ys) wd key ys.length ys.length 1).map fun i => (13, ((i * wd : Nat) : Int)) := by
  have hmb := hm
  simp only [mayB, Bool.and_eq_true, decide_eq_true_eq] at hmb
  unfold newE
  rw [if_neg (by simp [hm]), Int.toNat_natCast, Int.toNat_natCast, size_cat h, if_neg (by simp), Nat.mul_div_cancel _ (by omega)]

theorem newE_rising {ys : List ByteArray} {wd key : Nat} (h : ∀ x ∈ ys, x.size = wd) (hm : mayB wd key = true) : newE wd key (catB ys) = none ↔ Rising key ys := by
  rw [newE_cat h hm, Option.map_eq_none_iff, badFrom_none h _ _ (Nat.le_refl _) (by omega)]
  constructor
  · intro h1 i hi; exact h1 (i + 1) hi (by omega)
  · intro h1 j hj hij
    obtain ⟨i, rfl⟩ : ∃ i, j = i + 1 := ⟨j - 1, by omega⟩
    exact h1 i hj

theorem newE_kind {ys : List ByteArray} {wd key : Nat} {k a : Int} (h : ∀ x ∈ ys, x.size = wd) (hm : mayB wd key = true) (he : newE wd key (catB ys) = some (k, a)) : k = 13 := by
  rw [newE_cat h hm] at he
  cases hb : badFrom (catB ys) wd key ys.length ys.length 1 with
  | none => rw [hb] at he; cases he
  | some i => rw [hb] at he; cases he; rfl

theorem tabOk_cat {ys : List ByteArray} {wd key : Nat} (h : ∀ x ∈ ys, x.size = wd) (hm : mayB wd key = true) (hl : ys.length ≤ 100000) : TabOk wd key (catB ys) ys.length := by
  have hmb := hm
  simp only [mayB, Bool.and_eq_true, decide_eq_true_eq] at hmb
  refine ⟨by rw [size_cat h, Nat.mul_div_cancel _ (by omega)], ?_, by omega, by omega, by omega, by omega⟩
  rw [size_cat h]
  have : ys.length * wd ≤ 100000 * 255 := Nat.mul_le_mul hl (by omega)
  omega

end Go.Proofs.YtfeikolfdggnfaaDoor

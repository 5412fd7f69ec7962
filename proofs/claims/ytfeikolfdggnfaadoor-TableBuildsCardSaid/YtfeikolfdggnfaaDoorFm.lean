/- Plain laws: what is wrong of sorted rows does not hang on how equals stand; rows cut out of bytes. -/
import Derived.Test.YtfeikolfdggnfaaDoorFk
namespace Go.Proofs.YtfeikolfdggnfaaDoor
open Go.RowKit Go.Shelf

theorem keys_eq {key : Nat} {ys zs : List ByteArray} (hp : ys.Perm zs) (hs : SortedK key ys) (hz : SortedK key zs) : ys.map (keyL key) = zs.map (keyL key) := by
  refine List.Perm.eq_of_pairwise (le := fun a b => Op.bytesLess b a = false) (fun a b _ _ h1 h2 => bl_total h2 h1) ?_ ?_ (hp.map _)
  · rw [List.pairwise_map, List.pairwise_iff_getElem]; intro i j hi hj hij; exact hs i j hj hij
  · rw [List.pairwise_map, List.pairwise_iff_getElem]; intro i j hi hj hij; exact hz i j hj hij

theorem badFrom_congr {b1 b2 : ByteArray} {wd key n : Nat} (h : ∀ i, i < n → (keyB b1 wd key i).toList = (keyB b2 wd key i).toList) : ∀ (m i : Nat), badFrom b1 wd key n m i = badFrom b2 wd key n m i
  | 0, i => rfl
  | m + 1, i => by
    simp only [badFrom]
    by_cases hi : i < n
    · rw [if_pos hi, if_pos hi, h i hi, h (i - 1) (by omega), badFrom_congr h m (i + 1)]
    · rw [if_neg hi, if_neg hi]

theorem newE_perm {key wd : Nat} {ys zs : List ByteArray} (hp : ys.Perm zs) (hs : SortedK key ys) (hz : SortedK key zs) (hy : ∀ x ∈ ys, x.size = wd) (hm : mayB wd key = true) : newE wd key (catB ys) = newE wd key (catB zs) := by
  have hz2 : ∀ x ∈ zs, x.size = wd := fun x hx => hy x (hp.mem_iff.2 hx)
  have hl : ys.length = zs.length := hp.length_eq
  rw [newE_cat hy hm, newE_cat hz2 hm, ← hl]
  rw [badFrom_congr (b2 := catB zs)]
  intro i hi
  rw [keyB_cat hy hi, keyB_cat hz2 (show i < zs.length by omega)]
  have h1 := congrArg (fun l => l[i]?) (keys_eq hp hs hz)
  simp only [List.getElem?_map, List.getElem?_eq_getElem hi, List.getElem?_eq_getElem (show i < zs.length by omega), Option.map_some, Option.some.injEq] at h1
  exact h1

theorem rowsL_size {bs : ByteArray} {wd n : Nat} (h : n * wd = bs.size) : ∀ x ∈ rowsL bs wd n, x.size = wd := by
  intro x hx
  unfold rowsL at hx
  obtain ⟨i, hi, rfl⟩ := List.mem_map.1 hx
  rw [List.mem_range] at hi
  unfold rowB
  rw [ByteArray.size_extract]
  have h1 : (i + 1) * wd ≤ n * wd := Nat.mul_le_mul_right wd hi
  rw [Nat.add_mul, Nat.one_mul] at h1
  omega

theorem catB_rowsL_take {bs : ByteArray} {wd : Nat} : ∀ (n : Nat), n * wd ≤ bs.size → (catB (rowsL bs wd n)).data.toList = bs.data.toList.take (n * wd)
  | 0, _ => by simp [rowsL, catB]
  | n + 1, h => by
    rw [Nat.add_mul, Nat.one_mul] at h
    rw [rowsL_succ, catB_snoc, ByteArray.data_append, Array.toList_append, catB_rowsL_take n (by omega)]
    unfold rowB
    rw [ByteArray.data_extract, Array.toList_extract, List.extract_eq_drop_take', Nat.add_mul, Nat.one_mul]
    have h1 := List.take_append_drop (n * wd) (bs.data.toList.take (n * wd + wd))
    rw [List.take_take, Nat.min_eq_left (by omega)] at h1
    exact h1

theorem catB_rowsL {bs : ByteArray} {wd n : Nat} (h : n * wd = bs.size) : catB (rowsL bs wd n) = bs := by
  apply ByteArray.ext
  apply Array.toList_inj.1
  rw [catB_rowsL_take n (by omega), h]
  apply List.take_of_length_le
  rw [Array.length_toList]
  exact Nat.le_refl _

end Go.Proofs.YtfeikolfdggnfaaDoor

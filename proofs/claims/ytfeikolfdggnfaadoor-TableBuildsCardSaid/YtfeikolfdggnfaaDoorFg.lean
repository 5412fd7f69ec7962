/- Plain laws on beginnings: which rows an iterator tells, and where the document finds one. -/
import Derived.Test.YtfeikolfdggnfaaDoorFf
namespace Go.Proofs.YtfeikolfdggnfaaDoor
open Go.RowKit Go.Shelf

theorem beg_iff (s k : ByteArray) : begB s k = true ↔ k.toList <+: s.toList := by
  have h1 : (s.extract 0 k.size).toList = s.toList.take k.size := by
    rw [ByteArray.toList_eq, ByteArray.toList_eq, ByteArray.data_extract, Array.toList_extract, List.extract_eq_drop_take']
    simp
  have h2 : k.toList.length = k.size := by rw [ByteArray.toList_eq, Array.length_toList]; rfl
  have h3 : s.toList.length = s.size := by rw [ByteArray.toList_eq, Array.length_toList]; rfl
  unfold begB
  rw [h1, List.prefix_iff_eq_take, h2, Bool.and_eq_true, decide_eq_true_iff, beq_iff_eq]
  constructor
  · rintro ⟨-, h⟩; exact h.symm
  · intro h
    refine ⟨?_, h.symm⟩
    have := congrArg List.length h
    rw [List.length_take, h2, h3] at this
    omega

theorem bl_prefix : ∀ {k x : List UInt8}, k <+: x → Op.bytesLess x k = false
  | [], x, _ => by cases x <;> rfl
  | c :: k, [], h => by simp at h
  | c :: k, a :: x, h => by
    obtain ⟨rfl, h0⟩ := List.cons_prefix_cons.1 h
    simp [Op.bytesLess, bl_prefix h0]

theorem bl_between : ∀ {k x y : List UInt8}, Op.bytesLess x k = false → Op.bytesLess x y = true → k <+: y → k <+: x
  | [], x, y, _, _, _ => List.nil_prefix
  | c :: k, x, [], _, _, h => by simp at h
  | c :: k, [], d :: y, h1, _, _ => by simp [Op.bytesLess] at h1
  | c :: k, a :: x, d :: y, h1, h2, h => by
    obtain ⟨rfl, h0⟩ := List.cons_prefix_cons.1 h
    simp only [Op.bytesLess, Bool.or_eq_false_iff, decide_eq_false_iff_not, Bool.or_eq_true, decide_eq_true_eq, Bool.and_eq_true, beq_iff_eq, Bool.and_eq_false_iff, beq_eq_false_iff_ne] at h1 h2
    obtain ⟨h3, h4⟩ := h1
    rcases h2 with h2 | ⟨rfl, h2⟩
    · exact absurd h2 h3
    · rcases h4 with h4 | h4
      · exact absurd rfl h4
      · exact List.cons_prefix_cons.2 ⟨rfl, bl_between h4 h2 h0⟩

/-- The numbers of the first rows whose keys begin so. -/
def begL (bytes : ByteArray) (wd key : Nat) (k : ByteArray) (n : Nat) : List Nat := (List.range n).filter fun i => begB (keyB bytes wd key i) k

theorem begL_yes {bytes k : ByteArray} {wd key n : Nat} (h : begB (keyB bytes wd key n) k = true) : begL bytes wd key k (n + 1) = begL bytes wd key k n ++ [n] := by
  unfold begL; rw [List.range_succ, List.filter_append, List.filter_cons_of_pos (by exact h)]; rfl
theorem begL_no {bytes k : ByteArray} {wd key n : Nat} (h : begB (keyB bytes wd key n) k = false) : begL bytes wd key k (n + 1) = begL bytes wd key k n := by
  unfold begL; rw [List.range_succ, List.filter_append, List.filter_cons_of_neg (by simp [h])]; simp
theorem begL_le {bytes k : ByteArray} {wd key m n : Nat} (h : m ≤ n) : begL bytes wd key k m <+: begL bytes wd key k n := by
  obtain ⟨d, rfl⟩ := Nat.exists_eq_add_of_le h
  unfold begL
  rw [List.range_add, List.filter_append]
  exact List.prefix_append _ _
theorem begL_len {bytes k : ByteArray} {wd key n : Nat} : (begL bytes wd key k n).length ≤ n := by
  have := List.length_filter_le (fun i => begB (keyB bytes wd key i) k) (List.range n)
  rw [List.length_range] at this
  exact this

/-- Keys that rise, by their numbers. -/
def RiseB (bytes : ByteArray) (wd key n : Nat) : Prop := ∀ i j, i < j → j < n → Op.bytesLess (keyB bytes wd key i).toList (keyB bytes wd key j).toList = true

theorem runL_filter {bytes k : ByteArray} {wd key n : Nat} (hr : RiseB bytes wd key n) : ∀ (m i : Nat), n - i ≤ m → (∀ j, i ≤ j → j < n → Op.bytesLess (keyB bytes wd key j).toList k.toList = false) →
    runL bytes wd key n k (m + 1) i = (List.range' i (n - i)).filter fun i => begB (keyB bytes wd key i) k := by
  intro m
  induction m with
  | zero =>
    intro i hm _
    rw [runL_stop (by omega), show n - i = 0 by omega]; rfl
  | succ m ih =>
    intro i hm hk
    by_cases hlt : i < n
    · rw [show n - i = (n - (i + 1)) + 1 by omega, List.range'_succ]
      cases hb : begB (keyB bytes wd key i) k with
      | true =>
        rw [runL_go (by omega) hlt hb, List.filter_cons_of_pos (by exact hb), Nat.add_sub_cancel, ih (i + 1) (by omega) (fun j h1 h2 => hk j (by omega) h2)]
      | false =>
        rw [runL_stop (fun h => by rw [hb] at h; cases h.2), List.filter_cons_of_neg (by simp [hb])]
        symm
        rw [List.filter_eq_nil_iff]
        intro j hj
        rw [List.mem_range'_1] at hj
        intro hbj
        have h1 := bl_between (hk i (Nat.le_refl _) hlt) (hr i j (by omega) (by omega)) ((beg_iff _ _).1 hbj)
        rw [(beg_iff _ _).2 h1] at hb
        cases hb
    · rw [runL_stop (fun h => hlt h.1), show n - i = 0 by omega]; rfl

theorem runL_beg {bytes k : ByteArray} {wd key n r : Nat} (hr : RiseB bytes wd key n) (h : FromOf bytes wd key n k r) : runL bytes wd key n k (n + 1) r = begL bytes wd key k n := by
  have hle := h.le
  rw [runL_filter hr n r (by omega) (fun j h1 h2 => by
    have h3 := h.at_ (by omega)
    rcases Nat.eq_or_lt_of_le h1 with rfl | h4
    · exact h3
    · cases h5 : Op.bytesLess (keyB bytes wd key j).toList k.toList with
      | false => rfl
      | true => rw [bl_trans (hr r j h4 h2) h5] at h3; cases h3)]
  unfold begL
  rw [List.range_eq_range', show n = r + (n - r) by omega, ← List.range'_append_1, List.filter_append, Nat.zero_add, show r + (n - r) - r = n - r by omega]
  suffices hs : (List.range' 0 r).filter (fun i => begB (keyB bytes wd key i) k) = [] by rw [hs, List.nil_append]
  rw [List.filter_eq_nil_iff]
  intro j hj hb
  rw [List.mem_range'_1] at hj
  have h1 := h.below (by omega)
  have h2 : Op.bytesLess (keyB bytes wd key j).toList k.toList = true := by
    rcases Nat.eq_or_lt_of_le (show j ≤ r - 1 by omega) with rfl | h4
    · exact h1
    · exact bl_trans (hr j (r - 1) h4 (by omega)) h1
  rw [bl_prefix ((beg_iff _ _).1 hb)] at h2
  cases h2

/-- The next row of those that begin so. -/
theorem beg_next {bytes k : ByteArray} {wd key n m : Nat} {pre : List Nat} {x : Nat} (h : begL bytes wd key k m = pre) (hm : m ≤ n) (hx : (pre ++ [x]) <+: begL bytes wd key k n) (hs : m < n → begB (keyB bytes wd key m) k = true) : m < n ∧ x = m := by
  rcases Nat.eq_or_lt_of_le hm with rfl | hlt
  · rw [h] at hx
    have := hx.length_le
    rw [List.length_append, List.length_singleton] at this
    omega
  · refine ⟨hlt, ?_⟩
    have h1 := begL_yes (hs hlt)
    have h2 : begL bytes wd key k (m + 1) <+: begL bytes wd key k n := begL_le (by omega)
    rw [h1, h] at h2
    have h3 := List.prefix_of_prefix_length_le hx h2 (by simp)
    have h4 := List.IsPrefix.eq_of_length h3 (by simp)
    simpa using h4

/-- Behind the last of them there is none. -/
theorem beg_last {bytes k : ByteArray} {wd key n m : Nat} (h : begL bytes wd key k m = begL bytes wd key k n) (hm : m < n) : begB (keyB bytes wd key m) k = false := by
  cases hb : begB (keyB bytes wd key m) k with
  | false => rfl
  | true =>
    have h2 : begL bytes wd key k (m + 1) <+: begL bytes wd key k n := begL_le (by omega)
    rw [begL_yes hb, ← h] at h2
    have := h2.length_le
    rw [List.length_append, List.length_singleton] at this
    omega

end Go.Proofs.YtfeikolfdggnfaaDoor

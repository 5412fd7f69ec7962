/- Rows of texts: a copy; put in order; each once. -/
import Derived.Test.YtimcjkkbooinbaaGm
import Derived.Sort.EncStr
namespace Go.Proofs.Ytimcjkkbooinbaa
open Go.RowKit Go.Shelf Go.Sort

/-- Put in order. -/
def SortedS (ys : List ByteArray) : Prop := ys.Pairwise fun x y => x.toList ≤ y.toList
/-- Put in order, each once. -/
def RisingS (ys : List ByteArray) : Prop := ys.Pairwise fun x y => x.toList < y.toList

def toB (l : List UInt8) : ByteArray := ⟨l.toArray⟩
theorem toB_list (l : List UInt8) : (toB l).toList = l := by rw [ByteArray.toList_eq]; rfl
theorem toB_of (s : ByteArray) : toB s.toList = s := bytes_inj (toB_list _)

theorem toB_map (ys : List ByteArray) : (ys.map ByteArray.toList).map toB = ys := by
  rw [List.map_map]
  conv => rhs; rw [← List.map_id ys]
  exact List.map_congr_left fun s _ => toB_of s

theorem enc_map (ys : List ByteArray) : (ys.map ByteArray.toList).map encStr = ys.map Value.string := by
  rw [List.map_map]
  exact List.map_congr_left fun s _ => congrArg Value.string (toB_of s)

theorem clone_any (a : Option Addr) (cap : Nat) (l : List ByteArray) (w : World) (hl : l.length ≤ 1000000) (h : StrsAt w a l) :
    Calls Try.prog 26 #[.slice a l.length cap] w fun e w' => ∃ v, e = .returned v ∧ OwnS w' w.heap.size v l ∧ Below w.heap.size w w' := by
  by_cases hx : l = []
  · subst hx
    cases a with
    | none =>
      refine (Try.slices_Clone_string_nil 0 cap w).mono ?_
      rintro e w' ⟨rfl, rfl⟩
      exact ⟨_, rfl, World.ownsRow_nil _ _ _ _, Below.refl _ _⟩
    | some p =>
      refine (Try.slices_Clone_string_zero p cap w).mono ?_
      rintro e w' ⟨v, rfl, h1, _, h2⟩
      exact ⟨v, rfl, h1, h2⟩
  · obtain ⟨b, off, rfl, hb, hc⟩ := h.some hx
    refine (Try.slices_Clone_string b off l.length cap l w (Nat.le_refl _) (by omega) (fun j hj => by rw [hc j hj]; simp [hj])).mono ?_
    rintro e w' ⟨v, rfl, h1, _, h2⟩
    rw [List.take_length] at h1
    exact ⟨v, rfl, h1, h2⟩

theorem OwnS.holds {w : World} {g cap : Nat} {cur : Array Value} {xs : List ByteArray} (hg : w.heap[g]? = some (.cells cur 9 (0, 0))) (h1 : xs.length ≤ cap) (h3 : cur.size = cap * 1) (h4 : cur.toList.take (xs.length * 1) = xs.map Value.string) :
    Holds encStr w g 0 (xs.map ByteArray.toList).toArray := by
  intro j hj
  have hj' : j < xs.length := by simpa using hj
  refine ⟨?_, by simp [World.frozen?, hg]⟩
  have e1 : (cur.toList.take (xs.length * 1))[j]? = ((xs.map ByteArray.toList).map encStr)[j]? := by rw [h4, enc_map]
  rw [List.getElem?_take_of_lt (by omega)] at e1
  simp only [World.cell?, hg, Nat.zero_add, Option.isSome_none, Bool.false_eq_true, if_false]
  rw [← Array.getElem?_toList, e1]
  simp [hj']

theorem take_putS (cur : Array Value) (d : Array (List UInt8)) (h : d.size ≤ cur.size) : (putCells encStr 0 d cur).toList.take d.size = d.toList.map encStr := by
  apply List.ext_getElem?
  intro j
  by_cases hj : j < d.size
  · rw [List.getElem?_take_of_lt hj, Array.getElem?_toList]
    simp [putCells, hj, show j < cur.size by omega]
  · rw [List.getElem?_take_eq_none (by omega), List.getElem?_eq_none (by simp; omega)]

/-- The row laid anew: what holds behind. -/
theorem OwnS.put {w : World} {base g cap n m : Nat} {cur : Array Value} {d : Array (List UInt8)} {os : Array Obj} {zs : List ByteArray} (hbg : base ≤ g) (hg : w.heap[g]? = some (.cells cur 9 (0, 0))) (h2 : cap ≤ maxLen) (h3 : cur.size = cap * 1)
    (hd : d.size ≤ cap) (hm : m ≤ d.size) (hz : zs.length = m) (hzd : d.toList.take m = zs.map ByteArray.toList) : OwnS (grow (putRow encStr (Sort.ahead w n) g 0 d) os) base (.slice (some ⟨g, 0, none⟩) m cap) zs ∧ Below base w (grow (putRow encStr (Sort.ahead w n) g 0 d) os) := by
  have hgw : g < w.heap.size := (Array.getElem?_eq_some_iff.1 hg).1
  have hg' : g < (putRow encStr (Sort.ahead w n) g 0 d).heap.size := by simpa using hgw
  refine ⟨⟨by simp, .inr ⟨g, cap, putCells encStr 0 d cur, by rw [hz], hbg, ?_, by omega, h2, by simp [putCells, h3], ?_⟩⟩, (Below.refl base w).trans ⟨rfl, rfl, rfl, by simp, fun k hk => ?_⟩⟩
  · rw [heap_grow_old _ _ hg']
    simp [putRow, mapBlock, Sort.ahead, Array.getElem?_modify, hg, onCells]
  · have h5 := take_putS cur d (by omega)
    have h6 : (putCells encStr 0 d cur).toList.take (zs.length * 1) = ((putCells encStr 0 d cur).toList.take d.size).take m := by rw [List.take_take, hz, Nat.min_eq_left hm, Nat.mul_one]
    rw [h6, h5, ← List.map_take, hzd, enc_map]
  · rw [heap_grow_old _ _ (by simp [Sort.ahead]; omega)]
    have : g ≠ k := by omega
    simp [putRow, mapBlock, Sort.ahead, Array.getElem?_modify, this]

theorem sortS_any (base : Nat) (v : Value) (xs : List ByteArray) (w : World) (hown : OwnS w base v xs) (hlen : xs.length ≤ 1000000) :
    Calls Try.prog 27 #[v] w fun e w' => e = .returned (.tuple #[]) ∧ ∃ ys, ys.Perm xs ∧ SortedS ys ∧ OwnS w' base v ys ∧ Below base w w' := by
  rcases hown with ⟨hl1, ⟨rfl, h0⟩ | ⟨g, cap, cur, rfl, hbg, hg, h1, h2, h3, h4⟩⟩
  · refine (Try.slices_Sort_string_none none 0 w).mono ?_
    rintro e w' ⟨rfl, rfl⟩
    have hx : xs = [] := List.length_eq_zero_iff.1 h0
    subst hx
    exact ⟨rfl, [], List.Perm.refl _, List.Pairwise.nil, World.ownsRow_nil _ _ _ _, Below.refl _ _⟩
  · have hgw : g < w.heap.size := (Array.getElem?_eq_some_iff.1 hg).1
    have hc := Try.slices_Sort_string g 0 cap (xs.map ByteArray.toList) w (OwnS.holds hg h1 h3 h4) hgw (by simp; omega)
    rw [List.length_map] at hc
    refine hc.mono ?_
    rintro e w' ⟨rfl, n, os, rfl⟩
    have hp := List.mergeSort_perm (xs.map ByteArray.toList) (fun x y => decide (x ≤ y))
    have hs := List.pairwise_mergeSort (le := fun x y : List UInt8 => decide (x ≤ y)) (by intro a b c h h'; simp only [decide_eq_true_eq] at *; exact List.le_trans h h') (by intro a b; simp only [Bool.or_eq_true, decide_eq_true_eq]; exact List.le_total a b) (xs.map ByteArray.toList)
    generalize (xs.map ByteArray.toList).mergeSort (fun x y => decide (x ≤ y)) = ms at hp hs ⊢
    have hml : ms.length = xs.length := by rw [hp.length_eq, List.length_map]
    have hmm : (ms.map toB).map ByteArray.toList = ms := by
      rw [List.map_map]
      conv => rhs; rw [← List.map_id ms]
      exact List.map_congr_left fun s _ => toB_list s
    obtain ⟨r1, r2⟩ := OwnS.put (n := n) (d := ms.toArray) (os := os) (zs := ms.map toB) (m := xs.length) hbg hg h2 h3 (by simp [hml]; omega) (by simp [hml]) (by simp [hml]) (by rw [List.toList_toArray, ← hml, List.take_length, hmm])
    refine ⟨rfl, ms.map toB, ?_, ?_, r1, r2⟩
    · have := hp.map toB
      rwa [toB_map] at this
    · unfold SortedS
      rw [List.pairwise_map]
      refine hs.imp ?_
      intro a b h
      simp only [toB_list]
      simpa using h

/-- Each once, of what is in order: the same things, rising. -/
theorem compact_law (zs : List (List UInt8)) (hs : zs.Pairwise (· ≤ ·)) : (Lib.compact zs).Pairwise (· < ·) ∧ ∀ s, s ∈ Lib.compact zs ↔ s ∈ zs := by
  have hle : ∀ i j, i ≤ j → j < zs.length → zs.toArray[i]! ≤ zs.toArray[j]! := by
    intro i j hij hj
    rw [getElem!_pos _ i (by simp; omega), getElem!_pos _ j (by simpa using hj)]
    simp only [List.getElem_toArray]
    rcases Nat.lt_or_eq_of_le hij with h | h
    · exact List.pairwise_iff_getElem.1 hs i j (by omega) hj h
    · subst h; exact List.le_refl _
  have H : ∀ m, m ≤ zs.length → (Lib.compactUpTo zs.toArray m).Pairwise (· < ·) ∧ (∀ s ∈ Lib.compactUpTo zs.toArray m, ∃ j, j < m ∧ s = zs.toArray[j]!) ∧ ∀ j, j < m → zs.toArray[j]! ∈ Lib.compactUpTo zs.toArray m := by
    intro m
    induction m with
    | zero => intro _; exact ⟨by simp [Lib.compactUpTo], by simp [Lib.compactUpTo], by simp⟩
    | succ m ih =>
      intro hm
      obtain ⟨i1, i2, i3⟩ := ih (by omega)
      rw [Lib.compactUpTo_succ]
      by_cases hk : Lib.keeps zs.toArray m = true
      · rw [if_pos hk]
        refine ⟨?_, ?_, ?_⟩
        · rw [List.pairwise_append]
          refine ⟨i1, by simp, ?_⟩
          intro x hx y hy
          obtain rfl := List.mem_singleton.1 hy
          obtain ⟨j, hj, rfl⟩ := i2 x hx
          have h1 := hle j (m - 1) (by omega) (by omega)
          have h2 := hle (m - 1) m (by omega) (by omega)
          have h3 : zs.toArray[m]! ≠ zs.toArray[m - 1]! := by
            unfold Lib.keeps at hk
            simp only [decide_eq_true_eq] at hk
            rcases hk with h | h
            · omega
            · exact h
          rcases Classical.em (zs.toArray[m - 1]! < zs.toArray[m]!) with h4 | h4
          · exact List.lt_of_le_of_lt h1 h4
          · exact absurd (List.le_antisymm (List.not_lt.1 h4) h2) h3
        · intro s hs
          rcases List.mem_append.1 hs with h | h
          · obtain ⟨j, hj, e⟩ := i2 s h; exact ⟨j, by omega, e⟩
          · exact ⟨m, by omega, List.mem_singleton.1 h⟩
        · intro j hj
          rcases Nat.lt_or_eq_of_le (Nat.le_of_lt_succ hj) with h | h
          · exact List.mem_append_left _ (i3 j h)
          · subst h; exact List.mem_append_right _ (List.mem_singleton.2 rfl)
      · rw [if_neg hk, List.append_nil]
        refine ⟨i1, fun s hs => by obtain ⟨j, hj, e⟩ := i2 s hs; exact ⟨j, by omega, e⟩, ?_⟩
        intro j hj
        rcases Nat.lt_or_eq_of_le (Nat.le_of_lt_succ hj) with h | h
        · exact i3 j h
        · subst h
          unfold Lib.keeps at hk
          simp only [decide_eq_true_eq, not_or, Classical.not_not] at hk
          rw [hk.2]
          exact i3 (j - 1) (by omega)
  obtain ⟨h1, h2, h3⟩ := H zs.length (Nat.le_refl _)
  refine ⟨h1, fun s => ⟨fun hs' => ?_, fun hs' => ?_⟩⟩
  · obtain ⟨j, hj, rfl⟩ := h2 s hs'
    rw [getElem!_pos _ j (by simpa using hj)]
    simp
  · obtain ⟨j, hj, rfl⟩ := List.getElem_of_mem hs'
    have := h3 j hj
    rw [getElem!_pos _ j (by simpa using hj), List.getElem_toArray] at this
    exact this

theorem compact_any (base : Nat) (v : Value) (xs : List ByteArray) (w : World) (hown : OwnS w base v xs) (hlen : xs.length ≤ 1000000) (hs : SortedS xs) :
    Calls Try.prog 28 #[v] w fun e w' => ∃ v' ys, e = .returned v' ∧ RisingS ys ∧ (∀ s, s ∈ ys ↔ s ∈ xs) ∧ ys.length ≤ xs.length ∧ OwnS w' base v' ys ∧ Below base w w' ∧ w.grownBy w' v.ownBlock ∧ v'.ownBlock = v.ownBlock := by
  rcases hown with ⟨hl1, ⟨rfl, h0⟩ | ⟨g, cap, cur, rfl, hbg, hg, h1, h2, h3, h4⟩⟩
  · refine (Try.slices_Compact_string_empty none 0 w).mono ?_
    rintro e w' ⟨rfl, rfl⟩
    have hx : xs = [] := List.length_eq_zero_iff.1 h0
    subst hx
    exact ⟨_, [], rfl, List.Pairwise.nil, fun s => Iff.rfl, Nat.le_refl _, World.ownsRow_nil _ _ _ _, Below.refl _ _, ⟨rfl, rfl, rfl, Nat.le_refl _, fun _ _ _ => rfl⟩, rfl⟩
  · have hc := Try.slices_Compact_string g 0 cap (xs.map ByteArray.toList) w (OwnS.holds hg h1 h3 h4) (by simp; omega) (by simpa using h1)
    rw [List.length_map] at hc
    refine hc.mono ?_
    rintro e w' ⟨rfl, n, rfl⟩
    have hcl := Lib.compact_length_le (xs.map ByteArray.toList)
    obtain ⟨hp, hmem⟩ := compact_law (xs.map ByteArray.toList) (by rw [List.pairwise_map]; exact hs)
    generalize Lib.compact (xs.map ByteArray.toList) = ms at hp hmem hcl ⊢
    rw [List.length_map] at hcl
    have hmm : (ms.map toB).map ByteArray.toList = ms := by
      rw [List.map_map]
      conv => rhs; rw [← List.map_id ms]
      exact List.map_congr_left fun s _ => toB_list s
    obtain ⟨r1, r2⟩ := OwnS.put (n := n) (d := (ms ++ List.replicate (xs.length - ms.length) []).toArray) (os := #[]) (zs := ms.map toB) (m := ms.length) hbg hg h2 h3 (by simp; omega) (by simp) (by simp) (by rw [List.toList_toArray, List.take_left', hmm]; rfl)
    have hg0 : ∀ W : World, grow W #[] = W := fun W => by simp [grow]
    rw [hg0] at r1 r2
    refine ⟨_, ms.map toB, rfl, ?_, ?_, by simpa using hcl, r1, r2, ⟨rfl, rfl, rfl, by simp [putRow, mapBlock, Sort.ahead], fun k hk hne => ?_⟩, rfl⟩
    rotate_left 2
    · have : g ≠ k := fun e => hne (by rw [e]; rfl)
      simp [putRow, mapBlock, Sort.ahead, Array.getElem?_modify, this]
    · unfold RisingS
      rw [List.pairwise_map]
      refine hp.imp ?_
      intro a b h
      simpa only [toB_list] using h
    · intro s
      rw [List.mem_map]
      constructor
      · rintro ⟨l, hl, rfl⟩
        obtain ⟨x, hx, rfl⟩ := List.mem_map.1 ((hmem l).1 hl)
        rw [toB_of]; exact hx
      · intro hs'
        exact ⟨s.toList, (hmem _).2 (List.mem_map_of_mem hs'), toB_of s⟩

end Go.Proofs.Ytimcjkkbooinbaa

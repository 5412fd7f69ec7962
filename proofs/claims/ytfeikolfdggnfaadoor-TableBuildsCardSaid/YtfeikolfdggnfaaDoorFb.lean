/- An append onto a row that has no room: a new row. -/
import Derived.Test.YtfeikolfdggnfaaDoorFa
namespace Go.Proofs.YtfeikolfdggnfaaDoor
open Go.RowKit Go.Shelf

theorem firsts_S {w : World} {a : Option Addr} {xs : List ByteArray} (h : StrsAt w a xs) (c : Nat) : (Builtin.firstCells 1 xs.length (.slice a xs.length c)).run Tryd.prog w = .ok (xs.map Value.string).toArray w := by
  cases a with
  | none =>
    have hx : xs = [] := by
      cases xs with
      | nil => rfl
      | cons x xs => obtain ⟨b, off, e, -⟩ := h 0 (by simp); cases e
    subst hx
    exact run_firstCells_none w 1 0 0 c
  | some ad =>
    refine run_firstCells_some w 1 xs.length ad xs.length c (xs.map .string) (by simp) ?_
    intro j u hu
    rw [List.getElem?_map] at hu
    obtain ⟨y, hy, rfl⟩ := Option.map_eq_some_iff.1 hu
    obtain ⟨hj, rfl⟩ := List.getElem?_eq_some_iff.1 hy
    obtain ⟨b, off, e, hc⟩ := h j hj
    cases e
    rw [add_plain]
    exact hc

/-- One text onto a slice that has no room. -/
theorem append_full {w : World} {ty : TypeId} {a : Option Addr} {xs : List ByteArray} (h : StrsAt w a xs) (ad : Addr) (c : Nat) (y : ByteArray) (hy : w.cell? (ad.add 0) = some (.string y)) (hlen : xs.length ≤ 1000000) :
    ∃ v' w', (Builtin.append_ #[22, 22] ty #[.slice a xs.length xs.length, .slice (some ad) 1 c]).run Tryd.prog w = .ok v' w' ∧ RowS w' w.heap.size v' (xs ++ [y]) ∧ Below w.heap.size w w' := by
  obtain ⟨i0, hi, hz0, hz1, hz2⟩ := info_parts Tryd.infoS
  have hc : ∀ j u, [Value.string y][j]? = some u → w.cell? (ad.add j) = some u := by
    intro j u hu
    rcases j with _ | j
    · obtain rfl := Option.some.inj hu; exact hy
    · simp at hu
  have hsrc : Src Tryd.prog i0.size 22 (.slice (some ad) 1 c) 1 [.string y] w := by
    rw [hz1]
    exact Src.ofSlice w Tryd.underlying22 ad 1 c [.string y] rfl hc (by intro u hu; obtain rfl := List.mem_singleton.1 hu; rfl)
  have hbig : Builtin.nextslicecap (xs.length + 1) xs.length * i0.bytes ≤ 281474976710656 := growslice_fits (by omega) (by rw [hz2]; omega)
  have hr := run_append_grow_src (P := Tryd.prog) w 22 22 ty 9 i0 (.string ⟨#[]⟩) Tryd.underlying22 hi hz0 a xs.length xs.length (xs.map .string)
    (by rw [hz1]; exact firsts_S (w := w.drew) h _) (.slice (some ad) 1 c) 1 [.string y] hsrc (by omega) (by omega) hbig
  have hge := grownCap_ge w (xs.length + 1) xs.length 9
  have hcm : grownCap w (xs.length + 1) xs.length 9 ≤ maxLen := grownCap_le_maxLen w (xs.length + 1) xs.length 9 (by unfold maxLen; omega)
  have hl : xs.length + 1 = (xs ++ [y]).length := by simp
  rw [hl] at hr hge hcm
  generalize grownCap w (xs ++ [y]).length xs.length 9 = gc at hr hge hcm
  have hnew := heap_alloc_new w.drew (.cells ((xs.map Value.string ++ [Value.string y]).toArray ++ Builtin.zeroCells (Value.string ⟨#[]⟩).cells (gc - (xs ++ [y]).length)) 9)
  refine ⟨_, _, hr, ⟨⟨by simp, .inr ⟨w.heap.size, gc, _, rfl, Nat.le_refl _, hnew, hge, hcm, ?_, ?_⟩⟩, w.heap.size, gc, rfl⟩, ((Below.refl _ _).drew).alloc (Nat.le_refl _) _⟩
  · rw [Array.size_append, size_zeroCells]
    simp [Value.cells] at hge ⊢
    omega
  · have ht := List.take_left' (l₁ := xs.map Value.string ++ [Value.string y]) (l₂ := (Builtin.zeroCells (Value.string ⟨#[]⟩).cells (gc - (xs ++ [y]).length)).toList) (i := xs.length + 1) (by simp)
    simp at ht ⊢
    exact ht
end Go.Proofs.YtfeikolfdggnfaaDoor

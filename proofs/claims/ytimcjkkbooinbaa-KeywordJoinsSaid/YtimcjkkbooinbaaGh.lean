/- Read: what subtags say. -/
import Derived.Test.YtimcjkkbooinbaaGg
namespace Go.Proofs.Ytimcjkkbooinbaa
open Go.RowKit Go.Shelf

/-- Texts below block B lie as they lay. -/
def KeepS (B : Nat) (w w' : World) : Prop := ∀ b off s, b < B → w.cell? ⟨b, off, none⟩ = some (.string s) → w'.cell? ⟨b, off, none⟩ = some (.string s)

theorem KeepS.refl (B : Nat) (w : World) : KeepS B w w := fun _ _ _ _ h => h
theorem KeepS.trans {B : Nat} {w w' w2 : World} (h : KeepS B w w') (h2 : KeepS B w' w2) : KeepS B w w2 := fun b off s hb hc => h2 b off s hb (h b off s hb hc)
theorem KeepS.below {B : Nat} {w w' : World} (h : Below B w w') : KeepS B w w' := fun b off _ hb hc => (h.cell (p := ⟨b, off, none⟩) hb).trans hc
theorem KeepS.set {B : Nat} {w : World} {p : Addr} {a : Option Addr} {n c : Nat} (h : w.cell? p = some (.slice a n c)) (v : Value) : KeepS B w (w.setCell p v) := by
  intro b off s _ hc
  rw [World.cell?_setCell_other]
  · exact hc
  · intro e; rw [e, hc] at h; cases h
theorem StrsAt.keep {w w' : World} {a : Option Addr} {xs : List ByteArray} (h : StrsAt w a xs) (hk : KeepS w.heap.size w w') : StrsAt w' a xs := by
  intro i hi
  obtain ⟨b, off, ha, hc⟩ := h i hi
  exact ⟨b, off, ha, hk b _ _ (World.block_lt_of_cell? w _ hc) hc⟩

theorem StrsAt.skip {w : World} {a a2 : Option Addr} {xs : List ByteArray} {k cap : Nat} (h : StrsAt w a xs) (hc : xs.length ≤ cap) (h2 : (if cap = k then a else a.map (·.add k)) = a2) : StrsAt w a2 (xs.drop k) := by
  intro i hi
  rw [List.length_drop] at hi
  obtain ⟨b, off, e1, e2⟩ := h (k + i) (by omega)
  rw [if_neg (by omega), e1, Option.map_some, add_plain] at h2
  exact ⟨b, off + k, h2.symm, by rw [List.getElem_drop, Nat.add_assoc]; exact e2⟩

/-- The result's box, the keywords' box, and the row of extensions, as they stand in the loop. -/
structure RdSt (w W4 wr : World) (vA v : Value) (done : List XE) : Prop where
  b : Below w.heap.size w wr
  s : W4.heap.size ≤ wr.heap.size
  s4 : w.heap.size + 2 ≤ W4.heap.size
  r0 : wr.cell? ⟨w.heap.size, 0, none⟩ = some (.slice none 0 0)
  r1 : wr.cell? ⟨w.heap.size, 1, none⟩ = some (.slice none 0 0)
  fr : ∀ i, wr.frozen? ⟨w.heap.size, i, none⟩ = false
  g0 : wr.cell? ⟨w.heap.size + 1, 0, none⟩ = some vA
  g1 : wr.cell? ⟨w.heap.size + 1, 1, none⟩ = some v
  fg : ∀ i, wr.frozen? ⟨w.heap.size + 1, i, none⟩ = false
  own : OwnX wr W4.heap.size v done
  keep : KeepS W4.heap.size W4 wr

theorem RdSt.next {w W4 wr w2 : World} {vA v v' : Value} {done done' : List XE} (h : RdSt w W4 wr vA v done) (hb : Below W4.heap.size wr w2) (ho : OwnX w2 W4.heap.size v' done') {a : Option Addr} {n c : Nat} (hv : v = .slice a n c) :
    RdSt w W4 (w2.setCell ⟨w.heap.size + 1, 1, none⟩ v') vA v' done' := by
  have hs4 := h.s4
  have hc : ∀ j i, j < 2 → w2.cell? ⟨w.heap.size + j, i, none⟩ = wr.cell? ⟨w.heap.size + j, i, none⟩ := fun j i hj => hb.cell (by show w.heap.size + j < _; omega)
  have hf : ∀ j i, j < 2 → w2.frozen? ⟨w.heap.size + j, i, none⟩ = wr.frozen? ⟨w.heap.size + j, i, none⟩ := fun j i hj => hb.frozen (by show w.heap.size + j < _; omega)
  have hg1 := (hc 1 1 (by omega)).trans h.g1
  refine ⟨(h.b.trans (hb.mono (by omega))).setCell (p := ⟨w.heap.size + 1, 1, none⟩) (by simp) _, by simpa using Nat.le_trans h.s hb.size, h.s4, ?_, ?_, ?_, ?_, ?_, ?_, ?_, ?_⟩
  · rw [World.cell?_setCell_other (h := by simp)]; exact (hc 0 0 (by omega)).trans h.r0
  · rw [World.cell?_setCell_other (h := by simp)]; exact (hc 0 1 (by omega)).trans h.r1
  · intro i; rw [World.frozen?_setCell]; exact (hf 0 i (by omega)).trans (h.fr i)
  · rw [World.cell?_setCell_other (h := by simp)]; exact (hc 1 0 (by omega)).trans h.g0
  · exact World.cell?_setCell_same' _ _ _ (by rw [hg1]; rfl)
  · intro i; rw [World.frozen?_setCell]; exact (hf 1 i (by omega)).trans (h.fg i)
  · exact ownsRow_setCell_below ho (by show w.heap.size + 1 < _; omega) _
  · exact (h.keep.trans (KeepS.below hb)).trans (KeepS.set (a := a) (n := n) (c := c) (by rw [hg1, hv]) _)

end Go.Proofs.Ytimcjkkbooinbaa

/- The document's answer, Build: the plain law of its order. -/
import Derived.Test.YtfeikolfdggnfaaDoorFc
namespace Go.Proofs.YtfeikolfdggnfaaDoor
open Go.RowKit Go.Shelf

/-- Is x's key not behind y's? -/
def notBehind (key : Nat) (y x : ByteArray) : Bool := !Op.bytesLess (keyL key y) (keyL key x)

/-- y, put behind all whose keys are not behind its own. -/
def insL (key : Nat) (ls : List ByteArray) (y : ByteArray) : List ByteArray := ls.takeWhile (notBehind key y) ++ y :: ls.dropWhile (notBehind key y)

theorem insL_perm (key : Nat) (ls : List ByteArray) (y : ByteArray) : (insL key ls y).Perm (y :: ls) := by
  unfold insL
  refine List.perm_middle.trans ?_
  rw [List.takeWhile_append_dropWhile]

/-- In order: no key ahead of an earlier one's. -/
def Ordered (key : Nat) (ls : List ByteArray) : Prop := ls.Pairwise fun a b => Op.bytesLess (keyL key b) (keyL key a) = false

theorem Ordered.sorted {key : Nat} {ls : List ByteArray} (h : Ordered key ls) : SortedK key ls := by
  intro i j hj hi
  exact List.pairwise_iff_getElem.1 h i j (Nat.lt_trans hi hj) hj hi

theorem Ordered.ins {key : Nat} {ls : List ByteArray} (h : Ordered key ls) (y : ByteArray) : Ordered key (insL key ls y) := by
  unfold insL Ordered
  have h0 : Ordered key (ls.takeWhile (notBehind key y) ++ ls.dropWhile (notBehind key y)) := by rw [List.takeWhile_append_dropWhile]; exact h
  obtain ⟨h1, h2, h3⟩ := List.pairwise_append.1 h0
  have hd : ∀ x ∈ ls.dropWhile (notBehind key y), Op.bytesLess (keyL key x) (keyL key y) = false := by
    cases hq : ls.dropWhile (notBehind key y) with
    | nil => intro x hx; cases hx
    | cons z zs =>
      have hz : notBehind key y z = false := by
        have := List.head_dropWhile_not (l := ls) (notBehind key y) (by rw [hq]; simp)
        simpa [hq] using this
      have hz2 : Op.bytesLess (keyL key y) (keyL key z) = true := by simpa [notBehind] using hz
      intro x hx
      rw [hq] at h2
      rcases List.mem_cons.1 hx with rfl | hx
      · exact bl_asymm hz2
      · have h4 := (List.pairwise_cons.1 h2).1 x hx
        cases h5 : Op.bytesLess (keyL key x) (keyL key y) with
        | false => rfl
        | true => rw [bl_trans h5 hz2] at h4; cases h4
  refine List.pairwise_append.2 ⟨h1, List.pairwise_cons.2 ⟨hd, h2⟩, ?_⟩
  intro a ha b hb
  rcases List.mem_cons.1 hb with rfl | hb
  · have := List.all_takeWhile (p := notBehind key b) (l := ls)
    have := List.all_eq_true.1 this a ha
    simpa [notBehind] using this
  · exact h3 a ha b hb

end Go.Proofs.YtfeikolfdggnfaaDoor

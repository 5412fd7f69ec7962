/- Rows of extensions appended; what is read of two rows. -/
import Derived.Test.YtimcjkkbooinbaaGr
namespace Go.Proofs.Ytimcjkkbooinbaa
open Go.RowKit Go.Shelf

/-- A row of extensions that has a block of its own. -/
def RowX (w : World) (base : Nat) (v : Value) (xs : List XE) : Prop := OwnX w base v xs ∧ ∃ g c, v = .slice (some ⟨g, 0, none⟩) xs.length c

theorem row_newX (w : World) (base : Nat) (hb : base ≤ w.heap.size) : RowX (w.alloc (.cells #[] 37)) base (.slice (some ⟨w.heap.size, 0, none⟩) 0 0) [] :=
  ⟨World.ownsRow_made w #[] 0 hb (by decide) (by simp), w.heap.size, 0, rfl⟩

/-- Extensions that are appended. -/
def SrcX (w : World) (x : Value) (ys : List XE) : Prop :=
  (∃ c, x = .slice none 0 c ∧ ys = []) ∨ ∃ ad c, x = .slice (some ad) ys.length c ∧ ∀ j u, (ys.flatMap encX)[j]? = some u → w.cell? (ad.add j) = some u

theorem XsAt.src {w : World} {a : Option Addr} {xs : List XE} (h : XsAt w a xs) (c : Nat) : SrcX w (.slice a xs.length c) xs := by
  cases xs with
  | nil =>
    cases a with
    | none => exact .inl ⟨c, rfl, rfl⟩
    | some ad => exact .inr ⟨ad, c, rfl, fun j u hu => by simp at hu⟩
  | cons x t =>
    obtain ⟨b, off, rfl, _⟩ := h 0 (by simp)
    refine .inr ⟨_, c, rfl, fun j u hu => ?_⟩
    rw [add_plain]
    have hj : j < (x :: t).length * 2 := by
      have := (List.getElem?_eq_some_iff.1 hu).1
      rwa [flat_len] at this
    have hi : j / 2 < (x :: t).length := by omega
    obtain ⟨b', off', e, h1, h2⟩ := h (j / 2) hi
    cases e
    obtain ⟨f1, f2⟩ := flat_enc (x :: t) (j / 2) hi
    rcases Nat.mod_two_eq_zero_or_one j with hm | hm
    · rw [show j / 2 * 2 = j by omega] at f1 h1
      rw [f1] at hu
      rw [← hu]; exact h1
    · rw [show j / 2 * 2 + 1 = j by omega] at f2
      rw [show off + j / 2 * 2 + 1 = off + j by omega] at h2
      rw [f2] at hu
      rw [← hu]; exact h2

theorem SrcX.below {w w' : World} {x : Value} {ys : List XE} (h : SrcX w x ys) (hb : Below w.heap.size w w') : SrcX w' x ys := by
  rcases h with h | ⟨ad, c, rfl, hc⟩
  · exact .inl h
  · exact .inr ⟨ad, c, rfl, fun j u hu => (hb.cell (World.block_lt_of_cell? w _ (hc j u hu))).trans (hc j u hu)⟩

theorem append_rowX {w : World} {ty : TypeId} {base : Nat} {v : Value} {xs : List XE} (hr : RowX w base v xs) {x : Value} {ys : List XE} (hx : SrcX w x ys) (hlen : xs.length + ys.length ≤ 1000000) (hbase : base ≤ w.heap.size) :
    ∃ v' w', (Builtin.append_ #[23, 23] ty #[v, x]).run Try.prog w = .ok v' w' ∧ RowX w' base v' (xs ++ ys) ∧ w.grownBy w' v.ownBlock := by
  obtain ⟨hown, g, c, rfl⟩ := hr
  obtain ⟨i0, hi, hz0, hz1, hz2⟩ := info_parts Try.infoX
  rcases hx with ⟨c', rfl, rfl⟩ | ⟨ad, c', rfl, hc⟩
  · obtain ⟨a0, cap0, e0, hc0, -⟩ := hown.xs
    cases e0
    have h1 := run_append_room_src (P := Try.prog) w 23 23 ty 37 i0 Try.underlying23 hi g 0 xs.length c (.slice none 0 c') 0 [] (Src.ofNil w Try.underlying23 c')
      (by omega) (fun j hj => absurd hj (by simp)) (fun j hj => absurd hj (by simp))
    refine ⟨_, _, h1, ?_, ?_⟩
    · rw [List.append_nil, Nat.add_zero]
      exact ⟨hown, g, c, rfl⟩
    · exact World.grownBy.refl _ _
  · obtain ⟨v', w', h1, h2, h3, h4⟩ := run_append_own (P := Try.prog) w base 23 ty 37 i0 (.agg #[.string ⟨#[]⟩, .slice none 0 0]) 2 40 Try.underlying23 hi hz0 hz1 hz2 rfl (by decide) _ xs.length _ hown ad ys.length c' (ys.flatMap encX) (flat_len ys) hc
      (by
        intro u hu
        obtain ⟨y, -, hy⟩ := List.mem_flatMap.1 hu
        unfold encX at hy
        simp only [List.mem_cons, List.not_mem_nil, or_false] at hy
        rcases hy with rfl | rfl <;> rfl) (by unfold maxLen; omega) (by omega) hbase
    have h5 : OwnX w' base v' (xs ++ ys) := by unfold OwnX; rw [List.length_append, List.flatMap_append]; exact h2
    refine ⟨v', w', h1, ⟨h5, ?_⟩, h3⟩
    rcases h5.2 with ⟨e, -⟩ | ⟨g', cap', cur, e, -⟩
    · have := h4.1 e
      cases this.1
    · exact ⟨g', cap', e⟩

theorem append_opX {w : World} {o : Oper} {a : Act} {K : Act → World → Prop} {Q : Exit → Act → World → Prop} (s x : Operand)
    (ho : o.op = .call { callee := .builtin .append, args := #[s, x], argTypes := #[23, 23] })
    (base : Nat) (v : Value) (xs ys : List XE) (hs : a.eval s = v) (hr : RowX w base v xs) (hx : SrcX w (a.eval x) ys) (hlen : xs.length + ys.length ≤ 1000000) (hbase : base ≤ w.heap.size)
    (h : ∀ v' w', RowX w' base v' (xs ++ ys) → w.grownBy w' v.ownBlock → K (a.put o.dst v') w') : o.wp Try.prog a w K Q := by
  obtain ⟨v', w', h1, h2, h3⟩ := append_rowX (ty := o.type) hr hx hlen hbase
  unfold Oper.wp execOp
  simp only [ho, resolve, invoke, builtin, Sem.run_bind, Sem.run_pure, Result.andThen_ok, List.map_toArray, List.map_cons, List.map_nil, hs, h1]
  exact h _ _ h2 h3

/-! ### what is read of two rows -/
theorem takeWhile_join {B : List ByteArray} (hB : B.takeWhile noKey = []) : ∀ A : List ByteArray, (A ++ B).takeWhile noKey = A.takeWhile noKey
  | [] => hB
  | a :: A => by
    rw [List.cons_append, List.takeWhile_cons, List.takeWhile_cons, takeWhile_join hB A]

theorem dropWhile_join {B : List ByteArray} (hB : B.takeWhile noKey = []) : ∀ A : List ByteArray, (A ++ B).dropWhile noKey = A.dropWhile noKey ++ B
  | [] => by
    have := List.takeWhile_append_dropWhile (p := noKey) (l := B)
    rw [hB, List.nil_append] at this
    simpa using this
  | a :: A => by
    rw [List.cons_append, List.dropWhile_cons, List.dropWhile_cons, dropWhile_join hB A]
    split <;> rfl

theorem exts_join {B : List ByteArray} (hB : B.takeWhile noKey = []) (A : List ByteArray) : exts (A ++ B) = exts A ++ exts B := by
  refine exts_ind (P := fun A => exts (A ++ B) = exts A ++ exts B) rfl (fun k l ih => ?_) A
  show exts ((k :: l) ++ B) = exts (k :: l) ++ exts B
  rw [List.cons_append, exts_cons, exts_cons, takeWhile_join hB, dropWhile_join hB, ih, List.cons_append]

def caB : ByteArray := ⟨#[99, 97]⟩
theorem ca_key (l : List ByteArray) : ((caB :: l).map lowB).takeWhile noKey = [] := by
  rw [List.map_cons, List.takeWhile_cons, show noKey (lowB caB) = false by kernel_rfl]; rfl

theorem readA_join (A l : List ByteArray) : readA (A ++ caB :: l) = readA A := by
  unfold readA; rw [List.map_append, takeWhile_join (ca_key l)]
theorem readE_join (A l : List ByteArray) : readE (A ++ caB :: l) = readE A ++ readE (caB :: l) := by
  have h := dropWhile_join (ca_key l) []
  simp only [List.nil_append, List.dropWhile_nil] at h
  unfold readE; rw [List.map_append, dropWhile_join (ca_key l), exts_join (ca_key l), h]
theorem readA_ca (l : List ByteArray) : readA (caB :: l) = [] := ca_key l
theorem readE_ca (l : List ByteArray) : 1 ≤ (readE (caB :: l)).length := by
  have h := dropWhile_join (ca_key l) []
  simp only [List.nil_append, List.dropWhile_nil] at h
  unfold readE
  rw [h, List.map_cons, exts_cons, List.length_cons]
  omega

end Go.Proofs.Ytimcjkkbooinbaa

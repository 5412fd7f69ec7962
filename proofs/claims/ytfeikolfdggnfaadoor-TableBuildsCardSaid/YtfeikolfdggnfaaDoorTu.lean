/- Parts of a row of texts; they are appended to a row of the call's own, in a region that draws its order. -/
import Derived.Test.YtfeikolfdggnfaaDoorTm
import Derived.Deep.AppendSrc
namespace Go.Proofs.YtfeikolfdggnfaaDoor
open Go.RowKit

/-- What is appended: the texts ys. -/
def SrcAt (w : World) (x : Value) (ys : List ByteArray) : Prop :=
  (∃ c, x = .slice none 0 c ∧ ys = []) ∨ ∃ ad c, x = .slice (some ad) ys.length c ∧ ∀ (j : Nat) (h : j < ys.length), w.cell? (ad.add j) = some (.string ys[j])

theorem add_plain (b off i : Nat) : (⟨b, off, none⟩ : Addr).add i = ⟨b, off + i, none⟩ := by
  unfold Addr.add
  split
  · rename_i h; rw [h]; rfl
  · rfl

theorem StrsAt.behind {w : World} {a : Option Addr} {xs : List ByteArray} (h : StrsAt w a xs) (k cap : Nat) (hk : k ≤ xs.length) (hc : xs.length ≤ cap) :
    SrcAt w (.slice (if cap = k then a else a.map (·.add k)) (xs.length - k) (cap - k)) (xs.drop k) := by
  rcases Nat.lt_or_ge k xs.length with hlt | hge
  · obtain ⟨b, off, rfl, -⟩ := h k hlt
    rw [if_neg (by omega)]
    refine .inr ⟨⟨b, off + k, none⟩, _, by rw [Option.map_some, add_plain, List.length_drop], fun j hj => ?_⟩
    rw [List.length_drop] at hj
    obtain ⟨b', off', e1, e2⟩ := h (k + j) (by omega)
    obtain ⟨rfl, rfl⟩ : b = b' ∧ off = off' := by simpa using e1
    rw [add_plain, List.getElem_drop, Nat.add_assoc]
    exact e2
  · obtain rfl : k = xs.length := by omega
    rw [Nat.sub_self, List.drop_length]
    generalize (if cap = xs.length then a else a.map (·.add xs.length)) = y
    cases y with
    | none => exact .inl ⟨_, rfl, rfl⟩
    | some ad => exact .inr ⟨ad, _, rfl, fun j hj => absurd hj (by simp)⟩

theorem StrsAt.upto {w : World} {a : Option Addr} {xs : List ByteArray} (h : StrsAt w a xs) (k cap : Nat) (hk : k ≤ xs.length) : SrcAt w (.slice a k cap) (xs.take k) := by
  have hl : (xs.take k).length = k := by rw [List.length_take]; omega
  cases a with
  | none =>
    rcases Nat.eq_zero_or_pos k with rfl | hp
    · exact .inl ⟨_, rfl, by simp⟩
    · obtain ⟨b, off, e, -⟩ := h 0 (by omega); cases e
  | some ad =>
    refine .inr ⟨ad, _, by rw [hl], fun j hj => ?_⟩
    rw [hl] at hj
    obtain ⟨b, off, e, e2⟩ := h j (by omega)
    cases e
    rw [add_plain, List.getElem_take]
    exact e2

theorem SrcAt.below {w w' : World} {x : Value} {ys : List ByteArray} (h : SrcAt w x ys) (hb : Below w.heap.size w w') : SrcAt w' x ys := by
  rcases h with h | ⟨ad, c, rfl, hc⟩
  · exact .inl h
  · exact .inr ⟨ad, c, rfl, fun j hj => (hb.cell (World.block_lt_of_cell? w _ (hc j hj))).trans (hc j hj)⟩

/-- A row that has a block of its own. -/
def RowS (w : World) (base : Nat) (v : Value) (xs : List ByteArray) : Prop := OwnS w base v xs ∧ ∃ g c, v = .slice (some ⟨g, 0, none⟩) xs.length c

theorem append_row {w : World} {ty : TypeId} {base : Nat} {v : Value} {xs : List ByteArray} (hr : RowS w base v xs) {x : Value} {ys : List ByteArray} (hx : SrcAt w x ys) (hlen : xs.length + ys.length ≤ 1000000) (hbase : base ≤ w.heap.size) :
    ∃ v' w', (Builtin.append_ #[22, 22] ty #[v, x]).run Tryd.prog w = .ok v' w' ∧ RowS w' base v' (xs ++ ys) ∧ w.grownBy w' v.ownBlock := by
  obtain ⟨hown, g, c, rfl⟩ := hr
  obtain ⟨i0, hi, hz0, hz1, hz2⟩ := info_parts Tryd.infoS
  rcases hx with ⟨c', rfl, rfl⟩ | ⟨ad, c', rfl, hc⟩
  · have h1 := run_append_room_src (P := Tryd.prog) w 22 22 ty 9 i0 Tryd.underlying22 hi g 0 xs.length c (.slice none 0 c') 0 [] (Src.ofNil w Tryd.underlying22 c')
      (by have := hown.cap _ _ _ rfl; omega) (fun j hj => absurd hj (by simp)) (fun j hj => absurd hj (by simp))
    refine ⟨_, _, h1, ?_, ?_⟩
    · rw [List.append_nil, Nat.add_zero]
      exact ⟨hown, g, c, rfl⟩
    · exact World.grownBy.refl _ _
  · obtain ⟨v', w', h1, h2, h3, h4⟩ := run_append_own (P := Tryd.prog) w base 22 ty 9 i0 (.string ⟨#[]⟩) 1 16 Tryd.underlying22 hi hz0 hz1 hz2 rfl (by decide) _ xs.length _ hown ad ys.length c' (ys.map .string) (by simp)
      (by
        intro j u hu
        rw [List.getElem?_map] at hu
        obtain ⟨y, hy, rfl⟩ := Option.map_eq_some_iff.1 hu
        obtain ⟨hj, rfl⟩ := List.getElem?_eq_some_iff.1 hy
        exact hc j hj)
      (by intro u hu; obtain ⟨y, -, rfl⟩ := List.mem_map.1 hu; rfl) (by unfold maxLen; omega) (by omega) hbase
    have h5 : OwnS w' base v' (xs ++ ys) := by unfold OwnS; rw [List.length_append, List.map_append]; exact h2
    refine ⟨v', w', h1, ⟨h5, ?_⟩, h3⟩
    rcases h5.2 with ⟨e, -⟩ | ⟨g', cap', cur, e, -⟩
    · have := h4.1 e
      cases this.1
    · exact ⟨g', cap', e⟩

theorem append_op {w : World} {o : Oper} {a : Act} {K : Act → World → Prop} {Q : Exit → Act → World → Prop} (s x : Operand)
    (ho : o.op = .call { callee := .builtin .append, args := #[s, x], argTypes := #[22, 22] })
    (base : Nat) (v : Value) (xs ys : List ByteArray) (hs : a.eval s = v) (hr : RowS w base v xs) (hx : SrcAt w (a.eval x) ys) (hlen : xs.length + ys.length ≤ 1000000) (hbase : base ≤ w.heap.size)
    (h : ∀ v' w', RowS w' base v' (xs ++ ys) → w.grownBy w' v.ownBlock → K (a.put o.dst v') w') : o.wp Tryd.prog a w K Q := by
  obtain ⟨v', w', h1, h2, h3⟩ := append_row (ty := o.type) hr hx hlen hbase
  unfold Oper.wp execOp
  simp only [ho, resolve, invoke, builtin, Sem.run_bind, Sem.run_pure, Result.andThen_ok, List.map_toArray, List.map_cons, List.map_nil, hs, h1]
  exact h _ _ h2 h3

/-- An empty row, laid. -/
theorem row_new (w : World) (base : Nat) (hb : base ≤ w.heap.size) : RowS (w.alloc (.cells #[] 9)) base (.slice (some ⟨w.heap.size, 0, none⟩) 0 0) [] :=
  ⟨World.ownsRow_made w #[] 0 hb (by decide) (by simp), w.heap.size, 0, rfl⟩

end Go.Proofs.YtfeikolfdggnfaaDoor

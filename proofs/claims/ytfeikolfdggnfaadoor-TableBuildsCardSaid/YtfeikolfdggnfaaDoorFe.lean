/- The document's answer: Build. -/
import Derived.Test.YtfeikolfdggnfaaDoorFd
import Derived.Deep.DeepCutAuto
namespace Go.Proofs.YtfeikolfdggnfaaDoor
open Go.RowKit Go.Shelf

theorem take_at (key : Nat) (ls : List ByteArray) (y : ByteArray) : insL key ls y = ls.take (ls.takeWhile (notBehind key y)).length ++ y :: ls.drop (ls.takeWhile (notBehind key y)).length := by
  unfold insL
  have h := List.takeWhile_append_dropWhile (p := notBehind key y) (l := ls)
  generalize ls.takeWhile (notBehind key y) = a at h
  generalize ls.dropWhile (notBehind key y) = b at h
  subst h
  rw [List.take_left, List.drop_left]

set_option maxHeartbeats 400000 in
theorem refbuild_arg (width key : Int) (a : Option Addr) (n cap : Nat) (w : World) (h : mayB width key = false) :
    Calls Tryd.prog 10 #[.int .i64 width, .int .i64 key, .slice a n cap] w (RefPost w (some (1, 0)) []) := by
  have hc : key < 1 ∨ (1 ≤ key ∧ width < key) ∨ (1 ≤ key ∧ key ≤ width ∧ 255 < width) := by
    have h' := h
    simp only [mayB, Bool.and_eq_false_iff, decide_eq_false_iff_not] at h'
    omega
  clear h
  go_enter Tryd.func10, Tryd.ntmps10
  have hb : Below w.heap.size w (w.alloc (.cells #[.slice none 0 0, .int .i64 1, .int .i64 0] 28)) := (Below.refl _ _).alloc (Nat.le_refl _) _
  rcases hc with h1 | ⟨h1, h2⟩ | ⟨h1, h2, h3⟩
  all_goals
    go_wp2_with fail
    refine bodyPost_ret (v := .agg #[.slice none 0 0, .int .i64 1, .int .i64 0]) ?_ rfl ⟨hb, rfl⟩
    simp [results, Tryd.f10, go_sem]

/-- What the document's Build hands back. -/
def RefBuilt (w : World) (width key : Int) (xs : List ByteArray) (e : Ending) (w' : World) : Prop :=
  (mayB width key = false ∧ RefPost w (some (1, 0)) [] e w') ∨
  (∃ i, mayB width key = true ∧ oddFrom width xs xs.length 0 = some i ∧ RefPost w (some (12, (i : Int))) [] e w') ∨
  (∃ zs, mayB width key = true ∧ oddFrom width xs xs.length 0 = none ∧ zs.Perm xs ∧ Ordered key.toNat zs ∧ RefPost w (newE width key (catB zs)) zs e w')

/-- The result's box, and the row, as they stand in the outer loop. -/
structure InsSt (w wr : World) (a : Option Addr) (ls : List ByteArray) : Prop where
  b : Below w.heap.size w wr
  s : w.heap.size + 1 ≤ wr.heap.size
  r0 : wr.cell? ⟨w.heap.size, 0, none⟩ = some (.slice none 0 0)
  r1 : wr.cell? ⟨w.heap.size, 1, none⟩ = some (.int .i64 0)
  r2 : wr.cell? ⟨w.heap.size, 2, none⟩ = some (.int .i64 0)
  f0 : ∀ i, wr.frozen? ⟨w.heap.size, i, none⟩ = false
  own : StrsAt wr a ls

theorem InsSt.next {w wr w2 : World} {a a' : Option Addr} {ls ls' : List ByteArray} (h : InsSt w wr a ls) (hb : Below wr.heap.size wr w2) (ho : StrsAt w2 a' ls') : InsSt w w2 a' ls' := by
  have hc : ∀ i, w2.cell? ⟨w.heap.size, i, none⟩ = wr.cell? ⟨w.heap.size, i, none⟩ := fun i => hb.cell (by show w.heap.size < _; have := h.s; omega)
  have hf : ∀ i, w2.frozen? ⟨w.heap.size, i, none⟩ = wr.frozen? ⟨w.heap.size, i, none⟩ := fun i => hb.frozen (by show w.heap.size < _; have := h.s; omega)
  exact ⟨h.b.trans (hb.mono h.b.size), Nat.le_trans h.s hb.size, (hc 0).trans h.r0, (hc 1).trans h.r1, (hc 2).trans h.r2, fun i => (hf i).trans (h.f0 i), ho⟩

theorem takeWhile_len {p : ByteArray → Bool} {ls : List ByteArray} {j : Nat} (hj : j ≤ ls.length) (h : ∀ i (hi : i < j), p (ls[i]'(by omega)) = true) (hs : ∀ hlt : j < ls.length, p ls[j] = false) : (ls.takeWhile p).length = j := by
  have h1 : ∀ x ∈ ls.take j, p x = true := by
    intro x hx
    obtain ⟨i, hi, rfl⟩ := List.getElem_of_mem hx
    rw [List.getElem_take]
    exact h i (by rw [List.length_take] at hi; omega)
  have h2 : (ls.drop j).takeWhile p = [] := by
    rcases Nat.lt_or_ge j ls.length with hlt | hge
    · rw [List.drop_eq_getElem_cons hlt, List.takeWhile_cons, hs hlt]; rfl
    · rw [List.drop_of_length_le hge]; rfl
  have h3 : (ls.take j ++ ls.drop j).takeWhile p = ls.take j := by rw [List.takeWhile_append_of_pos h1, h2, List.append_nil]
  rw [List.take_append_drop] at h3
  rw [h3, List.length_take]; omega

/-- An append onto a slice without room, in a region that draws. -/
theorem append_full_op {w : World} {o : Oper} {a : Act} {K : Act → World → Prop} {Q : Exit → Act → World → Prop} (s x : Operand)
    (ho : o.op = .call { callee := .builtin .append, args := #[s, x], argTypes := #[22, 22] })
    (a7 : Option Addr) (xs : List ByteArray) (hs : a.eval s = .slice a7 xs.length xs.length) (h : StrsAt w a7 xs) (ad : Addr) (c : Nat) (y : ByteArray) (hx : a.eval x = .slice (some ad) 1 c) (hy : w.cell? (ad.add 0) = some (.string y)) (hlen : xs.length ≤ 1000000)
    (hk : ∀ v' w', RowS w' w.heap.size v' (xs ++ [y]) → Below w.heap.size w w' → K (a.put o.dst v') w') : o.wp Tryd.prog a w K Q := by
  obtain ⟨v', w', h1, h2, h3⟩ := append_full (ty := o.type) h ad c y hy hlen
  unfold Oper.wp execOp
  simp only [ho, resolve, invoke, builtin, Sem.run_bind, Sem.run_pure, Result.andThen_ok, List.map_toArray, List.map_cons, List.map_nil, hs, hx, h1]
  exact hk _ _ h2 h3

/-- An append onto a row of the call's own, in a region in order. -/
theorem append_list {w : World} {ops : Array Oper} {rest : List Oper} {o : Oper} {a : Act} {Q : Exit → Act → World → Prop} (hgd : o.guard = none) (s x : Operand)
    (ho : o.op = .call { callee := .builtin .append, args := #[s, x], argTypes := #[22, 22] })
    (base : Nat) (v : Value) (xs ys : List ByteArray) (hs : a.eval s = v) (hr : RowS w base v xs) (hx : SrcAt w (a.eval x) ys) (hlen : xs.length + ys.length ≤ 1000000) (hbase : base ≤ w.heap.size)
    (h : ∀ v' w', RowS w' base v' (xs ++ ys) → w.grownBy w' v.ownBlock → wpList Tryd.prog ops Q rest (a.put o.dst v') w') : wpList Tryd.prog ops Q (o :: rest) a w :=
  wpList_plain hgd fun _ hK => append_op s x ho base v xs ys hs hr hx hlen hbase (fun v' w' h1 h2 => hK _ _ (h v' w' h1 h2))

theorem RowS.src {w : World} {base : Nat} {v : Value} {xs : List ByteArray} (h : RowS w base v xs) : SrcAt w v xs := by
  obtain ⟨hown, g, c, rfl⟩ := h
  refine .inr ⟨_, c, rfl, fun j hj => ?_⟩
  exact hown.cells (g := g) rfl j (.string xs[j]) (by simp [hj])

theorem oddFrom_step {width : Int} {xs : List ByteArray} {k : Nat} {y : ByteArray} (hy : xs[k]? = some y) (h : (y.size : Int) = width) : oddFrom width xs (xs.length - k) k = oddFrom width xs (xs.length - (k + 1)) (k + 1) := by
  obtain ⟨hk, e⟩ := List.getElem?_eq_some_iff.1 hy
  rw [show xs.length - k = (xs.length - (k + 1)) + 1 by omega]
  simp only [oddFrom]
  rw [if_pos hk, if_pos]
  simpa [hk, e] using h

end Go.Proofs.YtfeikolfdggnfaaDoor

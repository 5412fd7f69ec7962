/- Extensions in rows; what subtags say. -/
import Derived.Test.YtimcjkkbooinbaaGf
namespace Go.Proofs.Ytimcjkkbooinbaa
open Go.RowKit Go.Shelf

/-- An extension as it lies: its key; where its subtags lie, and which they are. -/
structure XE where
  key : ByteArray
  sub : Option Addr
  cap : Nat
  subs : List ByteArray

instance : Inhabited XE := ⟨⟨⟨#[]⟩, none, 0, []⟩⟩

def encX (x : XE) : List Value := [.string x.key, .slice x.sub x.subs.length x.cap]
def XE.val (x : XE) : ByteArray × List ByteArray := (x.key, x.subs)
def XE.ok (w : World) (x : XE) : Prop := x.subs.length ≤ x.cap ∧ StrsAt w x.sub x.subs

theorem XE.ok.below {w w' : World} {x : XE} (h : x.ok w) (hb : Below w.heap.size w w') : x.ok w' := ⟨h.1, h.2.below hb⟩

/-- A slice of extensions that reads as xs. -/
def XsAt (w : World) (a : Option Addr) (xs : List XE) : Prop :=
  ∀ i (h : i < xs.length), ∃ b off, a = some ⟨b, off, none⟩ ∧ w.cell? ⟨b, off + i * 2, none⟩ = some (.string xs[i].key) ∧ w.cell? ⟨b, off + i * 2 + 1, none⟩ = some (.slice xs[i].sub xs[i].subs.length xs[i].cap)

theorem XsAt.below {w w' : World} {a : Option Addr} {xs : List XE} (h : XsAt w a xs) (hb : Below w.heap.size w w') : XsAt w' a xs := by
  intro i hi
  obtain ⟨b, off, ha, h1, h2⟩ := h i hi
  exact ⟨b, off, ha, (hb.cell (p := ⟨b, off + i * 2, none⟩) (World.block_lt_of_cell? w _ h1)).trans h1, (hb.cell (p := ⟨b, off + i * 2 + 1, none⟩) (World.block_lt_of_cell? w _ h2)).trans h2⟩

/-- A slice of extensions of the call's own. -/
def OwnX (w : World) (base : Nat) (v : Value) (xs : List XE) : Prop := w.ownsRow base 37 2 v xs.length (xs.flatMap encX)

theorem flat_enc : ∀ (xs : List XE) (i : Nat) (h : i < xs.length), (xs.flatMap encX)[i * 2]? = some (.string xs[i].key) ∧ (xs.flatMap encX)[i * 2 + 1]? = some (.slice xs[i].sub xs[i].subs.length xs[i].cap)
  | [], i, h => by simp at h
  | x :: xs, 0, _ => ⟨rfl, rfl⟩
  | x :: xs, i + 1, h => by
    have := flat_enc xs i (by simpa using h)
    rw [List.flatMap_cons, show (i + 1) * 2 = i * 2 + 1 + 1 by omega]
    exact this

theorem flat_len (xs : List XE) : (xs.flatMap encX).length = xs.length * 2 := by
  induction xs with
  | nil => rfl
  | cons x xs ih => rw [List.flatMap_cons, List.length_append, ih, List.length_cons]; simp [encX]; omega

theorem OwnX.xs {w : World} {base : Nat} {v : Value} {xs : List XE} (h : OwnX w base v xs) : ∃ a cap, v = .slice a xs.length cap ∧ xs.length ≤ cap ∧ XsAt w a xs := by
  rcases h.2 with ⟨rfl, h0⟩ | ⟨g, cap, cur, rfl, hb, hg, h1, _⟩
  · refine ⟨none, 0, by rw [h0], by omega, fun i hi => by omega⟩
  · refine ⟨some ⟨g, 0, none⟩, cap, rfl, h1, fun i hi => ⟨g, 0, rfl, ?_, ?_⟩⟩
    · have := h.cells (g := g) rfl (i * 2) _ (flat_enc xs i hi).1
      rw [add_plain] at this; exact this
    · have := h.cells (g := g) rfl (i * 2 + 1) _ (flat_enc xs i hi).2
      rw [add_plain] at this; exact this

theorem OwnX.alloc {w : World} {base : Nat} {v : Value} {xs : List XE} (h : OwnX w base v xs) (o : Obj) : OwnX (w.alloc o) base v xs := World.ownsRow.alloc h o
theorem OwnX.ge {w : World} {base : Nat} {v : Value} {xs : List XE} (h : OwnX w base v xs) : ∀ k, v.ownBlock = some k → base ≤ k := fun k hk => (World.ownsRow.lt h k hk).1
theorem OwnX.below {w w' : World} {base : Nat} {v : Value} {xs : List XE} (h : OwnX w base v xs) (hb : Below w.heap.size w w') : OwnX w' base v xs := World.ownsRow.kept h (grown_of_below hb none) (Classical.em _)
theorem OwnX.mono {w : World} {base base' : Nat} {v : Value} {xs : List XE} (h : OwnX w base v xs) (hb : base' ≤ base) : OwnX w base' v xs :=
  ⟨h.1, h.2.imp id fun ⟨g, cap, cur, h1, h2, h3⟩ => ⟨g, cap, cur, h1, Nat.le_trans hb h2, h3⟩⟩
theorem OwnS.below {w w' : World} {base : Nat} {v : Value} {xs : List ByteArray} (h : OwnS w base v xs) (hb : Below w.heap.size w w') : OwnS w' base v xs := World.ownsRow.kept h (grown_of_below hb none) (Classical.em _)

theorem Try.infoX : (Try.prog.info? 37).map (fun i => (i.zero, i.size, i.bytes)) = some (some (.agg #[.string ⟨#[]⟩, .slice none 0 0]), 2, 40) := by kernel_rfl

/-- One extension is appended to a slice of the call's own. -/
theorem append_X {w : World} {ops : Array Oper} {rest : List Oper} {o : Oper} {a : Act} {Q : Exit → Act → World → Prop} (hgd : o.guard = none) (s x : Operand)
    (ho : o.op = .call { callee := .builtin .append, args := #[s, x], argTypes := #[23, 23] })
    (base : Nat) (v : Value) (xs : List XE) (hs : a.eval s = v) (hown : OwnX w base v xs) (b c : Nat) (y : XE) (hx : a.eval x = .slice (some ⟨b, 0, none⟩) 1 c)
    (hc0 : w.cell? ⟨b, 0, none⟩ = some (.string y.key)) (hc1 : w.cell? ⟨b, 1, none⟩ = some (.slice y.sub y.subs.length y.cap)) (hlen : xs.length + 1 ≤ 1000000) (hbase : base ≤ w.heap.size)
    (h : ∀ v' w', OwnX w' base v' (xs ++ [y]) → w.grownBy w' v.ownBlock → wpList Try.prog ops Q rest (a.put o.dst v') w') : wpList Try.prog ops Q (o :: rest) a w := by
  obtain ⟨i0, hi, hz0, hz1, hz2⟩ := info_parts Try.infoX
  refine wpList_append_own w hgd s x 23 ho base 37 i0 (.agg #[.string ⟨#[]⟩, .slice none 0 0]) 2 40 Try.underlying23 hi hz0 hz1 hz2 rfl (by decide) v xs.length _ hs hown ⟨b, 0, none⟩ 1 c (encX y) hx rfl ?_ ?_ (by unfold maxLen; omega) (by omega) hbase ?_
  · intro j u hu
    rcases j with _ | _ | j
    · obtain rfl := Option.some.inj hu; exact hc0
    · obtain rfl := Option.some.inj hu; exact hc1
    · simp [encX] at hu
  · intro u hu
    unfold encX at hu
    simp only [List.mem_cons, List.not_mem_nil, or_false] at hu
    rcases hu with rfl | rfl <;> rfl
  · intro v' w' h1 h2 _
    exact h v' w' (by unfold OwnX; simpa [List.flatMap_append] using h1) h2

/-- Keywords: attributes, and extensions. -/
def KwAt (w : World) (v : Value) (attrs : List ByteArray) (xs : List XE) : Prop :=
  ∃ aA cA aK cK, v = .agg #[.slice aA attrs.length cA, .slice aK xs.length cK] ∧ attrs.length ≤ cA ∧ xs.length ≤ cK ∧ StrsAt w aA attrs ∧ XsAt w aK xs ∧ ∀ x ∈ xs, x.ok w

theorem KwAt.below {w w' : World} {v : Value} {attrs : List ByteArray} {xs : List XE} (h : KwAt w v attrs xs) (hb : Below w.heap.size w w') : KwAt w' v attrs xs := by
  obtain ⟨aA, cA, aK, cK, e, h1, h2, h3, h4, h5⟩ := h
  exact ⟨aA, cA, aK, cK, e, h1, h2, h3.below hb, h4.below hb, fun x hx => (h5 x hx).below hb⟩

/-- What subtags say behind attributes: keys, and what stands behind each. -/
def extsF : Nat → List ByteArray → List (ByteArray × List ByteArray)
  | 0, _ => []
  | _ + 1, [] => []
  | m + 1, k :: l => (k, l.takeWhile noKey) :: extsF m (l.dropWhile noKey)

def exts (l : List ByteArray) : List (ByteArray × List ByteArray) := extsF l.length l

theorem drop_len (l : List ByteArray) : (l.dropWhile noKey).length ≤ l.length := (List.dropWhile_sublist _).length_le

theorem extsF_eq : ∀ (m n : Nat) (l : List ByteArray), l.length ≤ m → l.length ≤ n → extsF m l = extsF n l
  | 0, n, [], _, _ => by cases n <;> rfl
  | m + 1, n, [], _, _ => by cases n <;> rfl
  | 0, _, _ :: _, h, _ => by simp at h
  | m + 1, 0, _ :: _, _, h => by simp at h
  | m + 1, n + 1, k :: l, h1, h2 => by
    simp only [extsF]
    have := drop_len l
    rw [List.length_cons] at h1 h2
    rw [extsF_eq m n _ (by omega) (by omega)]

theorem exts_cons (k : ByteArray) (l : List ByteArray) : exts (k :: l) = (k, l.takeWhile noKey) :: exts (l.dropWhile noKey) := by
  unfold exts
  rw [List.length_cons]
  simp only [extsF]
  rw [extsF_eq l.length (l.dropWhile noKey).length _ (drop_len l) (Nat.le_refl _)]

/-- What subtags say. -/
def readA (l : List ByteArray) : List ByteArray := (l.map lowB).takeWhile noKey
def readE (l : List ByteArray) : List (ByteArray × List ByteArray) := exts ((l.map lowB).dropWhile noKey)

end Go.Proofs.Ytimcjkkbooinbaa

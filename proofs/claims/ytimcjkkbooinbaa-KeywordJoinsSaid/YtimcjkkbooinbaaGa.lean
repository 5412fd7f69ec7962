/- Texts in rows, generic: what a slice of texts reads as, rows of the call's own, appends; regions over later worlds. -/
import Derived.Test.YtimcjkkbooinbaaRows
import Derived.WalkKit
import Derived.WalkSpells
import Derived.WalkLawsBesides
import Derived.Deep.QuietTactic
import Derived.BigQuiet
import Derived.Lib.Hide
import Derived.WalkSmall
import Derived.Deep.AppendSrc
import Derived.Deep.DeepCutAuto
import Derived.Deep.CutBlock
namespace Go.Proofs.Ytimcjkkbooinbaa
open Go.RowKit

theorem grown_of_below {w w1 : World} (h : Below w.heap.size w w1) (row : Option Nat) : w.grownBy w1 row := ⟨h.os, h.tape, h.output, h.size, fun i hi _ => h.block i hi⟩

/-- What a function that only reads hands back. -/
def Quietly (w : World) (v : Value) (e : Ending) (w' : World) : Prop := e = .returned v ∧ ∃ n, w' = w.drewN n

theorem Quietly.mk {w w' : World} {v v' : Value} (n : Nat) (h : v' = v) (hw : w' = w.drewN n) : Quietly w v (.returned v') w' := ⟨by rw [h], n, hw⟩

theorem rest_mod {x n : Int} (hn : 1 ≤ n) (hn2 : n ≤ 1000000) : (wrap64 (x.tmod n + n)).tmod n = x % n := by
  have h1 : x.tmod n < n := Int.tmod_lt_of_pos x (by omega)
  have h2 : -n < x.tmod n := by
    have := Int.tmod_lt_of_pos (-x) (show 0 < n by omega); rw [Int.neg_tmod] at this; omega
  rw [show wrap64 (x.tmod n + n) = x.tmod n + n by unfold wrap64; omega]
  rw [Int.tmod_eq_emod_of_nonneg (by omega), Int.add_emod_right]
  have h3 := Int.emod_add_mul_ediv x n
  rw [Int.tmod_eq_emod]
  split
  · simp
  · rw [show ((n.natAbs : Nat) : Int) = n by omega, Int.sub_emod]; simp

theorem extract_all (s : ByteArray) (n : Nat) (h : s.size ≤ n) : s.extract 0 n = s := by
  ext1; simp only [ByteArray.data_extract]; exact Array.extract_eq_self_of_le h

/-- A slice of texts that reads as xs. -/
def StrsAt (w : World) (a : Option Addr) (xs : List ByteArray) : Prop :=
  ∀ i (h : i < xs.length), ∃ b off, a = some ⟨b, off, none⟩ ∧ w.cell? ⟨b, off + i, none⟩ = some (.string xs[i])

theorem StrsAt.below {w w' : World} {a : Option Addr} {xs : List ByteArray} (h : StrsAt w a xs) (hb : Below w.heap.size w w') : StrsAt w' a xs := by
  intro i hi
  obtain ⟨b, off, ha, hc⟩ := h i hi
  exact ⟨b, off, ha, (hb.cell (p := ⟨b, off + i, none⟩) (World.block_lt_of_cell? w _ hc)).trans hc⟩

/-- A slice of texts that the call itself has made, from block 'base' on. -/
def OwnS (w : World) (base : Nat) (v : Value) (xs : List ByteArray) : Prop := w.ownsRow base 9 1 v xs.length (xs.map .string)

theorem OwnS.strs {w : World} {base : Nat} {v : Value} {xs : List ByteArray} (h : OwnS w base v xs) : ∃ a cap, v = .slice a xs.length cap ∧ StrsAt w a xs := by
  rcases h.2 with ⟨rfl, h0⟩ | ⟨g, cap, cur, rfl, hb, hg, _⟩
  · refine ⟨none, 0, by rw [h0], fun i hi => by omega⟩
  · refine ⟨some ⟨g, 0, none⟩, cap, rfl, fun i hi => ⟨g, 0, rfl, ?_⟩⟩
    have := h.cells (g := g) rfl i (.string xs[i]) (by simp [hi])
    rw [show (⟨g, 0, none⟩ : Addr).add i = ⟨g, 0 + i, none⟩ by unfold Addr.add; split <;> simp_all] at this
    exact this

theorem Try.infoS : (Try.prog.info? 9).map (fun i => (i.zero, i.size, i.bytes)) = some (some (.string ⟨#[]⟩), 1, 16) := by kernel_rfl

/-- The first ones, each cut to 9 bytes. -/
def fewL (l : List ByteArray) : List ByteArray := l.map (·.extract 0 9)

theorem fewL_snoc (l : List ByteArray) (k : Nat) (h : k < l.length) : fewL (l.take (k + 1)) = fewL (l.take k) ++ [l[k].extract 0 9] := by
  rw [List.take_succ_eq_append_getElem h]; unfold fewL; rw [List.map_append]; rfl

theorem OwnS.alloc {w : World} {base : Nat} {v : Value} {xs : List ByteArray} (h : OwnS w base v xs) (o : Obj) : OwnS (w.alloc o) base v xs := World.ownsRow.alloc h o

theorem OwnS.len {w : World} {base : Nat} {v : Value} {xs : List ByteArray} (h : OwnS w base v xs) {n : Nat} (e : xs.length = n) : w.ownsRow base 9 1 v n (xs.map .string) := e ▸ h

theorem OwnS.ge {w : World} {base : Nat} {v : Value} {xs : List ByteArray} (h : OwnS w base v xs) : ∀ k, v.ownBlock = some k → base ≤ k := fun k hk => (World.ownsRow.lt h k hk).1

theorem OwnS.mono {w : World} {base base' : Nat} {v : Value} {xs : List ByteArray} (h : OwnS w base v xs) (hb : base' ≤ base) : OwnS w base' v xs :=
  ⟨h.1, h.2.imp id fun ⟨g, cap, cur, h1, h2, h3⟩ => ⟨g, cap, cur, h1, Nat.le_trans hb h2, h3⟩⟩

/-- One text is appended to a slice of the call's own. -/
theorem append_S {w : World} {ops : Array Oper} {rest : List Oper} {o : Oper} {a : Act} {Q : Exit → Act → World → Prop} (hgd : o.guard = none) (s x : Operand)
    (ho : o.op = .call { callee := .builtin .append, args := #[s, x], argTypes := #[22, 22] })
    (base : Nat) (v : Value) (xs : List ByteArray) (hs : a.eval s = v) (hown : OwnS w base v xs) (b c : Nat) (y : ByteArray) (hx : a.eval x = .slice (some ⟨b, 0, none⟩) 1 c)
    (hc : w.cell? ⟨b, 0, none⟩ = some (.string y)) (hlen : xs.length + 1 ≤ 8796093022000) (hbase : base ≤ w.heap.size)
    (h : ∀ v' w', OwnS w' base v' (xs ++ [y]) → w.grownBy w' v.ownBlock → wpList Try.prog ops Q rest (a.put o.dst v') w') : wpList Try.prog ops Q (o :: rest) a w := by
  obtain ⟨i0, hi, hz0, hz1, hz2⟩ := info_parts Try.infoS
  refine wpList_append_own w hgd s x 22 ho base 9 i0 (.string ⟨#[]⟩) 1 16 Try.underlying22 hi hz0 hz1 hz2 rfl (by decide) v xs.length _ hs hown ⟨b, 0, none⟩ 1 c [.string y] hx rfl ?_ ?_ (by unfold maxLen; omega) (by omega) hbase ?_
  · intro j u hu
    rcases j with _ | j
    · obtain rfl := Option.some.inj hu
      exact hc
    · simp at hu
  · intro u hu
    obtain rfl := List.mem_singleton.1 hu
    rfl
  · intro v' w' h1 h2 _
    exact h v' w' (by unfold OwnS; simpa using h1) h2

set_option maxHeartbeats 400000 in
set_option maxRecDepth 100000 in
theorem few_any (a : Option Addr) (cap : Nat) (l : List ByteArray) (w : World) (m : Nat) (hm : m ≤ 1000) (hl : l.length ≤ 9223372036854775807) (hz : ∀ x ∈ l, x.size ≤ maxLen) (h : StrsAt w a l) :
    Calls Try.prog 10 #[.slice a l.length cap, .int .i64 m] w fun e w' => ∃ v, e = .returned v ∧ OwnS w' w.heap.size v (fewL (l.take m)) ∧ Below w.heap.size w w' := by
  go_enter Try.func10, Try.ntmps10
  go_wp2
  go_loopw [5, 6] (fun v i wr => ∃ k : Nat, k ≤ l.length ∧ k ≤ m ∧ i = .int .i64 k ∧ OwnS wr w.heap.size v (fewL (l.take k)) ∧ Below w.heap.size w wr) (fun _ i _ => l.length - (intOf i).toNat)
  case atStart => exact ⟨0, by omega, by omega, rfl, World.ownsRow_nil _ _ _ _, Below.refl _ _⟩
  case round =>
    obtain ⟨k, hk, hkm, rfl, hown, hb⟩ := hrel
    by_cases hlt : k < l.length ∧ k < m
    · obtain ⟨hl1, hl2⟩ := hlt
      obtain ⟨b, off, rfl, hc0⟩ := h k hl1
      have hc : wr.cell? ⟨b, off + k, none⟩ = some (.string l[k]) := (hb.cell (p := ⟨b, off + k, none⟩) (World.block_lt_of_cell? w _ hc0)).trans hc0
      have hzk := hz l[k] (List.getElem_mem hl1)
      unfold maxLen at hzk
      clear hc0 hz h
      have HS := Lib.hid (fewL_snoc l k hl1)
      have HL := Lib.hid (show (fewL (l.take k)).length ≤ 1000 by simp [fewL]; omega)
      generalize l[k] = s at *
      have HB := Lib.hid hb
      have HZ := hb.size
      clear hb
      obtain ⟨xs, hxs⟩ : ∃ xs, xs = fewL (l.take k) := ⟨_, rfl⟩
      rw [← hxs] at HS hown HL
      clear hxs
      go_wp2_with (at_builtin; refine append_S rfl _ _ rfl w.heap.size u5 xs rfl (hown.alloc _) wr.heap.size 1 _ rfl (by simp; rfl) (Nat.le_trans (Nat.add_le_add_right HL.out 1) (by decide)) (by simp; omega) ?_; intro v' w1 hown' hgrow)
      · go_roundw
        case rel => exact ⟨k + 1, by omega, by omega, by go_num, by rw [HS.out]; exact hown', (HB.out.alloc HZ _).grown hgrow (by simp; omega) hown.ge⟩
        case measure => simp [intOf]; omega
      · rename_i h9
        go_roundw
        case rel => exact ⟨k + 1, by omega, by omega, by go_num, by rw [HS.out, extract_all s 9 (by omega)]; exact hown', (HB.out.alloc HZ _).grown hgrow (by simp; omega) hown.ge⟩
        case measure => simp [intOf]; omega
    · have hkl : k = min m l.length := by omega
      have HK := Lib.hid (show l.take m = l.take k by rw [hkl, ← List.take_eq_take_min])
      clear hkl h hz
      by_cases hx : k < l.length
      all_goals
        go_wp2
        go_ret
        exact ⟨_, rfl, by rw [HK.out]; exact hown, hb⟩

theorem StrsAt.some {w : World} {a : Option Addr} {xs : List ByteArray} (h : StrsAt w a xs) (hx : xs ≠ []) : ∃ b off, a = some ⟨b, off, none⟩ ∧ b < w.heap.size ∧ ∀ i (hi : i < xs.length), w.cell? ⟨b, off + i, none⟩ = some (.string xs[i]) := by
  obtain ⟨b, off, ha, hc⟩ := h 0 (List.length_pos_iff.2 hx)
  refine ⟨b, off, ha, World.block_lt_of_cell? w _ hc, fun i hi => ?_⟩
  obtain ⟨b', off', ha', hc'⟩ := h i hi
  rw [ha] at ha'
  cases ha'
  exact hc'

theorem OwnS.cap {w : World} {base : Nat} {v : Value} {xs : List ByteArray} (h : OwnS w base v xs) (a : Option Addr) (n c : Nat) (e : v = .slice a n c) : xs.length ≤ c := by
  rcases h.2 with ⟨rfl, h0⟩ | ⟨g, cap, cur, rfl, _, _, h1, _⟩
  · cases e; omega
  · cases e; exact h1

theorem StrsAt.take {w : World} {a : Option Addr} {xs : List ByteArray} (h : StrsAt w a xs) (j : Nat) : StrsAt w a (xs.take j) := by
  intro i hi
  have hi2 : i < xs.length := by rw [List.length_take] at hi; omega
  obtain ⟨b, off, e1, e2⟩ := h i hi2
  exact ⟨b, off, e1, by rw [List.getElem_take]; exact e2⟩

/-- What is appended: the texts ys. -/
def SrcAt (w : World) (x : Value) (ys : List ByteArray) : Prop :=
  (∃ c, x = .slice none 0 c ∧ ys = []) ∨ ∃ ad c, x = .slice (some ad) ys.length c ∧ ∀ (j : Nat) (h : j < ys.length), w.cell? (ad.add j) = some (.string ys[j])

theorem add_plain (b off i : Nat) : (⟨b, off, none⟩ : Addr).add i = ⟨b, off + i, none⟩ := by
  unfold Addr.add
  split
  · rename_i h; rw [h]; rfl
  · rfl

theorem StrsAt.behind {w : World} {a : Option Addr} {xs : List ByteArray} (h : StrsAt w a xs) (k cap : Nat) (hk : k ≤ xs.length) (hc : xs.length ≤ cap) :
    SrcAt w (.slice (if cap = k then a else a.map (·.add k)) (xs.length - k) (cap - k)) (xs.drop k) := by
  rcases Nat.lt_or_ge k xs.length with hlt | hge
  · obtain ⟨b, off, rfl, -⟩ := h k hlt
    rw [if_neg (by omega)]
    refine .inr ⟨⟨b, off + k, none⟩, _, by rw [Option.map_some, add_plain, List.length_drop], fun j hj => ?_⟩
    rw [List.length_drop] at hj
    obtain ⟨b', off', e1, e2⟩ := h (k + j) (by omega)
    obtain ⟨rfl, rfl⟩ : b = b' ∧ off = off' := by simpa using e1
    rw [add_plain, List.getElem_drop, Nat.add_assoc]
    exact e2
  · obtain rfl : k = xs.length := by omega
    rw [Nat.sub_self, List.drop_length]
    generalize (if cap = xs.length then a else a.map (·.add xs.length)) = y
    cases y with
    | none => exact .inl ⟨_, rfl, rfl⟩
    | some ad => exact .inr ⟨ad, _, rfl, fun j hj => absurd hj (by simp)⟩

theorem StrsAt.upto {w : World} {a : Option Addr} {xs : List ByteArray} (h : StrsAt w a xs) (k cap : Nat) (hk : k ≤ xs.length) : SrcAt w (.slice a k cap) (xs.take k) := by
  have hl : (xs.take k).length = k := by rw [List.length_take]; omega
  cases a with
  | none =>
    rcases Nat.eq_zero_or_pos k with rfl | hp
    · exact .inl ⟨_, rfl, by simp⟩
    · obtain ⟨b, off, e, -⟩ := h 0 (by omega); cases e
  | some ad =>
    refine .inr ⟨ad, _, by rw [hl], fun j hj => ?_⟩
    rw [hl] at hj
    obtain ⟨b, off, e, e2⟩ := h j (by omega)
    cases e
    rw [add_plain, List.getElem_take]
    exact e2

theorem SrcAt.below {w w' : World} {x : Value} {ys : List ByteArray} (h : SrcAt w x ys) (hb : Below w.heap.size w w') : SrcAt w' x ys := by
  rcases h with h | ⟨ad, c, rfl, hc⟩
  · exact .inl h
  · exact .inr ⟨ad, c, rfl, fun j hj => (hb.cell (World.block_lt_of_cell? w _ (hc j hj))).trans (hc j hj)⟩

/-- A row that has a block of its own. -/
def RowS (w : World) (base : Nat) (v : Value) (xs : List ByteArray) : Prop := OwnS w base v xs ∧ ∃ g c, v = .slice (some ⟨g, 0, none⟩) xs.length c

theorem append_row {w : World} {ty : TypeId} {base : Nat} {v : Value} {xs : List ByteArray} (hr : RowS w base v xs) {x : Value} {ys : List ByteArray} (hx : SrcAt w x ys) (hlen : xs.length + ys.length ≤ 1000000) (hbase : base ≤ w.heap.size) :
    ∃ v' w', (Builtin.append_ #[22, 22] ty #[v, x]).run Try.prog w = .ok v' w' ∧ RowS w' base v' (xs ++ ys) ∧ w.grownBy w' v.ownBlock := by
  obtain ⟨hown, g, c, rfl⟩ := hr
  obtain ⟨i0, hi, hz0, hz1, hz2⟩ := info_parts Try.infoS
  rcases hx with ⟨c', rfl, rfl⟩ | ⟨ad, c', rfl, hc⟩
  · have h1 := run_append_room_src (P := Try.prog) w 22 22 ty 9 i0 Try.underlying22 hi g 0 xs.length c (.slice none 0 c') 0 [] (Src.ofNil w Try.underlying22 c')
      (by have := hown.cap _ _ _ rfl; omega) (fun j hj => absurd hj (by simp)) (fun j hj => absurd hj (by simp))
    refine ⟨_, _, h1, ?_, ?_⟩
    · rw [List.append_nil, Nat.add_zero]
      exact ⟨hown, g, c, rfl⟩
    · exact World.grownBy.refl _ _
  · obtain ⟨v', w', h1, h2, h3, h4⟩ := run_append_own (P := Try.prog) w base 22 ty 9 i0 (.string ⟨#[]⟩) 1 16 Try.underlying22 hi hz0 hz1 hz2 rfl (by decide) _ xs.length _ hown ad ys.length c' (ys.map .string) (by simp)
      (by
        intro j u hu
        rw [List.getElem?_map] at hu
        obtain ⟨y, hy, rfl⟩ := Option.map_eq_some_iff.1 hu
        obtain ⟨hj, rfl⟩ := List.getElem?_eq_some_iff.1 hy
        exact hc j hj)
      (by intro u hu; obtain ⟨y, -, rfl⟩ := List.mem_map.1 hu; rfl) (by unfold maxLen; omega) (by omega) hbase
    have h5 : OwnS w' base v' (xs ++ ys) := by unfold OwnS; rw [List.length_append, List.map_append]; exact h2
    refine ⟨v', w', h1, ⟨h5, ?_⟩, h3⟩
    rcases h5.2 with ⟨e, -⟩ | ⟨g', cap', cur, e, -⟩
    · have := h4.1 e
      cases this.1
    · exact ⟨g', cap', e⟩

theorem append_op {w : World} {o : Oper} {a : Act} {K : Act → World → Prop} {Q : Exit → Act → World → Prop} (s x : Operand)
    (ho : o.op = .call { callee := .builtin .append, args := #[s, x], argTypes := #[22, 22] })
    (base : Nat) (v : Value) (xs ys : List ByteArray) (hs : a.eval s = v) (hr : RowS w base v xs) (hx : SrcAt w (a.eval x) ys) (hlen : xs.length + ys.length ≤ 1000000) (hbase : base ≤ w.heap.size)
    (h : ∀ v' w', RowS w' base v' (xs ++ ys) → w.grownBy w' v.ownBlock → K (a.put o.dst v') w') : o.wp Try.prog a w K Q := by
  obtain ⟨v', w', h1, h2, h3⟩ := append_row (ty := o.type) hr hx hlen hbase
  unfold Oper.wp execOp
  simp only [ho, resolve, invoke, builtin, Sem.run_bind, Sem.run_pure, Result.andThen_ok, List.map_toArray, List.map_cons, List.map_nil, hs, h1]
  exact h _ _ h2 h3

/-- An empty row, laid. -/
theorem row_new (w : World) (base : Nat) (hb : base ≤ w.heap.size) : RowS (w.alloc (.cells #[] 9)) base (.slice (some ⟨w.heap.size, 0, none⟩) 0 0) [] :=
  ⟨World.ownsRow_made w #[] 0 hb (by decide) (by simp), w.heap.size, 0, rfl⟩

theorem firsts_S {w : World} {a : Option Addr} {xs : List ByteArray} (h : StrsAt w a xs) (c : Nat) : (Builtin.firstCells 1 xs.length (.slice a xs.length c)).run Try.prog w = .ok (xs.map Value.string).toArray w := by
  cases a with
  | none =>
    have hx : xs = [] := by
      cases xs with
      | nil => rfl
      | cons x xs => obtain ⟨b, off, e, -⟩ := h 0 (by simp); cases e
    subst hx
    exact run_firstCells_none w 1 0 0 c
  | some ad =>
    refine run_firstCells_some w 1 xs.length ad xs.length c (xs.map .string) (by simp) ?_
    intro j u hu
    rw [List.getElem?_map] at hu
    obtain ⟨y, hy, rfl⟩ := Option.map_eq_some_iff.1 hu
    obtain ⟨hj, rfl⟩ := List.getElem?_eq_some_iff.1 hy
    obtain ⟨b, off, e, hc⟩ := h j hj
    cases e
    rw [add_plain]
    exact hc

/-- One text onto a slice that has no room. -/
theorem append_full {w : World} {ty : TypeId} {a : Option Addr} {xs : List ByteArray} (h : StrsAt w a xs) (ad : Addr) (c : Nat) (y : ByteArray) (hy : w.cell? (ad.add 0) = some (.string y)) (hlen : xs.length ≤ 1000000) :
    ∃ v' w', (Builtin.append_ #[22, 22] ty #[.slice a xs.length xs.length, .slice (some ad) 1 c]).run Try.prog w = .ok v' w' ∧ RowS w' w.heap.size v' (xs ++ [y]) ∧ Below w.heap.size w w' := by
  obtain ⟨i0, hi, hz0, hz1, hz2⟩ := info_parts Try.infoS
  have hc : ∀ j u, [Value.string y][j]? = some u → w.cell? (ad.add j) = some u := by
    intro j u hu
    rcases j with _ | j
    · obtain rfl := Option.some.inj hu; exact hy
    · simp at hu
  have hsrc : Src Try.prog i0.size 22 (.slice (some ad) 1 c) 1 [.string y] w := by
    rw [hz1]
    exact Src.ofSlice w Try.underlying22 ad 1 c [.string y] rfl hc (by intro u hu; obtain rfl := List.mem_singleton.1 hu; rfl)
  have hbig : Builtin.nextslicecap (xs.length + 1) xs.length * i0.bytes ≤ 281474976710656 := growslice_fits (by omega) (by rw [hz2]; omega)
  have hr := run_append_grow_src (P := Try.prog) w 22 22 ty 9 i0 (.string ⟨#[]⟩) Try.underlying22 hi hz0 a xs.length xs.length (xs.map .string)
    (by rw [hz1]; exact firsts_S (w := w.drew) h _) (.slice (some ad) 1 c) 1 [.string y] hsrc (by omega) (by omega) hbig
  have hge := grownCap_ge w (xs.length + 1) xs.length 9
  have hcm : grownCap w (xs.length + 1) xs.length 9 ≤ maxLen := grownCap_le_maxLen w (xs.length + 1) xs.length 9 (by unfold maxLen; omega)
  have hl : xs.length + 1 = (xs ++ [y]).length := by simp
  rw [hl] at hr hge hcm
  generalize grownCap w (xs ++ [y]).length xs.length 9 = gc at hr hge hcm
  have hnew := heap_alloc_new w.drew (.cells ((xs.map Value.string ++ [Value.string y]).toArray ++ Builtin.zeroCells (Value.string ⟨#[]⟩).cells (gc - (xs ++ [y]).length)) 9)
  refine ⟨_, _, hr, ⟨⟨by simp, .inr ⟨w.heap.size, gc, _, rfl, Nat.le_refl _, hnew, hge, hcm, ?_, ?_⟩⟩, w.heap.size, gc, rfl⟩, ((Below.refl _ _).drew).alloc (Nat.le_refl _) _⟩
  · rw [Array.size_append, size_zeroCells]
    simp [Value.cells] at hge ⊢
    omega
  · have ht := List.take_left' (l₁ := xs.map Value.string ++ [Value.string y]) (l₂ := (Builtin.zeroCells (Value.string ⟨#[]⟩).cells (gc - (xs ++ [y]).length)).toList) (i := xs.length + 1) (by simp)
    simp at ht ⊢
    exact ht

theorem takeWhile_len {p : ByteArray → Bool} {ls : List ByteArray} {j : Nat} (hj : j ≤ ls.length) (h : ∀ i (hi : i < j), p (ls[i]'(by omega)) = true) (hs : ∀ hlt : j < ls.length, p ls[j] = false) : (ls.takeWhile p).length = j := by
  have h1 : ∀ x ∈ ls.take j, p x = true := by
    intro x hx
    obtain ⟨i, hi, rfl⟩ := List.getElem_of_mem hx
    rw [List.getElem_take]
    exact h i (by rw [List.length_take] at hi; omega)
  have h2 : (ls.drop j).takeWhile p = [] := by
    rcases Nat.lt_or_ge j ls.length with hlt | hge
    · rw [List.drop_eq_getElem_cons hlt, List.takeWhile_cons, hs hlt]; rfl
    · rw [List.drop_of_length_le hge]; rfl
  have h3 : (ls.take j ++ ls.drop j).takeWhile p = ls.take j := by rw [List.takeWhile_append_of_pos h1, h2, List.append_nil]
  rw [List.take_append_drop] at h3
  rw [h3, List.length_take]; omega

/-- An append onto a slice without room, in a region that draws. -/
theorem append_full_op {w : World} {o : Oper} {a : Act} {K : Act → World → Prop} {Q : Exit → Act → World → Prop} (s x : Operand)
    (ho : o.op = .call { callee := .builtin .append, args := #[s, x], argTypes := #[22, 22] })
    (a7 : Option Addr) (xs : List ByteArray) (hs : a.eval s = .slice a7 xs.length xs.length) (h : StrsAt w a7 xs) (ad : Addr) (c : Nat) (y : ByteArray) (hx : a.eval x = .slice (some ad) 1 c) (hy : w.cell? (ad.add 0) = some (.string y)) (hlen : xs.length ≤ 1000000)
    (hk : ∀ v' w', RowS w' w.heap.size v' (xs ++ [y]) → Below w.heap.size w w' → K (a.put o.dst v') w') : o.wp Try.prog a w K Q := by
  obtain ⟨v', w', h1, h2, h3⟩ := append_full (ty := o.type) h ad c y hy hlen
  unfold Oper.wp execOp
  simp only [ho, resolve, invoke, builtin, Sem.run_bind, Sem.run_pure, Result.andThen_ok, List.map_toArray, List.map_cons, List.map_nil, hs, hx, h1]
  exact hk _ _ h2 h3

/-- An append onto a row of the call's own, in a region in order. -/
theorem append_list {w : World} {ops : Array Oper} {rest : List Oper} {o : Oper} {a : Act} {Q : Exit → Act → World → Prop} (hgd : o.guard = none) (s x : Operand)
    (ho : o.op = .call { callee := .builtin .append, args := #[s, x], argTypes := #[22, 22] })
    (base : Nat) (v : Value) (xs ys : List ByteArray) (hs : a.eval s = v) (hr : RowS w base v xs) (hx : SrcAt w (a.eval x) ys) (hlen : xs.length + ys.length ≤ 1000000) (hbase : base ≤ w.heap.size)
    (h : ∀ v' w', RowS w' base v' (xs ++ ys) → w.grownBy w' v.ownBlock → wpList Try.prog ops Q rest (a.put o.dst v') w') : wpList Try.prog ops Q (o :: rest) a w :=
  wpList_plain hgd fun _ hK => append_op s x ho base v xs ys hs hr hx hlen hbase (fun v' w' h1 h2 => hK _ _ (h v' w' h1 h2))

theorem RowS.src {w : World} {base : Nat} {v : Value} {xs : List ByteArray} (h : RowS w base v xs) : SrcAt w v xs := by
  obtain ⟨hown, g, c, rfl⟩ := h
  refine .inr ⟨_, c, rfl, fun j hj => ?_⟩
  exact hown.cells (g := g) rfl j (.string xs[j]) (by simp [hj])

theorem srcAt_empty (w : World) (a : Option Addr) (c : Nat) : SrcAt w (.slice a 0 c) [] := by
  cases a with
  | none => exact .inl ⟨_, rfl, rfl⟩
  | some ad => exact .inr ⟨ad, _, rfl, fun j hj => absurd hj (by simp)⟩

/-- A world behind w: whatever lay in w lies as it lay. -/
structure Later (w : World) where
  val : World
  below : Below w.heap.size w val

instance (w : World) : Nonempty (Later w) := ⟨⟨w, Below.refl _ _⟩⟩

theorem wp_region_later {P : Program} {Q : Exit → Act → World → Prop} {id : Nat} {a : Act} {w : World} {l : List Oper} (hm : P.follows .mixedOrders = true) (hB : Region.lexB .any l.toArray = true)
    (h : wpQuiet P l.toArray (fun w' => ∃ u : Later w, w' = u.val) (fun a' => ∀ w', (∃ u : Later w, w' = u.val) → Q .normal a' w') l a) : (Code.region id l.toArray true).wp P Q a w :=
  wp_region_quiet (C := fun w' => ∃ u : Later w, w' = u.val) hm hB ⟨⟨w.drew, (Below.refl _ _).drew⟩, rfl⟩ (by simpa using h)

theorem Later.cell {w : World} {a : Addr} {v : Value} (h : w.cell? a = some v) (u : Later w) : u.val.cell? a = some v := (u.below.cell (World.block_lt_of_cell? w _ h)).trans h

/-- A callee's contract, met in a later world. -/
theorem Calls.later {P : Program} {f : FuncId} {args : Array Value} {w : World} {u : Later w} {v : Value} (h : Calls P f args u.val fun e w' => e = .returned v ∧ Below u.val.heap.size u.val w') :
    Calls P f args u.val fun e w' => e = .returned v ∧ ∃ u' : Later w, w' = u'.val :=
  h.mono fun _ w' h => ⟨h.1, ⟨w', u.below.trans (h.2.mono u.below.size)⟩, rfl⟩


end Go.Proofs.Ytimcjkkbooinbaa

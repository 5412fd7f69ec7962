/- Texts in rows: what a slice of texts reads as; Few and rows. -/
import Derived.Test.YtfeikolfdggnfaaDoorTa
namespace Go.Proofs.YtfeikolfdggnfaaDoor
open Go.RowKit

/-- A slice of texts that reads as xs. -/
def StrsAt (w : World) (a : Option Addr) (xs : List ByteArray) : Prop :=
  ∀ i (h : i < xs.length), ∃ b off, a = some ⟨b, off, none⟩ ∧ w.cell? ⟨b, off + i, none⟩ = some (.string xs[i])

theorem StrsAt.below {w w' : World} {a : Option Addr} {xs : List ByteArray} (h : StrsAt w a xs) (hb : Below w.heap.size w w') : StrsAt w' a xs := by
  intro i hi
  obtain ⟨b, off, ha, hc⟩ := h i hi
  exact ⟨b, off, ha, (hb.cell (p := ⟨b, off + i, none⟩) (World.block_lt_of_cell? w _ hc)).trans hc⟩

/-- A slice of texts that the call itself has made, from block 'base' on. -/
def OwnS (w : World) (base : Nat) (v : Value) (xs : List ByteArray) : Prop := w.ownsRow base 9 1 v xs.length (xs.map .string)

theorem OwnS.strs {w : World} {base : Nat} {v : Value} {xs : List ByteArray} (h : OwnS w base v xs) : ∃ a cap, v = .slice a xs.length cap ∧ StrsAt w a xs := by
  rcases h.2 with ⟨rfl, h0⟩ | ⟨g, cap, cur, rfl, hb, hg, _⟩
  · refine ⟨none, 0, by rw [h0], fun i hi => by omega⟩
  · refine ⟨some ⟨g, 0, none⟩, cap, rfl, fun i hi => ⟨g, 0, rfl, ?_⟩⟩
    have := h.cells (g := g) rfl i (.string xs[i]) (by simp [hi])
    rw [show (⟨g, 0, none⟩ : Addr).add i = ⟨g, 0 + i, none⟩ by unfold Addr.add; split <;> simp_all] at this
    exact this

theorem Tryd.infoS : (Tryd.prog.info? 9).map (fun i => (i.zero, i.size, i.bytes)) = some (some (.string ⟨#[]⟩), 1, 16) := by kernel_rfl

/-- The first ones, each cut to 9 bytes. -/
def fewL (l : List ByteArray) : List ByteArray := l.map (·.extract 0 9)

theorem fewL_snoc (l : List ByteArray) (k : Nat) (h : k < l.length) : fewL (l.take (k + 1)) = fewL (l.take k) ++ [l[k].extract 0 9] := by
  rw [List.take_succ_eq_append_getElem h]; unfold fewL; rw [List.map_append]; rfl

theorem OwnS.alloc {w : World} {base : Nat} {v : Value} {xs : List ByteArray} (h : OwnS w base v xs) (o : Obj) : OwnS (w.alloc o) base v xs := World.ownsRow.alloc h o

theorem OwnS.len {w : World} {base : Nat} {v : Value} {xs : List ByteArray} (h : OwnS w base v xs) {n : Nat} (e : xs.length = n) : w.ownsRow base 9 1 v n (xs.map .string) := e ▸ h

theorem OwnS.ge {w : World} {base : Nat} {v : Value} {xs : List ByteArray} (h : OwnS w base v xs) : ∀ k, v.ownBlock = some k → base ≤ k := fun k hk => (World.ownsRow.lt h k hk).1

theorem OwnS.mono {w : World} {base base' : Nat} {v : Value} {xs : List ByteArray} (h : OwnS w base v xs) (hb : base' ≤ base) : OwnS w base' v xs :=
  ⟨h.1, h.2.imp id fun ⟨g, cap, cur, h1, h2, h3⟩ => ⟨g, cap, cur, h1, Nat.le_trans hb h2, h3⟩⟩

/-- One text is appended to a slice of the call's own. -/
theorem append_S {w : World} {ops : Array Oper} {rest : List Oper} {o : Oper} {a : Act} {Q : Exit → Act → World → Prop} (hgd : o.guard = none) (s x : Operand)
    (ho : o.op = .call { callee := .builtin .append, args := #[s, x], argTypes := #[22, 22] })
    (base : Nat) (v : Value) (xs : List ByteArray) (hs : a.eval s = v) (hown : OwnS w base v xs) (b c : Nat) (y : ByteArray) (hx : a.eval x = .slice (some ⟨b, 0, none⟩) 1 c)
    (hc : w.cell? ⟨b, 0, none⟩ = some (.string y)) (hlen : xs.length + 1 ≤ 8796093022000) (hbase : base ≤ w.heap.size)
    (h : ∀ v' w', OwnS w' base v' (xs ++ [y]) → w.grownBy w' v.ownBlock → wpList Tryd.prog ops Q rest (a.put o.dst v') w') : wpList Tryd.prog ops Q (o :: rest) a w := by
  obtain ⟨i0, hi, hz0, hz1, hz2⟩ := info_parts Tryd.infoS
  refine wpList_append_own w hgd s x 22 ho base 9 i0 (.string ⟨#[]⟩) 1 16 Tryd.underlying22 hi hz0 hz1 hz2 rfl (by decide) v xs.length _ hs hown ⟨b, 0, none⟩ 1 c [.string y] hx rfl ?_ ?_ (by unfold maxLen; omega) (by omega) hbase ?_
  · intro j u hu
    rcases j with _ | j
    · obtain rfl := Option.some.inj hu
      exact hc
    · simp at hu
  · intro u hu
    obtain rfl := List.mem_singleton.1 hu
    rfl
  · intro v' w' h1 h2 _
    exact h v' w' (by unfold OwnS; simpa using h1) h2

set_option maxHeartbeats 400000 in
set_option maxRecDepth 100000 in
theorem few_any (a : Option Addr) (cap : Nat) (l : List ByteArray) (w : World) (m : Nat) (hm : m ≤ 1000) (hl : l.length ≤ 9223372036854775807) (hz : ∀ x ∈ l, x.size ≤ maxLen) (h : StrsAt w a l) :
    Calls Tryd.prog 25 #[.slice a l.length cap, .int .i64 m] w fun e w' => ∃ v, e = .returned v ∧ OwnS w' w.heap.size v (fewL (l.take m)) ∧ Below w.heap.size w w' := by
  go_enter Tryd.func25, Tryd.ntmps25
  go_wp2
  go_loopw [5, 6] (fun v i wr => ∃ k : Nat, k ≤ l.length ∧ k ≤ m ∧ i = .int .i64 k ∧ OwnS wr w.heap.size v (fewL (l.take k)) ∧ Below w.heap.size w wr) (fun _ i _ => l.length - (intOf i).toNat)
  case atStart => exact ⟨0, by omega, by omega, rfl, World.ownsRow_nil _ _ _ _, Below.refl _ _⟩
  case round =>
    obtain ⟨k, hk, hkm, rfl, hown, hb⟩ := hrel
    by_cases hlt : k < l.length ∧ k < m
    · obtain ⟨hl1, hl2⟩ := hlt
      obtain ⟨b, off, rfl, hc0⟩ := h k hl1
      have hc : wr.cell? ⟨b, off + k, none⟩ = some (.string l[k]) := (hb.cell (p := ⟨b, off + k, none⟩) (World.block_lt_of_cell? w _ hc0)).trans hc0
      have hzk := hz l[k] (List.getElem_mem hl1)
      unfold maxLen at hzk
      clear hc0 hz h
      have HS := Lib.hid (fewL_snoc l k hl1)
      have HL := Lib.hid (show (fewL (l.take k)).length ≤ 1000 by simp [fewL]; omega)
      generalize l[k] = s at *
      have HB := Lib.hid hb
      have HZ := hb.size
      clear hb
      obtain ⟨xs, hxs⟩ : ∃ xs, xs = fewL (l.take k) := ⟨_, rfl⟩
      rw [← hxs] at HS hown HL
      clear hxs
      go_wp2_with (at_builtin; refine append_S rfl _ _ rfl w.heap.size u5 xs rfl (hown.alloc _) wr.heap.size 1 _ rfl (by simp; rfl) (Nat.le_trans (Nat.add_le_add_right HL.out 1) (by decide)) (by simp; omega) ?_; intro v' w1 hown' hgrow)
      · go_roundw
        case rel => exact ⟨k + 1, by omega, by omega, by go_num, by rw [HS.out]; exact hown', (HB.out.alloc HZ _).grown hgrow (by simp; omega) hown.ge⟩
        case measure => simp [intOf]; omega
      · rename_i h9
        go_roundw
        case rel => exact ⟨k + 1, by omega, by omega, by go_num, by rw [HS.out, extract_all s 9 (by omega)]; exact hown', (HB.out.alloc HZ _).grown hgrow (by simp; omega) hown.ge⟩
        case measure => simp [intOf]; omega
    · have hkl : k = min m l.length := by omega
      have HK := Lib.hid (show l.take m = l.take k by rw [hkl, ← List.take_eq_take_min])
      clear hkl h hz
      by_cases hx : k < l.length
      all_goals
        go_wp2
        go_ret
        exact ⟨_, rfl, by rw [HK.out]; exact hown, hb⟩

def nines : ByteArray := ⟨#[48, 48, 48, 48, 48, 48, 48, 48, 48]⟩

/-- A text filled up, or cut, to so many bytes. -/
def fillW (width : Int) (s : ByteArray) : ByteArray := (s ++ nines).extract 0 (if 9 < width then 9 else width).toNat

structure RowsOf (l : List ByteArray) (width bits : Int) (k : Nat) (xs : List ByteArray) : Prop where
  len : xs.length = k
  short : ∀ x ∈ xs, x.size ≤ 18
  fill : bits = 0 → 0 ≤ width → xs = (l.take k).map (fillW width)

theorem RowsOf.snoc {l : List ByteArray} {width bits : Int} {k : Nat} {xs : List ByteArray} (h : RowsOf l width bits k xs) (hk : k < l.length) (y : ByteArray) (hy : y.size ≤ 18) (hf : bits = 0 → 0 ≤ width → y = fillW width l[k]) :
    RowsOf l width bits (k + 1) (xs ++ [y]) :=
  ⟨by simp [h.len], fun x hx => by rcases List.mem_append.1 hx with hx | hx; exact h.short x hx; rw [List.mem_singleton.1 hx]; exact hy,
   fun hb hw => by rw [List.take_succ_eq_append_getElem hk, List.map_append, ← h.fill hb hw, hf hb hw]; rfl⟩

set_option maxHeartbeats 400000 in
set_option maxRecDepth 100000 in
theorem rows_any (a : Option Addr) (cap : Nat) (l : List ByteArray) (w : World) (width bits : Int) (hl : l.length ≤ 9223372036854775807) (hz : ∀ x ∈ l, x.size ≤ maxLen) (h : StrsAt w a l) :
    Calls Tryd.prog 11 #[.slice a l.length cap, .int .i64 width, .int .i64 bits] w fun e w' => ∃ v xs, e = .returned v ∧ OwnS w' w.heap.size v xs ∧ Below w.heap.size w w' ∧ RowsOf (fewL (l.take 12)) width bits (fewL (l.take 12)).length xs := by
  have hf := few_any a cap l w 12 (by omega) hl hz h
  have Hf := Lib.hid hf
  clear hf h hz hl
  go_enter Tryd.func11, Tryd.ntmps11
  go_wp2_with fail
  refine Hf.out.mono ?_
  rintro e w1 ⟨v0, rfl, hown0, hb1⟩
  clear Hf
  obtain ⟨few, hfew⟩ : ∃ few, fewL (l.take 12) = few := ⟨_, rfl⟩
  have hlen : few.length ≤ 12 := by rw [← hfew]; simp [fewL]; omega
  have hsz : ∀ x ∈ few, x.size ≤ 9 := by
    intro x hx; rw [← hfew] at hx; simp only [fewL, List.mem_map] at hx; obtain ⟨y, _, rfl⟩ := hx; simp; omega
  rw [hfew] at hown0
  have HF := Lib.hid hfew
  clear hfew
  obtain ⟨a0, cap0, rfl, hs0⟩ := hown0.strs
  clear hown0
  go_wp2
  go_loopw [7, 9] (fun v i wr => ∃ (k : Nat) (xs : List ByteArray), k ≤ few.length ∧ i = .int .i64 k ∧ OwnS wr w1.heap.size v xs ∧ RowsOf few width bits k xs ∧ Below w1.heap.size w1 wr) (fun _ i _ => few.length - (intOf i).toNat)
  case atStart => exact ⟨0, [], by omega, rfl, World.ownsRow_nil _ _ _ _, ⟨rfl, by simp, by simp⟩, Below.refl _ _⟩
  case round =>
    obtain ⟨k, xs, hk, rfl, hown, hR, hb⟩ := hrel
    by_cases hlt : k < few.length
    · obtain ⟨b, off, rfl, hc0⟩ := hs0 k hlt
      have hc : wr.cell? ⟨b, off + k, none⟩ = some (.string few[k]) := (hb.cell (p := ⟨b, off + k, none⟩) (World.block_lt_of_cell? _ _ hc0)).trans hc0
      have hzk := hsz few[k] (List.getElem_mem hlt)
      have hxl : xs.length ≤ 1000 := by rw [hR.len]; omega
      have HX := Lib.hid hxl
      have HB := Lib.hid hb
      have HR := Lib.hid hR
      have HZ := hb.size
      have HS := Lib.hid (fun y hy hf => hR.snoc hlt y hy hf)
      clear hc0 hb hR hxl hs0 hsz
      generalize few[k] = s at *
      go_wp2_with (at_builtin; refine append_S rfl _ _ rfl w1.heap.size u7 xs rfl (hown.alloc _) wr.heap.size 1 _ rfl (by simp; rfl) (Nat.le_trans (Nat.add_le_add_right HX.out 1) (by decide)) (by simp; omega) ?_; intro v' w2 hown' hgrow)
      · rename_i h1 h2
        go_roundw
        case rel => exact ⟨k + 1, _, by omega, by go_num, hown', HS.out _ (by simp; split <;> omega) (fun _ _ => rfl), (HB.out.alloc HZ _).grown hgrow (by simp; omega) hown.ge⟩
        case measure => simp [intOf]; omega
      · rename_i h1 h2
        go_roundw
        case rel => exact ⟨k + 1, _, by omega, by go_num, hown', HS.out _ (by omega) (fun _ h => by omega), (HB.out.alloc HZ _).grown hgrow (by simp; omega) hown.ge⟩
        case measure => simp [intOf]; omega
      · rename_i h1
        go_roundw
        case rel => exact ⟨k + 1, _, by omega, by go_num, hown', HS.out _ (by omega) (fun h _ => absurd (by rw [h, Int.zero_ediv]; rfl) h1), (HB.out.alloc HZ _).grown hgrow (by simp; omega) hown.ge⟩
        case measure => simp [intOf]; omega
    · have hkl : k = few.length := by omega
      subst hkl
      have hb2 := hb1.trans (hb.mono hb1.size)
      have HO := Lib.hid (hown.mono hb1.size)
      clear hlt hb hs0 hsz hown
      go_wp2
      go_ret
      exact ⟨_, xs, rfl, HO.out, hb2, by rw [HF.out]; exact hR⟩

end Go.Proofs.YtfeikolfdggnfaaDoor

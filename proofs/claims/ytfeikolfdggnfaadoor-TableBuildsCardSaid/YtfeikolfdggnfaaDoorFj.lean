/- Place, and Whats, of a fault. -/
import Derived.Test.YtfeikolfdggnfaaDoorFi
import Derived.Test.YtfeikolfdggnfaaDoorTn0
import Derived.Test.YtfeikolfdggnfaaDoorTu
namespace Go.Proofs.YtfeikolfdggnfaaDoor
open Go.RowKit Go.Extern.Stop Go.Stop Go.Extern

theorem FaultObj.cells {w : World} {g : Nat} {kind a : Int} {what : ByteArray} (h : w.heap[g]? = some (faultObj kind a what)) : w.cell? ⟨g, 0, none⟩ = some (.int .i64 a) ∧ w.cell? ⟨g, 1, none⟩ = some (.string what) := by
  constructor <;> simp [World.cell?, h, faultObj]

set_option maxHeartbeats 1000000 in
set_option maxRecDepth 100000 in
theorem place_any (g : Nat) (kind a : Int) (what : ByteArray) (w : World) (hfa : w.heap[g]? = some (faultObj kind a what)) :
    Calls Tryd.prog 56 #[faultV g] w fun e w' => e = .returned (.int .i64 a) ∧ Below w.heap.size w w' := by
  refine (callsIn_wide (n := 6)).1 ?_
  refine callsIn_of_wp_marks Tryd.func56 rfl trivial ?_ rfl
  simp only [Tryd.ntmps56, List.size_toArray, List.length_cons, List.length_nil, Nat.reduceAdd, Nat.reduceSub, Array.replicate_succ, Array.replicate_zero, List.push_toArray, List.append_toArray, List.nil_append, List.cons_append]
  have hFf : ∀ f, Fence.wide.fn f := fun _ => trivial
  have hFd : Fence.wide.depth = none := rfl
  have hg : g < w.heap.size := (Array.getElem?_eq_some_iff.1 hfa).1
  have HF := Lib.hid hfa
  clear hfa
  unfold faultV
  gi_wp2_with fail
  obtain ⟨W1, hW1⟩ : ∃ W1, w.alloc (.cells #[.int .i64 0] 3) = W1 := ⟨_, rfl⟩
  have hbx : BoxesAt w W1 [(.int .i64 0, 3)] := by rw [← hW1]; exact boxes1 _ _ _
  rw [hW1]
  have c1 := hbx.cell 0 _ rfl
  have f1 := hbx.free 0 _ rfl
  have hb1 := hbx.below
  have hz1 : W1.heap.size = w.heap.size + 1 := hbx.size
  simp only [Nat.add_zero] at c1 f1
  clear hW1 hbx
  refine (callsIn_wide.2 (faults_any _ _ W1)).mono ?_
  rintro e W2 ⟨rfl, hw2⟩
  have hbx : BoxesAt W1 W2 [(faultV g, 33)] := by rw [← hw2]; exact boxes1 _ _ _
  have c2 := hbx.cell 0 _ rfl
  have hz2 : W2.heap.size = W1.heap.size + 1 := hbx.size
  simp only [Nat.add_zero] at c2
  rw [hz1] at c2 hz2
  have c12 := (hbx.below.cell (World.block_lt_of_cell? W1 _ c1)).trans c1
  have f12 := (hbx.below.frozen (p := ⟨w.heap.size, 0, none⟩) (by show w.heap.size < W1.heap.size; omega)).trans f1
  have hb2 := hb1.trans (hbx.below.mono (by omega))
  have HF2 := Lib.hid ((hb2.block g hg).trans HF.out)
  have hseq := faults1_seq 5 W2.heap.size g kind a what ⟨w.heap.size + 1, 0, none⟩ W2 c2 HF2.out (by omega) (Nat.le_refl _)
  have HB2 := Lib.hid hb2
  clear hw2 hbx c1 f1 hb1 hb2 c2
  gi_wp2_with fail
  refine wpIn_rangeFunc_ownG (α := Unit) (fun T _ => (T.setIfInBounds 6 (.pointer (some ⟨g, 0, none⟩))).setIfInBounds 3 (.pointer (some ⟨g, 0, none⟩))) rfl (by omega) (gf := 80) rfl trivial (enters_of Tryd.func80 (by kernel_rfl) rfl) hseq belowK_t (belowK_b (Nat.le_refl _)) (Below.refl _ _) (fun _ => rfl)
    (fun pre W => pre = [] ∧ Below W2.heap.size W2 W)
    (fun c pre W => c = .ret ∧ W.cell? ⟨w.heap.size, 0, none⟩ = some (.int .i64 a) ∧ Below w.heap.size w W)
    ?own ?ownx ⟨rfl, Below.refl _ _⟩ ?assign ?body ?done ?stop
  case own => exact fun s W W' row hs hg hr => ⟨hs.1, hs.2.grown hg hs.2.size (fun k e => (hr k e).1)⟩
  case ownx =>
    rintro c s W W' row ⟨h1, h2, h3⟩ hg hr
    exact ⟨h1, cell_kept h2 hg (fun r e => (hr r e).2), h3.grown hg h3.size (fun k e => by have := (hr k e).1; omega)⟩
  case assign =>
    intro l x W K hK
    have HK := Lib.hid hK
    clear hK
    gi_wp2_with (rw [Oper.semAt_eq _ _ _ (fun c h => by cases h)]; go_simp; try go_bits)
    exact HK.out
  case body =>
    rintro l pre x W ⟨rfl, hb⟩ _
    have e1 : W.cell? ⟨g, 0, none⟩ = some (.int .i64 a) := (FaultObj.cells ((hb.block g (by omega)).trans HF2.out)).1
    have e2 : W.cell? ⟨w.heap.size, 0, none⟩ = some (.int .i64 0) := (hb.cell (p := ⟨w.heap.size, 0, none⟩) (by show w.heap.size < _; omega)).trans c12
    have e3 : W.frozen? ⟨w.heap.size, 0, none⟩ = false := (hb.frozen (p := ⟨w.heap.size, 0, none⟩) (by show w.heap.size < _; omega)).trans f12
    have HB := Lib.hid (HB2.out.trans (hb.mono (by omega)))
    clear hb c12 f12 hseq
    gi_wp2_with (rw [Oper.semAt_eq _ _ _ (fun c h => by cases h)]; go_simp; try go_bits)
    exact ⟨KeepsOthers.setCell _ _ _, rfl, World.cell?_setCell_same' _ _ _ (by rw [e2]; rfl), HB.out.setCell (p := ⟨w.heap.size, 0, none⟩) (Nat.le_refl _) _⟩
  case done =>
    rintro D xs W hD hxs ⟨rfl, hb⟩ hK
    cases hxs
  case stop =>
    rintro D c pre W hD hpre ⟨rfl, hc, hb⟩ hK
    have HK := Lib.hid hK
    have HC := Lib.hid hc
    have HB := Lib.hid hb
    clear hK hc hb c12 f12 hseq
    gi_wp2
    refine leave_mark (v := .int .i64 a) HK.out ?_ ⟨rfl, below_putObj HB.out HB.out.size (by omega) _⟩
    have hv := cell_putObj HK.out HC.out
    simp [results, Tryd.f56, go_sem, hv]

theorem append_nil_run (ty : TypeId) (w : World) (y : ByteArray) (b c : Nat) (hc : w.cell? ⟨b, 0, none⟩ = some (.string y)) :
    ∃ g cap w', (Builtin.append_ #[22, 22] ty #[.slice none 0 0, .slice (some ⟨b, 0, none⟩) 1 c]).run Tryd.prog w = .ok (.slice (some ⟨g, 0, none⟩) 1 cap) w' ∧ w'.cell? ⟨g, 0, none⟩ = some (.string y) ∧ w.grownBy w' none := by
  obtain ⟨i0, hi, hz0, hz1, hz2⟩ := info_parts Tryd.infoS
  obtain ⟨v', w', h1, h2, h3, h4⟩ := run_append_own (P := Tryd.prog) w w.heap.size 22 ty 9 i0 (.string ⟨#[]⟩) 1 16 Tryd.underlying22 hi hz0 hz1 hz2 rfl (by decide) (.slice none 0 0) 0 [] (World.ownsRow_nil _ _ _ _) ⟨b, 0, none⟩ 1 c [.string y] rfl
    (by
      intro j u hu
      rcases j with _ | j
      · obtain rfl := Option.some.inj hu; exact hc
      · simp at hu)
    (by intro u hu; obtain rfl := List.mem_singleton.1 hu; rfl) (by unfold maxLen; omega) (by omega) (Nat.le_refl _)
  have h5 : OwnS w' w.heap.size v' [y] := by unfold OwnS; simpa using h2
  rcases h5.2 with ⟨e, -⟩ | ⟨g, cap, cur, e, -⟩
  · exact absurd (h4.1 e).2 (by decide)
  · subst e
    exact ⟨g, cap, w', h1, by have := h5.cells (g := g) rfl 0 (.string y) rfl; rw [add_plain] at this; exact this, h3⟩

/-- One text onto the nil slice, in a region that draws, within a fence. -/
theorem append_nil_opIn {F : Fence} {n : Nat} {w : World} {o : Oper} {a : Act} {K : Act → World → Prop} {Q : Exit → Act → World → Prop} (s x : Operand)
    (ho : o.op = .call { callee := .builtin .append, args := #[s, x], argTypes := #[22, 22] })
    (hs : a.eval s = .slice none 0 0) (b c : Nat) (y : ByteArray) (hx : a.eval x = .slice (some ⟨b, 0, none⟩) 1 c) (hc : w.cell? ⟨b, 0, none⟩ = some (.string y))
    (h : ∀ g cap w', w'.cell? ⟨g, 0, none⟩ = some (.string y) → w.grownBy w' none → K (a.put o.dst (.slice (some ⟨g, 0, none⟩) 1 cap)) w') : o.wpIn F n Tryd.prog a w K Q := by
  obtain ⟨g, cap, w', hrun, h1, h2⟩ := append_nil_run o.type w y b c hc
  unfold Oper.wpIn
  refine ⟨by simp [Oper.about, ho, resolve, Target.leads, Sem.run_pure], ?_⟩
  rw [Oper.semAt_eq _ _ _ (by rw [ho]; intro c hc'; cases hc')]
  simp only [execOp, ho, resolve, invoke, builtin, Sem.run_bind, Sem.run_pure, Result.andThen_ok, List.map_toArray, List.map_cons, List.map_nil, hs, hx, hrun]
  exact h g cap w' h1 h2

theorem whats_end {w W W2 W3 : World} {what : ByteArray} {g3 cap3 : Nat} {x : Unit} (hb : Below w.heap.size w W) (e2 : W.cell? ⟨w.heap.size, 0, none⟩ = some (.slice none 0 0)) (hc3 : W3.cell? ⟨g3, 0, none⟩ = some (.string what)) (hg3 : (W.alloc (.cells #[.string what] 9)).drew.grownBy W3 none) :
    ∀ W4, W3.setCell ⟨w.heap.size, 0, none⟩ (.slice (some ⟨g3, 0, none⟩) 1 cap3) = W4 →
    KeepsOthers W W4 ∧ Below w.heap.size W W4 ∧ (([] ++ [x] = [] ∧ Below W2.heap.size W2 W4) ∨ ([] ++ [x] = [()] ∧ ∃ b c, W4.cell? ⟨w.heap.size, 0, none⟩ = some (.slice (some ⟨b, 0, none⟩) 1 c) ∧ W4.cell? ⟨b, 0, none⟩ = some (.string what) ∧ Below w.heap.size w W4)) := by
  intro W4 hW4
  have hlt : w.heap.size < W.heap.size := World.block_lt_of_cell? W _ e2
  have hb2 : Below W.heap.size W (W.alloc (.cells #[.string what] 9)).drew := ((Below.refl _ _).alloc (Nat.le_refl _) _).drew
  have hb3 := hb2.grown hg3 hb2.size (fun k e => by cases e)
  have e4 := (hb3.cell (p := ⟨w.heap.size, 0, none⟩) hlt).trans e2
  have hko : KeepsOthers W (W3.setCell ⟨w.heap.size, 0, none⟩ (.slice (some ⟨g3, 0, none⟩) 1 cap3)) := (((KeepsOthers.alloc W _).trans (keepsOthers_drewN _ 1)).trans (KeepsOthers.of_grownBy hg3 (fun _ _ e => by cases e))).trans (KeepsOthers.setCell _ _ _)
  have hc4 : W4.cell? ⟨w.heap.size, 0, none⟩ = some (.slice (some ⟨g3, 0, none⟩) 1 cap3) := by rw [← hW4]; exact World.cell?_setCell_same' _ _ _ (by rw [e4]; rfl)
  have hd4 : W4.cell? ⟨g3, 0, none⟩ = some (.string what) := by
    rw [← hW4, World.cell?_setCell_other]
    · exact hc3
    · intro e; rw [← e, e4] at hc3; cases hc3
  have hb4 : Below w.heap.size W W4 := by rw [← hW4]; exact (hb3.mono hb.size).setCell (p := ⟨w.heap.size, 0, none⟩) (Nat.le_refl _) _
  rw [hW4] at hko
  exact ⟨hko, hb4, .inr ⟨rfl, g3, cap3, hc4, hd4, hb.trans hb4⟩⟩

set_option maxHeartbeats 1000000 in
set_option maxRecDepth 100000 in
theorem whats_any (g : Nat) (kind a : Int) (what : ByteArray) (w : World) (hfa : w.heap[g]? = some (faultObj kind a what)) :
    Calls Tryd.prog 55 #[faultV g] w fun e w' => (∃ b c, e = .returned (.slice (some ⟨b, 0, none⟩) 1 c) ∧ w'.cell? ⟨b, 0, none⟩ = some (.string what)) ∧ Below w.heap.size w w' := by
  refine (callsIn_wide (n := 6)).1 ?_
  refine callsIn_of_wp_marks Tryd.func55 rfl trivial ?_ rfl
  simp only [Tryd.ntmps55, List.size_toArray, List.length_cons, List.length_nil, Nat.reduceAdd, Nat.reduceSub, Array.replicate_succ, Array.replicate_zero, List.push_toArray, List.append_toArray, List.nil_append, List.cons_append]
  have hFf : ∀ f, Fence.wide.fn f := fun _ => trivial
  have hFd : Fence.wide.depth = none := rfl
  have hg : g < w.heap.size := (Array.getElem?_eq_some_iff.1 hfa).1
  have HF := Lib.hid hfa
  clear hfa
  unfold faultV
  gi_wp2_with fail
  obtain ⟨W1, hW1⟩ : ∃ W1, w.alloc (.cells #[.slice none 0 0] 22) = W1 := ⟨_, rfl⟩
  have hbx : BoxesAt w W1 [(.slice none 0 0, 22)] := by rw [← hW1]; exact boxes1 _ _ _
  rw [hW1]
  have c1 := hbx.cell 0 _ rfl
  have f1 := hbx.free 0 _ rfl
  have hb1 := hbx.below
  have hz1 : W1.heap.size = w.heap.size + 1 := hbx.size
  simp only [Nat.add_zero] at c1 f1
  clear hW1 hbx
  refine (callsIn_wide.2 (faults_any _ _ W1)).mono ?_
  rintro e W2 ⟨rfl, hw2⟩
  have hbx : BoxesAt W1 W2 [(faultV g, 33)] := by rw [← hw2]; exact boxes1 _ _ _
  have c2 := hbx.cell 0 _ rfl
  have hz2 : W2.heap.size = W1.heap.size + 1 := hbx.size
  simp only [Nat.add_zero] at c2
  rw [hz1] at c2 hz2
  have c12 := (hbx.below.cell (World.block_lt_of_cell? W1 _ c1)).trans c1
  have f12 := (hbx.below.frozen (p := ⟨w.heap.size, 0, none⟩) (by show w.heap.size < W1.heap.size; omega)).trans f1
  have hb2 := hb1.trans (hbx.below.mono (by omega))
  have HF2 := Lib.hid ((hb2.block g hg).trans HF.out)
  have hseq := faults1_seq 5 w.heap.size g kind a what ⟨w.heap.size + 1, 0, none⟩ W2 c2 HF2.out hg (by omega)
  have HB2 := Lib.hid hb2
  clear hw2 hbx c1 f1 hb1 hb2 c2
  gi_wp2_with fail
  refine wpIn_rangeFunc_ownG (α := Unit) (fun T _ => (T.setIfInBounds 7 (.pointer (some ⟨g, 0, none⟩))).setIfInBounds 4 (.pointer (some ⟨g, 0, none⟩))) rfl (by omega) (gf := 80) rfl trivial (enters_of Tryd.func80 (by kernel_rfl) rfl) hseq belowK_t (belowK_b (by omega)) (Below.refl _ _) (fun _ => rfl)
    (fun pre W => (pre = [] ∧ Below W2.heap.size W2 W) ∨ (pre = [()] ∧ ∃ b c, W.cell? ⟨w.heap.size, 0, none⟩ = some (.slice (some ⟨b, 0, none⟩) 1 c) ∧ W.cell? ⟨b, 0, none⟩ = some (.string what) ∧ Below w.heap.size w W))
    (fun _ _ _ => False)
    ?own ?ownx (.inl ⟨rfl, Below.refl _ _⟩) ?assign ?body ?done ?stop
  case own =>
    rintro s W W' row (⟨h1, h2⟩ | ⟨h1, b, c, h2, h3, h4⟩) hg hr
    · exact .inl ⟨h1, h2.grown hg h2.size (fun k e => (hr k e).1)⟩
    · exact .inr ⟨h1, b, c, cell_kept h2 hg (fun r e => (hr r e).2), cell_kept h3 hg (fun r e => (hr r e).2), h4.grown hg h4.size (fun k e => by have := (hr k e).1; omega)⟩
  case ownx => exact fun c s W W' row h hg hr => h
  case assign =>
    intro l x W K hK
    have HK := Lib.hid hK
    clear hK
    gi_wp2_with (rw [Oper.semAt_eq _ _ _ (fun c h => by cases h)]; go_simp; try go_bits)
    exact HK.out
  case body =>
    rintro l pre x W (⟨rfl, hb⟩ | ⟨rfl, _⟩) hlen
    · have e1 : W.cell? ⟨g, 1, none⟩ = some (.string what) := (FaultObj.cells ((hb.block g (by omega)).trans HF2.out)).2
      have e2 : W.cell? ⟨w.heap.size, 0, none⟩ = some (.slice none 0 0) := (hb.cell (p := ⟨w.heap.size, 0, none⟩) (by show w.heap.size < _; omega)).trans c12
      have e3 : W.frozen? ⟨w.heap.size, 0, none⟩ = false := (hb.frozen (p := ⟨w.heap.size, 0, none⟩) (by show w.heap.size < _; omega)).trans f12
      have HB := Lib.hid (HB2.out.trans (hb.mono (by omega)))
      have hsz := HB.out.size
      have hlt : w.heap.size < W.heap.size := World.block_lt_of_cell? W _ e2
      have HEND := Lib.hid (fun g3 cap3 W3 (hc3 : W3.cell? ⟨g3, 0, none⟩ = some (.string what)) (hg3 : (W.alloc (.cells #[.string what] 9)).drew.grownBy W3 none) => whats_end (W2 := W2) (cap3 := cap3) (x := x) HB.out e2 hc3 hg3 _ rfl)
      clear hb c12 f12 hseq
      gi_wp2_with (rw [Oper.semAt_eq _ _ _ (fun c h => by cases h)]; go_simp; try go_bits)
      refine wpIn_region_any (by kernel_rfl) (wpAnyIn_round _ rfl (noDefer_spec (by kernel_rfl)) _ _ _ _ ?_)
      refine wpAnyIn_take (i := 1) (v := ?_) rfl rfl (by kernel_rfl) (by kernel_rfl) (by kernel_rfl) (fun _ _ _ h => h) ⟨Or.inl ⟨by rfl, by intro w; go_simp; rfl⟩, fun _ => rfl⟩ ?_
      refine wpAnyIn_take (i := 2) (v := ?_) rfl rfl (by kernel_rfl) (by kernel_rfl) (by kernel_rfl) (fun _ _ _ h => h) ⟨Or.inl ⟨by rfl, by intro w; go_simp; rfl⟩, fun _ => rfl⟩ ?_
      refine wpAnyIn_take (i := 3) (v := ?_) rfl rfl (by kernel_rfl) (by kernel_rfl) (by kernel_rfl) (fun _ _ _ h => h) ⟨Or.inl ⟨by rfl, by intro w; go_simp; rfl⟩, fun _ => rfl⟩ ?_
      change wpAnyIn _ _ _ _ _ _ _ _ _ (World.drew _)
      refine wpAnyIn_ready (rs := [0, 4]) (by kernel_rfl) (by simp) ?_
      refine AllReadyIn.cons rfl (fun K hK => ?_) (AllReadyIn.cons rfl (fun K hK => ?_) AllReadyIn.nil)
      · go_simp
        refine hK _ _ ?_
        clear hK K
        refine wpAnyIn_ready (rs := [4]) (by kernel_rfl) (by simp) ?_
        refine AllReadyIn.cons rfl (fun K hK => ?_) AllReadyIn.nil
        go_simp
        refine hK _ _ ?_
        clear hK K
        refine wpAnyIn_ready (rs := [5]) (by kernel_rfl) (by simp) ?_
        refine AllReadyIn.cons rfl (fun K hK => ?_) AllReadyIn.nil
        go_simp
        refine hK _ _ ?_
        clear hK K
        refine wpAnyIn_ready (rs := [6]) (by kernel_rfl) (by simp) ?_
        refine AllReadyIn.cons rfl (fun K hK => ?_) AllReadyIn.nil
        rw [if_pos (by rfl)]
        refine append_nil_opIn _ _ rfl (by rfl) W.heap.size 1 what (by rfl) (by exact World.cell?_alloc_new W _ _ 0) ?_
        intro g3 cap3 W3 hc3 hg3
        refine hK _ _ ?_
        clear hK K
        have hb3 : Below W.heap.size W W3 := (((Below.refl _ _).alloc (Nat.le_refl _) _).drew).grown hg3 (by simp) (fun k e => by cases e)
        have e4 := (hb3.cell (p := ⟨w.heap.size, 0, none⟩) hlt).trans e2
        have e5 := (hb3.frozen (p := ⟨w.heap.size, 0, none⟩) hlt).trans e3
        clear hb3
        refine wpAnyIn_ready (rs := [7]) (by kernel_rfl) (by simp) ?_
        refine AllReadyIn.cons rfl (fun K hK => ?_) AllReadyIn.nil
        go_simp
        refine hK _ _ ?_
        clear hK K
        refine wpAnyIn_done (by kernel_rfl) ?_ _
        have HE := Lib.hid (HEND.out g3 cap3 W3 hc3 hg3)
        clear HEND e4 e5 hc3 hg3
        gi_wp2
        exact HE.out
      · go_simp
        refine hK _ _ ?_
        clear hK K
        refine wpAnyIn_ready (rs := [0, 5]) (by kernel_rfl) (by simp) ?_
        refine AllReadyIn.cons rfl (fun K hK => ?_) (AllReadyIn.cons rfl (fun K hK => ?_) AllReadyIn.nil)
        · go_simp
          refine hK _ _ ?_
          clear hK K
          refine wpAnyIn_ready (rs := [5]) (by kernel_rfl) (by simp) ?_
          refine AllReadyIn.cons rfl (fun K hK => ?_) AllReadyIn.nil
          go_simp
          refine hK _ _ ?_
          clear hK K
          refine wpAnyIn_ready (rs := [6]) (by kernel_rfl) (by simp) ?_
          refine AllReadyIn.cons rfl (fun K hK => ?_) AllReadyIn.nil
          rw [if_pos (by rfl)]
          refine append_nil_opIn _ _ rfl (by rfl) W.heap.size 1 what (by rfl) (by exact World.cell?_alloc_new W _ _ 0) ?_
          intro g3 cap3 W3 hc3 hg3
          refine hK _ _ ?_
          clear hK K
          have hb3 : Below W.heap.size W W3 := (((Below.refl _ _).alloc (Nat.le_refl _) _).drew).grown hg3 (by simp) (fun k e => by cases e)
          have e4 := (hb3.cell (p := ⟨w.heap.size, 0, none⟩) hlt).trans e2
          have e5 := (hb3.frozen (p := ⟨w.heap.size, 0, none⟩) hlt).trans e3
          clear hb3
          refine wpAnyIn_ready (rs := [7]) (by kernel_rfl) (by simp) ?_
          refine AllReadyIn.cons rfl (fun K hK => ?_) AllReadyIn.nil
          go_simp
          refine hK _ _ ?_
          clear hK K
          refine wpAnyIn_done (by kernel_rfl) ?_ _
          have HE := Lib.hid (HEND.out g3 cap3 W3 hc3 hg3)
          clear HEND e4 e5 hc3 hg3
          gi_wp2
          exact HE.out
        · go_simp
          refine hK _ _ ?_
          clear hK K
          refine wpAnyIn_ready (rs := [0]) (by kernel_rfl) (by simp) ?_
          refine AllReadyIn.cons rfl (fun K hK => ?_) AllReadyIn.nil
          go_simp
          refine hK _ _ ?_
          clear hK K
          refine wpAnyIn_ready (rs := [6]) (by kernel_rfl) (by simp) ?_
          refine AllReadyIn.cons rfl (fun K hK => ?_) AllReadyIn.nil
          rw [if_pos (by rfl)]
          refine append_nil_opIn _ _ rfl (by rfl) W.heap.size 1 what (by rfl) (by exact World.cell?_alloc_new W _ _ 0) ?_
          intro g3 cap3 W3 hc3 hg3
          refine hK _ _ ?_
          clear hK K
          have hb3 : Below W.heap.size W W3 := (((Below.refl _ _).alloc (Nat.le_refl _) _).drew).grown hg3 (by simp) (fun k e => by cases e)
          have e4 := (hb3.cell (p := ⟨w.heap.size, 0, none⟩) hlt).trans e2
          have e5 := (hb3.frozen (p := ⟨w.heap.size, 0, none⟩) hlt).trans e3
          clear hb3
          refine wpAnyIn_ready (rs := [7]) (by kernel_rfl) (by simp) ?_
          refine AllReadyIn.cons rfl (fun K hK => ?_) AllReadyIn.nil
          go_simp
          refine hK _ _ ?_
          clear hK K
          refine wpAnyIn_done (by kernel_rfl) ?_ _
          have HE := Lib.hid (HEND.out g3 cap3 W3 hc3 hg3)
          clear HEND e4 e5 hc3 hg3
          gi_wp2
          exact HE.out
    · exact absurd hlen (by simp)
  case done =>
    rintro D xs W hD rfl (⟨h1, -⟩ | ⟨-, b, c, h2, h3, h4⟩) hK
    · cases h1
    · have HK := Lib.hid hK
      have H3 := Lib.hid h3
      have H4 := Lib.hid h4
      clear hK h3 h4 c12 f12 hseq
      gi_wp2
      refine leave_mark (v := .slice (some ⟨b, 0, none⟩) 1 c) HK.out ?_ ⟨⟨b, c, rfl, cell_putObj HK.out H3.out⟩, below_putObj H4.out H4.out.size (by omega) _⟩
      simp [results, Tryd.f55, go_sem]
  case stop => exact fun D c pre W hD hpre h hK => h.elim

end Go.Proofs.YtfeikolfdggnfaaDoor

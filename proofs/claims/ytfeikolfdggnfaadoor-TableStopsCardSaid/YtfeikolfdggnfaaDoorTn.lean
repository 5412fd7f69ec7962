/- TableStops, walked. -/
import Derived.Test.YtfeikolfdggnfaaDoorTm
import Derived.Test.YtfeikolfdggnfaaDoorTq
namespace Go.Proofs.YtfeikolfdggnfaaDoor
open Go.RowKit Go.Shelf

section
variable {n : Nat} {P : Program}
theorem leave_mark2 {fn : Func} {tmps : Array Value} {R : Ending → World → Prop} {D E : Nat} {W : World} {v : Value} (hD : W.heap[D]? = some (.deferred (some []))) (hE : W.heap[E]? = some (.deferred (some []))) (hne : E ≠ D)
    (hres : (results fn tmps).run P ((W.putObj D (.deferred none)).putObj E (.deferred none)) = .ok v ((W.putObj D (.deferred none)).putObj E (.deferred none))) (hR : R (.returned v) ((W.putObj D (.deferred none)).putObj E (.deferred none))) :
    bodyPostM Fence.wide n P fn R .ret { tmps, defers := [{ target := .collected D, args := #[] }, { target := .collected E, args := #[] }] } W :=
  ⟨by simp, .inl ⟨_, _, rfl, run_takeDeferred hD, by simp, .inl ⟨_, _, rfl, run_takeDeferred ((World.putObj_heap_other hne).trans hE), ⟨v, hres, hR⟩⟩⟩⟩
/-- The law of a range over a function, where what a round's start makes of the temporaries is a function of them. -/
theorem wpIn_rangeFunc_ownG {F : Fence} {α : Type} {g : Operand} {ps : Array Tmp} {assign body : Code} {Q : Exit → Act → World → Prop} {a : Act} {w : World}
    (f : Array Value → α → Array Value)
    (hro : F.round = none) (h1 : 1 ≤ n) {gf : Nat} {lb : Array Value} (hg : a.eval g = .func (.func gf) #[] lb) (hFg : F.fn gf) (eg : ∀ args w, (callFunc gf args).run P w = .ok (.enter gf args) w)
    {encs : α → Array Value} {Kp : World → World → Prop} {S Sp : List α → Prop} {N : Nat} {w0 : World} (hseq : SeqStopsK F (n - 1) P gf lb encs Kp S Sp N w0)
    (hKt : ∀ {A B C : World}, Kp A B → Kp B C → Kp A C) (hKb : ∀ (W : World) (l : Nat) (o o' : Obj), w.heap.size ≤ l → W.heap[l]? = some o → o.isCells = false → o.isWalk = false → Kp W (W.putObj l o')) (hb0 : Below w0.heap.size w0 w) (hps : ∀ x, (encs x).size = ps.size)
    (I : List α → World → Prop) (Ix : Code → List α → World → Prop) (hI : OwnFrom w.heap.size I) (hIx : ∀ c, OwnFrom w.heap.size (Ix c)) (h0 : I [] w)
    (hassign : ∀ (l : Nat) (x : α) (W : World) (K : Act → World → Prop), K { tmps := f a.tmps x, defers := [] } W →
      assign.wpIn (F.inRound l) (n - 1 - 1) P (Exit.then K (fun _ _ _ => False)) { tmps := (ps.zip (encs x)).foldl (fun t (p, v) => t.setIfInBounds p v) a.tmps, defers := [] } W)
    (hbody : ∀ (l : Nat) (pre : List α) (x : α) (W : World), I pre W → pre.length < N → body.wpIn (F.inRound l) (n - 1 - 1) P (ownPostK Kp I Ix (pre ++ [x]) W) { tmps := f a.tmps x, defers := [] } W)
    (hdone : ∀ (D : Nat) (xs : List α) (W : World), w.heap.size ≤ D → S xs → I xs W → W.heap[D]? = some (.deferred (some [])) → Q .normal { a with defers := { target := .collected D, args := #[] } :: a.defers } W)
    (hstop : ∀ (D : Nat) (c : Code) (pre : List α) (W : World), w.heap.size ≤ D → Sp pre → Ix c pre W → W.heap[D]? = some (.deferred (some [])) → c.wpIn F n P Q { a with defers := { target := .collected D, args := #[] } :: a.defers } W) :
    (Code.rangeFunc g ps assign body).wpIn F n P Q a w :=
  wpIn_rangeFunc_ownF hro h1 hg hFg eg hseq hKt hKb hb0 hps I Ix hI hIx h0 (fun x => { tmps := f a.tmps x, defers := [] }) hassign hbody hdone hstop
end

theorem seq_notNil (fn : Fn) (f c : Array Value) (w : World) : (binOp .eql 43 (.func fn f c) .nilFunc).run Tryd.prog w = .ok (.bool false) w := by kernel_rfl

theorem rows_of {l xs : List ByteArray} {wd : Nat} (h9 : wd ≤ 9) (h : RowsOf (fewL (l.take 12)) wd 0 (fewL (l.take 12)).length xs) : xs = (fewL (l.take 12)).map (fillW wd) ∧ (∀ x ∈ xs, x.size = wd) ∧ xs.length ≤ 12 := by
  have h1 := h.fill rfl (by omega)
  rw [List.take_length] at h1
  refine ⟨h1, ?_, ?_⟩
  · intro x hx
    rw [h1] at hx
    obtain ⟨y, _, rfl⟩ := List.mem_map.1 hx
    unfold fillW
    rw [if_neg (by omega), Int.toNat_natCast, ByteArray.size_extract, ByteArray.size_append]
    have : nines.size = 9 := rfl
    omega
  · rw [h.len]; simp [fewL]; omega

/-- The law's own boxes: its numbers, its answer. -/
structure StA (w W : World) (q0 q1 : Int) : Prop where
  b : Below w.heap.size w W
  s : w.heap.size + 1 + 1 ≤ W.heap.size
  c0 : W.cell? ⟨w.heap.size, 0, none⟩ = some (.int .i64 q0)
  c1 : W.cell? ⟨w.heap.size, 1, none⟩ = some (.int .i64 q1)
  c2 : W.cell? ⟨w.heap.size + 1, 0, none⟩ = some (.bool false)
  f2 : W.frozen? ⟨w.heap.size + 1, 0, none⟩ = false

theorem StA.next {w W W' : World} {q0 q1 : Int} (h : StA w W q0 q1) (hb : Below W.heap.size W W') : StA w W' q0 q1 :=
  ⟨h.b.trans (hb.mono h.b.size), Nat.le_trans h.s hb.size, (hb.cell (World.block_lt_of_cell? W _ h.c0)).trans h.c0, (hb.cell (World.block_lt_of_cell? W _ h.c1)).trans h.c1, (hb.cell (World.block_lt_of_cell? W _ h.c2)).trans h.c2, (hb.frozen (World.block_lt_of_cell? W _ h.c2)).trans h.f2⟩

theorem StA.set {w W : World} {q0 q1 : Int} (h : StA w W q0 q1) {p : Addr} (hp : w.heap.size + 1 + 1 ≤ p.block) (u : Value) : StA w (W.setCell p u) q0 q1 :=
  ⟨h.b.setCell (by omega) u, by simpa using h.s, (cell_set_other _ _ _ _ (by show w.heap.size ≠ _; omega)).trans h.c0, (cell_set_other _ _ _ _ (by show w.heap.size ≠ _; omega)).trans h.c1, (cell_set_other _ _ _ _ (by show w.heap.size + 1 ≠ _; omega)).trans h.c2, by rw [free_set]; exact h.f2⟩

theorem StA.grown {w W W' : World} {q0 q1 : Int} {row : Option Nat} (h : StA w W q0 q1) (hg : W.grownBy W' row) (hr : ∀ r, row = some r → w.heap.size ≤ r ∧ ∃ o : Obj, W.heap[r]? = some o ∧ o.isCells = false) : StA w W' q0 q1 :=
  ⟨h.b.grown hg h.b.size (fun k e => (hr k e).1), Nat.le_trans h.s hg.size, cell_kept h.c0 hg (fun r e => (hr r e).2), cell_kept h.c1 hg (fun r e => (hr r e).2), cell_kept h.c2 hg (fun r e => (hr r e).2), (frozen_kept h.c2 hg (fun r e => (hr r e).2)).trans h.f2⟩

theorem StA.start (w : World) (q0 q1 : Int) (t : TypeId) : StA w ((w.alloc (.cells #[.int .i64 q0, .int .i64 q1] t)).alloc (.cells #[.bool false] 4)) q0 q1 :=
  ⟨((Below.refl _ _).alloc (Nat.le_refl _) _).alloc (by simp) _, by simp, by rw [World.cell?_alloc_past _ _ _ (by simp)]; exact World.cell?_alloc_new w _ _ 0, by rw [World.cell?_alloc_past _ _ _ (by simp)]; exact World.cell?_alloc_new w _ _ 1,
   by simp, by simp⟩

theorem beg_nil (s : ByteArray) : begB s ⟨#[]⟩ = true := by
  have h : (s.extract 0 (⟨#[]⟩ : ByteArray).size) = ⟨#[]⟩ := by
    apply ByteArray.ext
    rw [ByteArray.data_extract]
    exact Array.eq_empty_of_size_eq_zero (by rw [Array.size_extract]; exact Nat.le_zero.1 (by show min 0 _ - 0 ≤ 0; omega))
  unfold begB
  rw [h]
  exact Bool.and_eq_true_iff.2 ⟨decide_eq_true (Nat.zero_le _), by rw [beq_iff_eq]⟩

theorem runL_len {bytes : ByteArray} {wd key n : Nat} : ∀ (m i : Nat), i ≤ n → n - i ≤ m → (runL bytes wd key n ⟨#[]⟩ m i).length = n - i
  | 0, i, hi, hm => by simp [runL]; omega
  | m + 1, i, hi, hm => by
    by_cases h : i < n
    · rw [runL_go (by omega) h (beg_nil _), List.length_cons, Nat.add_sub_cancel, runL_len m (i + 1) (by omega) (by omega)]; omega
    · rw [runL_stop (fun hc => h hc.1)]; simp; omega

theorem runL_nth {bytes : ByteArray} {wd key n : Nat} : ∀ (m i j : Nat) (x : Nat), (runL bytes wd key n ⟨#[]⟩ m i)[j]? = some x → x = i + j
  | 0, i, j, x, h => by simp [runL] at h
  | m + 1, i, j, x, h => by
    by_cases hc : i < n
    · rw [runL_go (by omega) hc (beg_nil _)] at h
      cases j with
      | zero => simp at h; omega
      | succ j => rw [List.getElem?_cons_succ] at h; have := runL_nth m (i + 1) j x h; omega
    · rw [runL_stop (fun hc2 => hc hc2.1)] at h; simp at h

theorem from_zero {bytes : ByteArray} {wd key n r : Nat} (h : FromOf bytes wd key n ⟨#[]⟩ r) : r = 0 := by
  rcases Nat.eq_zero_or_pos r with h0 | h0
  · exact h0
  · have := h.below h0
    rw [ByteArray.toList_eq ⟨#[]⟩] at this
    unfold Op.bytesLess at this
    cases this

theorem runL_all {bytes : ByteArray} {wd key n r : Nat} {xs : List { i : Nat // i < n }} (h : FromOf bytes wd key n ⟨#[]⟩ r) (hx : xs.map Subtype.val = runL bytes wd key n ⟨#[]⟩ (n + 1) r) : xs.length = n := by
  obtain rfl := from_zero h
  have := congrArg List.length hx
  rw [runL_len _ _ (by omega) (by omega), List.length_map] at this
  exact this

theorem runL_some {bytes : ByteArray} {wd key n r : Nat} {xs : List { i : Nat // i < n }} (h : FromOf bytes wd key n ⟨#[]⟩ r) (hx : xs.map Subtype.val <+: runL bytes wd key n ⟨#[]⟩ (n + 1) r) : xs.length ≤ n := by
  obtain rfl := from_zero h
  have := hx.length_le
  rw [runL_len _ _ (by omega) (by omega), List.length_map] at this
  exact this

theorem runL_at {bytes : ByteArray} {wd key n r : Nat} {xs : List { i : Nat // i < n }} {x : { i : Nat // i < n }} (h : FromOf bytes wd key n ⟨#[]⟩ r) (hx : (xs ++ [x]).map Subtype.val <+: runL bytes wd key n ⟨#[]⟩ (n + 1) r) : x.val = xs.length := by
  obtain rfl := from_zero h
  have h1 : ((xs ++ [x]).map Subtype.val)[xs.length]? = some x.val := by simp
  obtain ⟨t, ht⟩ := hx
  have h2 := runL_nth (bytes := bytes) (wd := wd) (key := key) (n := n) (n + 1) 0 xs.length x.val (by rw [← ht, List.getElem?_append_left (by simp)]; exact h1)
  omega

def StopPost (T : Array Value) (w W6 : World) (lo : Nat) (q0 q1 : Int) (k nr : Nat) : Exit → Act → World → Prop :=
  fun e a' W' => (e = .normal ∨ e = .exit 0) ∧ ∃ D, a' = { tmps := T, defers := [{ target := .collected D, args := #[] }] } ∧ lo ≤ D ∧ W'.heap[D]? = some (.deferred (some [])) ∧ StA w W' q0 q1 ∧ Below W6.heap.size W6 W' ∧ W'.cell? ⟨W6.heap.size, 0, none⟩ = some (.int .i64 k) ∧ W'.cell? ⟨W6.heap.size + 1, 0, none⟩ = some (.int .i64 ((min k nr : Nat) : Int))

def StopPost2 (T : Array Value) (w W8 : World) (D lo : Nat) (q0 q1 : Int) (nr : Nat) : Exit → Act → World → Prop :=
  fun e a' W' => e = .normal ∧ ∃ E, a' = { tmps := T, defers := [{ target := .collected E, args := #[] }, { target := .collected D, args := #[] }] } ∧ lo ≤ E ∧ W'.heap[E]? = some (.deferred (some [])) ∧ W'.heap[D]? = some (.deferred (some [])) ∧ StA w W' q0 q1 ∧ Below W8.heap.size W8 W' ∧ W'.cell? ⟨W8.heap.size, 0, none⟩ = some (.int .i64 (nr : Int))

set_option maxHeartbeats 2000000 in
set_option maxRecDepth 100000 in
theorem stops_any (a : Option Addr) (cap : Nat) (l : List ByteArray) (q0 q1 : Int) (w : World) (hv : ErrVar w) (hl : l.length ≤ 9223372036854775807) (hz : ∀ x ∈ l, x.size ≤ maxLen) (h : StrsAt w a l) :
    Calls Tryd.prog 4 #[.slice a l.length cap, .agg #[.int .i64 q0, .int .i64 q1]] w fun e w' => e = .returned (.bool true) ∧ Below w.heap.size w w' := by
  refine (callsIn_wide (n := 9)).1 ?_
  refine callsIn_of_wp_marks Tryd.func4 rfl trivial ?_ rfl
  simp only [Tryd.ntmps4, List.size_toArray, List.length_cons, List.length_nil, Nat.reduceAdd, Nat.reduceSub, Array.replicate_succ, Array.replicate_zero, List.push_toArray, List.append_toArray, List.nil_append, List.cons_append]
  have hFf : ∀ f, Fence.wide.fn f := fun _ => trivial
  have hFd : Fence.wide.depth = none := rfl
  have HV := Lib.hid hv
  have HS := Lib.hid h
  have HL := Lib.hid hl
  have HZ := Lib.hid hz
  clear hv h hl hz
  gi_wp2_with fail
  refine (callsIn_wide.2 (awake_any _)).mono ?_
  rintro e W1 ⟨rfl, hb1⟩
  have hS1 := (StA.start w q0 q1 41).next hb1
  have H1 := Lib.hid hS1
  clear hb1
  obtain ⟨-, -, d0, -, -, -⟩ := hS1
  gi_wp2_with fail
  refine (callsIn_wide.2 (rest_any q0 9 W1 (by omega) (by omega))).mono ?_
  rintro e W2 ⟨rfl, m1, rfl⟩
  have hw0 : 0 ≤ q0 % 9 := Int.emod_nonneg _ (by omega)
  have hw9 : q0 % 9 < 9 := Int.emod_lt_of_pos _ (by omega)
  gi_wp2_with fail
  obtain ⟨wd, hwd⟩ : ∃ wd : Nat, 1 + q0 % 9 = (wd : Int) := ⟨(1 + q0 % 9).toNat, by omega⟩
  have hw1 : 1 ≤ wd := by omega
  have hw10 : wd ≤ 9 := by omega
  rw [hwd]
  clear hwd hw0 hw9 d0
  have hS2 := H1.out.next (below_drewN (Below.refl _ _) m1)
  have hL2 := HS.out.below hS2.b
  refine (callsIn_wide.2 (rows_any a cap l _ wd 0 HL.out HZ.out hL2)).mono ?_
  rintro e W3 ⟨v3, xs, rfl, hown, hb3, hR⟩
  obtain ⟨hxs, hxz, hxl⟩ := rows_of hw10 hR
  have H3 := Lib.hid (hS2.next hb3)
  have HX := Lib.hid hxz
  obtain ⟨a3, cap3, rfl, hs3⟩ := hown.strs
  have hm : mayB wd wd = true := by simp [mayB]; omega
  have HB := Lib.hid (build_tab wd wd a3 cap3 xs W3 hs3 (by omega) (fun x hx => by rw [hxz x hx]; omega))
  have HOK := Lib.hid (fun (e : Ending) (w' : World) (hb : BuildPost W3 wd wd xs e w') => hb.ok hm hxz (by omega))
  clear hS2 hL2 hb3 hR hxs hxz hs3 hown hm
  gi_wp2_with fail
  refine (callsIn_wide.2 HB.out).mono ?_
  intro e W4 hpost
  obtain ⟨hb4, ys, hp, hso, ⟨g, hg, hri, rfl, hT, hok⟩ | ⟨g, at_, hg, hri, rfl, hfa⟩⟩ := HOK.out e W4 hpost
  · have H4 := Lib.hid (H3.out.next hb4)
    have HT := Lib.hid hT
    have HOKT := Lib.hid hok
    obtain ⟨nr, hnr⟩ : ∃ nr, ys.length = nr := ⟨_, rfl⟩
    rw [hnr] at HOKT
    have hnr12 : nr ≤ 12 := by rw [← hnr, hp.length_eq]; exact hxl
    obtain ⟨bs, hbs⟩ : ∃ bs, catB ys = bs := ⟨_, rfl⟩
    rw [hbs] at HT HOKT
    clear hpost hb4 hp hso hri HB HOK HX hT hok hbs hnr
    gi_wp2_with fail
    refine (callsIn_wide.2 (prefix_any g ⟨#[]⟩ W4)).mono ?_
    rintro e W5 ⟨rfl, hW5⟩
    have hbx : BoxesAt W4 W5 [(.pointer (some ⟨g, 0, none⟩), 31), (.string ⟨#[]⟩, 9)] := by rw [← hW5]; exact boxes2 _ _ _ _ _
    have hT5 := HT.out.below hbx.below
    have H5 := Lib.hid (H4.out.next hbx.below)
    have hp5 : W5.cell? ⟨W4.heap.size, 0, none⟩ = some (.pointer (some ⟨g, 0, none⟩)) := hbx.cell 0 _ rfl
    have hq5 : W5.cell? ⟨W4.heap.size + 1, 0, none⟩ = some (.string ⟨#[]⟩) := hbx.cell 1 _ rfl
    obtain ⟨-, -, -, d1, -, -⟩ := H5.out
    have HT5 := Lib.hid hT5
    have HP5 := Lib.hid hp5
    have HQ5 := Lib.hid hq5
    clear hW5 hbx hT5 hp5 hq5
    have hnn := seq_notNil
    gi_wp2_with fail
    clear hnn
    refine (callsIn_wide.2 (rest_any q1 14 W5 (by omega) (by omega))).mono ?_
    rintro e W6 ⟨rfl, m2, rfl⟩
    have hk0 : 0 ≤ q1 % 14 := Int.emod_nonneg _ (by omega)
    obtain ⟨k, hk⟩ : ∃ k : Nat, q1 % 14 = (k : Int) := ⟨(q1 % 14).toNat, by omega⟩
    rw [hk]
    clear hk hk0
    have hb6 : Below W5.heap.size W5 (W5.drewN m2) := below_drewN (Below.refl _ _) m2
    generalize W5.drewN m2 = W6 at hb6 ⊢
    have H6 := Lib.hid (H5.out.next hb6)
    have HT6 := Lib.hid (HT5.out.below hb6)
    have HP6 := Lib.hid ((hb6.cell (World.block_lt_of_cell? W5 _ HP5.out)).trans HP5.out)
    have HQ6 := Lib.hid ((hb6.cell (World.block_lt_of_cell? W5 _ HQ5.out)).trans HQ5.out)
    clear hb6 d1 HP5 HQ5 HT5 H5 HT H4
    gi_wp2_with fail
    obtain ⟨W7, hW7⟩ : ∃ W7, (W6.alloc (.cells #[.int .i64 k] 3)).alloc (.cells #[.int .i64 0] 3) = W7 := ⟨_, rfl⟩
    have hbx : BoxesAt W6 W7 [(.int .i64 k, 3), (.int .i64 0, 3)] := by rw [← hW7]; exact boxes2 _ _ _ _ _
    rw [hW7]
    have hc1 : W7.cell? ⟨W6.heap.size, 0, none⟩ = some (.int .i64 k) := hbx.cell 0 _ rfl
    have hc2 : W7.cell? ⟨W6.heap.size + 1, 0, none⟩ = some (.int .i64 0) := hbx.cell 1 _ rfl
    have hf2 : W7.frozen? ⟨W6.heap.size + 1, 0, none⟩ = false := hbx.free 1 _ rfl
    have hz7 : W7.heap.size = W6.heap.size + 2 := hbx.size
    have hT7 := HT6.out.below hbx.below
    have hp7 := (hbx.below.cell (World.block_lt_of_cell? W6 _ HP6.out)).trans HP6.out
    have hq7 := (hbx.below.cell (World.block_lt_of_cell? W6 _ HQ6.out)).trans HQ6.out
    have hseq := prefix1_seq 8 W6.heap.size g wd wd nr bs ⟨#[]⟩ ⟨W4.heap.size, 0, none⟩ ⟨W4.heap.size + 1, 0, none⟩ W7 HOKT.out (by decide) hT7 hp7 hq7 (World.block_lt_of_cell? W6 _ HT6.out.c0) (World.block_lt_of_cell? W6 _ HP6.out) (World.block_lt_of_cell? W6 _ HQ6.out) (by omega)
    have H7 := Lib.hid (H6.out.next hbx.below)
    have HB7 := Lib.hid hbx.below
    clear hW7 hbx hT7 hp7 hq7
    rename_i K hK
    apply wpIn_mono (Q := StopPost _ w W6 W7.heap.size q0 q1 k nr)
    case h =>
      refine wpIn_rangeFunc_ownG (α := { i : Nat // i < nr }) (fun T x => (T.setIfInBounds 44 (.int .i64 (x.val : Int))).setIfInBounds 45 (.string (rowB bs wd x.val))) rfl (by omega) (gf := 36) rfl trivial (enters_of Tryd.func36 (by kernel_rfl) rfl) hseq belowK_t (belowK_b (by omega)) (Below.refl _ _) (fun _ => rfl)
        (fun pre W => StA w W q0 q1 ∧ Below W6.heap.size W6 W ∧ W.cell? ⟨W6.heap.size, 0, none⟩ = some (.int .i64 k) ∧ W.cell? ⟨W6.heap.size + 1, 0, none⟩ = some (.int .i64 (pre.length : Int)) ∧ W.frozen? ⟨W6.heap.size + 1, 0, none⟩ = false ∧ pre.length ≤ k)
        (fun c pre W => c = .exit 0 ∧ pre.length = k + 1 ∧ StA w W q0 q1 ∧ Below W6.heap.size W6 W ∧ W.cell? ⟨W6.heap.size, 0, none⟩ = some (.int .i64 k) ∧ W.cell? ⟨W6.heap.size + 1, 0, none⟩ = some (.int .i64 (k : Int)))
        ?own ?ownx ⟨H7.out, HB7.out, hc1, hc2, hf2, by simp⟩ ?assign ?body ?done ?stop
      case assign =>
        intro l x W K hK
        unfold encRow
        have HK := Lib.hid hK
        clear hK
        gi_wp2
        exact HK.out
      case own =>
        rintro s W W' row ⟨h1, h2, h3, h4, h5, h6⟩ hg hr
        exact ⟨h1.grown hg (fun r e => ⟨by have := (hr r e).1; have := H6.out.s; omega, (hr r e).2⟩), h2.grown hg h2.size (fun r e => by have := (hr r e).1; omega), cell_kept h3 hg (fun r e => (hr r e).2), cell_kept h4 hg (fun r e => (hr r e).2), (frozen_kept h4 hg (fun r e => (hr r e).2)).trans h5, h6⟩
      case ownx =>
        rintro c s W W' row ⟨h1, h2, h3, h4, h5, h6⟩ hg hr
        exact ⟨h1, h2, h3.grown hg (fun r e => ⟨by have := (hr r e).1; have := H6.out.s; omega, (hr r e).2⟩), h4.grown hg h4.size (fun r e => by have := (hr r e).1; omega), cell_kept h5 hg (fun r e => (hr r e).2), cell_kept h6 hg (fun r e => (hr r e).2)⟩
      case body =>
        rintro l pre x W ⟨hS, hB, e1, e2, e3, hle⟩ hlen
        have HS7 := Lib.hid hS
        have HB8 := Lib.hid hB
        have hs6 := H6.out.s
        clear hS hB hc1 hc2 hf2 hz7 hseq hK
        by_cases hk : pre.length = k
        · have hkk : ((pre.length : Int) == (k : Int)) = true := by rw [beq_iff_eq]; omega
          have HK := Lib.hid hk
          clear hk
          gi_wp2_with (rw [Oper.semAt_eq _ _ _ (fun c h => by cases h)]; go_simp; try go_bits)
          exact ⟨KeepsOthers.refl _, rfl, by rw [List.length_append, HK.out]; rfl, HS7.out, HB8.out, e1, by rw [e2, HK.out]⟩
        · have hkk : ((pre.length : Int) == (k : Int)) = false := by rw [beq_eq_false_iff_ne]; omega
          gi_wp2_with (rw [Oper.semAt_eq _ _ _ (fun c h => by cases h)]; go_simp; try go_bits)
          refine ⟨KeepsOthers.setCell _ _ _, (Below.refl _ _).setCell (p := ⟨W6.heap.size + 1, 0, none⟩) (by simp) _, HS7.out.set (by simp; omega) _, HB8.out.setCell (p := ⟨W6.heap.size + 1, 0, none⟩) (by simp) _, ?_, ?_, by rw [free_set]; exact e3, by rw [List.length_append, List.length_singleton]; omega⟩
          · rw [cell_set_other _ _ _ _ (by simp)]; exact e1
          · rw [World.cell?_setCell_same' _ _ _ (by rw [e2]; rfl), List.length_append]; rfl
      case done =>
        rintro D xs' W hD ⟨r, hr, hxs⟩ ⟨h1, h2, h3, h4, h5, h6⟩ hK2
        have hn := runL_all hr hxs
        exact ⟨.inl rfl, D, rfl, hD, hK2, h1, h2, h3, by rw [h4, show min k nr = xs'.length by omega]⟩
      case stop =>
        rintro D c pre W hD ⟨r, hr, hne, hpre⟩ ⟨rfl, h2, h3, h4, h5, h6⟩ hK2
        have hn := runL_some hr hpre
        have HF := Lib.hid (And.intro hK2 (And.intro h3 (And.intro h4 (And.intro h5 (show W.cell? ⟨W6.heap.size + 1, 0, none⟩ = some (.int .i64 ((min k nr : Nat) : Int)) by rw [h6, show min k nr = k by omega])))))
        clear hK2 h3 h4 h5 h6
        gi_wp2
        exact ⟨.inr rfl, D, rfl, by omega, HF.out⟩
    case hq =>
      rintro e a' W8 ⟨he, D, rfl, hD, hK2, h1, h2, h3, h4⟩
      have heq : ∀ (X : Exit → Act → World → Prop) (a : Act) (w : World), Exit.inBlock 0 X e a w = X .normal a w := by rcases he with rfl | rfl <;> (intros; rfl)
      rw [heq]
      show K _ _
      refine hK _ _ ?_
      clear heq he hK K
      have H8 := Lib.hid h1
      have HB8 := Lib.hid h2
      have HT8 := Lib.hid (HT6.out.below h2)
      have HP8 := Lib.hid ((h2.cell (World.block_lt_of_cell? W6 _ HP6.out)).trans HP6.out)
      have HQ8 := Lib.hid ((h2.cell (World.block_lt_of_cell? W6 _ HQ6.out)).trans HQ6.out)
      have hs8 := h2.size
      have hD8 : D < W8.heap.size := by
        rcases Nat.lt_or_ge D W8.heap.size with hlt | hge
        · exact hlt
        · rw [Array.getElem?_eq_none hge] at hK2; cases hK2
      have HDD := Lib.hid hK2
      have HC3 := Lib.hid h3
      have HC4 := Lib.hid h4
      clear h1 h2 hK2 h3 h4 HB7 H7 hseq hc1 hc2 hf2
      gi_wp2_with fail
      obtain ⟨W9, hW9⟩ : ∃ W9, W8.alloc (.cells #[.int .i64 0] 3) = W9 := ⟨_, rfl⟩
      have hbx : BoxesAt W8 W9 [(.int .i64 0, 3)] := by rw [← hW9]; exact boxes1 _ _ _
      rw [hW9]
      have hc1 : W9.cell? ⟨W8.heap.size, 0, none⟩ = some (.int .i64 0) := hbx.cell 0 _ rfl
      have hf1 : W9.frozen? ⟨W8.heap.size, 0, none⟩ = false := hbx.free 0 _ rfl
      have hz9 : W9.heap.size = W8.heap.size + 1 := hbx.size
      have hT9 := HT8.out.below hbx.below
      have hp9 := (hbx.below.cell (World.block_lt_of_cell? W8 _ HP8.out)).trans HP8.out
      have hq9 := (hbx.below.cell (World.block_lt_of_cell? W8 _ HQ8.out)).trans HQ8.out
      have hseq := prefix1_seq 8 W8.heap.size g wd wd nr bs ⟨#[]⟩ ⟨W4.heap.size, 0, none⟩ ⟨W4.heap.size + 1, 0, none⟩ W9 HOKT.out (by decide) hT9 hp9 hq9 (World.block_lt_of_cell? W8 _ HT8.out.c0) (World.block_lt_of_cell? W8 _ HP8.out) (World.block_lt_of_cell? W8 _ HQ8.out) (by omega)
      have H9 := Lib.hid (H8.out.next hbx.below)
      have HB9 := Lib.hid hbx.below
      have HD9 := Lib.hid ((hbx.below.block D hD8).trans HDD.out)
      clear hW9 hbx hT9 hp9 hq9
      rename_i K hK
      apply wpIn_mono (Q := StopPost2 _ w W8 D W9.heap.size q0 q1 nr)
      case h =>
        refine wpIn_rangeFunc_ownG (α := { i : Nat // i < nr }) (fun T x => ((T.setIfInBounds 52 (.int .i64 (x.val : Int))).setIfInBounds 53 (.string (rowB bs wd x.val))).setIfInBounds 13 (.int .i64 (x.val : Int))) rfl (by omega) (gf := 36) rfl trivial (enters_of Tryd.func36 (by kernel_rfl) rfl) hseq belowK_t (belowK_b (by omega)) (Below.refl _ _) (fun _ => rfl)
          (fun pre W => StA w W q0 q1 ∧ Below W8.heap.size W8 W ∧ W.heap[D]? = some (.deferred (some [])) ∧ W.cell? ⟨W8.heap.size, 0, none⟩ = some (.int .i64 (pre.length : Int)) ∧ W.frozen? ⟨W8.heap.size, 0, none⟩ = false)
          (fun c pre W => ∃ pre' x, pre = pre' ++ [x] ∧ x.val ≠ pre'.length)
          ?own ?ownx ⟨H9.out, HB9.out, HD9.out, hc1, hf1⟩ ?assign ?body ?done ?stop
        case assign =>
          intro l x W K hK
          unfold encRow
          have HK := Lib.hid hK
          clear hK
          gi_wp2_with (rw [Oper.semAt_eq _ _ _ (fun c h => by cases h)]; go_simp; try go_bits)
          exact HK.out
        case own =>
          rintro s W W' row ⟨h1, h2, h3, h4, h5⟩ hg hr
          exact ⟨h1.grown hg (fun r e => ⟨by have := (hr r e).1; have := H8.out.s; omega, (hr r e).2⟩), h2.grown hg h2.size (fun r e => by have := (hr r e).1; omega), (hg.5 D (by have := h2.size; omega) (fun hc => by have := (hr _ hc.symm).1; omega)).trans h3, cell_kept h4 hg (fun r e => (hr r e).2), (frozen_kept h4 hg (fun r e => (hr r e).2)).trans h5⟩
        case ownx =>
          rintro c s W W' row h hg hr
          exact h
        case body =>
          rintro l pre x W ⟨hS, hB, e1, e2, e3⟩ hlen
          have HS9 := Lib.hid hS
          have HB10 := Lib.hid hB
          have HD10 := Lib.hid e1
          have hs8 := H8.out.s
          clear hS hB hc1 hf1 hseq hK e1
          by_cases hk : x.val = pre.length
          · have hkk : ((x.val : Int) == (pre.length : Int)) = true := by rw [beq_iff_eq]; omega
            gi_wp2_with (rw [Oper.semAt_eq _ _ _ (fun c h => by cases h)]; go_simp; try go_bits)
            refine ⟨KeepsOthers.setCell _ _ _, (Below.refl _ _).setCell (p := ⟨W8.heap.size, 0, none⟩) (by simp) _, HS9.out.set (by simp; omega) _, HB10.out.setCell (p := ⟨W8.heap.size, 0, none⟩) (by simp) _, ?_, ?_, by rw [free_set]; exact e3⟩
            · rw [Below.heap_setCell _ _ _ _ (by simp; omega)]; exact HD10.out
            · rw [World.cell?_setCell_same' _ _ _ (by rw [e2]; rfl), List.length_append]; rfl
          · have g2 := HS9.out.c2
            have g3 := HS9.out.f2
            have hkk : ((x.val : Int) == (pre.length : Int)) = false := by rw [beq_eq_false_iff_ne]; omega
            gi_wp2_with (rw [Oper.semAt_eq _ _ _ (fun c h => by cases h)]; go_simp; try go_bits)
            exact ⟨KeepsOthers.setCell _ _ _, pre, x, rfl, hk⟩
        case done =>
          rintro E xs' W hD ⟨r, hr, hxs⟩ ⟨h1, h2, h3, h4, h5⟩ hK2
          have hn := runL_all hr hxs
          exact ⟨rfl, E, rfl, hD, hK2, h3, h1, h2, by rw [h4, hn]⟩
        case stop =>
          rintro E c pre W hD ⟨r, hr, hne, hpre⟩ ⟨pre', x, rfl, hx⟩ hK2
          exact absurd (runL_at hr hpre) hx
      case hq =>
        rintro e a' W10 ⟨rfl, E, rfl, hE, hK2, hK3, h1, h2, h3⟩
        show K _ _
        refine hK _ _ ?_
        clear hK K
        have c3 := ((h2.cell (World.block_lt_of_cell? W8 _ HC3.out)).trans HC3.out)
        have c4 := ((h2.cell (World.block_lt_of_cell? W8 _ HC4.out)).trans HC4.out)
        have c2 := h1.c2
        have f2 := h1.f2
        have HT10 := Lib.hid (HT8.out.below h2)
        have HK2 := Lib.hid hK2
        have HK3 := Lib.hid hK3
        have H10 := Lib.hid h1
        have hs10 := h1.s
        have hmn : ((min k nr : Nat) : Int) = min (k : Int) (nr : Int) := by omega
        clear h1 h2 hK2 hK3 hc1 hf1 hseq HB9 HD9 H9
        gi_wp2_with fail
        refine wpIn_region_last rfl (by kernel_rfl) (by kernel_rfl) (by kernel_rfl) ?_
        dsimp only [nopLast, List.dropLast, lastIs]
        repeat (gi_big_quiet_step ((gi_at_call 17; exact callsIn_wide.2 (Calls.quiet_of (len_any g wd wd nr bs _ HOKT.out (HT10.out.drewN _))))))
        refine wpQuietIn_nil ?_
        intro _ hw'
        obtain ⟨nq, rfl⟩ := hw'
        intro K hK
        gi_wp2_with fail
        have hset : ((W10.drewN nq).setCell ⟨w.heap.size + 1, 0, none⟩ (.bool true)).cell? ⟨w.heap.size + 1, 0, none⟩ = some (.bool true) := World.cell?_setCell_same' (W10.drewN nq) ⟨w.heap.size + 1, 0, none⟩ (.bool true) (by rw [show (W10.drewN nq).cell? ⟨w.heap.size + 1, 0, none⟩ = some (.bool false) from c2]; rfl)
        have hs6 := H6.out.s
        have hDE : D < E := by omega
        have hDw : w.heap.size + 1 < D := by omega
        have hDW : ((W10.drewN nq).setCell ⟨w.heap.size + 1, 0, none⟩ (.bool true)).heap[D]? = some (.deferred (some [])) := by
          rw [Below.heap_setCell _ _ _ _ (by simp; omega)]; exact HK3.out
        have hEW : ((W10.drewN nq).setCell ⟨w.heap.size + 1, 0, none⟩ (.bool true)).heap[E]? = some (.deferred (some [])) := by
          rw [Below.heap_setCell _ _ _ _ (by simp; omega)]; exact HK2.out
        have hbl : Below w.heap.size w ((W10.drewN nq).setCell ⟨w.heap.size + 1, 0, none⟩ (.bool true)) := (below_drewN H10.out.b nq).setCell (p := ⟨w.heap.size + 1, 0, none⟩) (by simp) _
        generalize ((W10.drewN nq).setCell ⟨w.heap.size + 1, 0, none⟩ (.bool true)) = W11 at hset hDW hEW hbl ⊢
        have hDW2 : (W11.putObj E (.deferred none)).heap[D]? = some (.deferred (some [])) := (World.putObj_heap_other (by omega)).trans hDW
        have hv := cell_putObj hDW2 (cell_putObj hEW hset)
        have hb1 := below_putObj hbl hbl.size (show w.heap.size ≤ E by omega) (.deferred none)
        refine leave_mark2 (v := .bool true) hEW hDW (by omega) ?_ ⟨rfl, below_putObj hb1 hb1.size (show w.heap.size ≤ D by omega) _⟩
        simp [results, Tryd.f4, go_sem, hv]
  · have H4 := Lib.hid (H3.out.next hb4)
    have HV4 := Lib.hid (HV.out.below H4.out.b)
    have HK := Lib.hid (kind_fault g 13 at_ tableWord W4 HV4.out hfa)
    clear hpost hb4 hp hso hg hri hfa HB HOK HX
    unfold faultV at *
    gi_wp2_with fail
    refine (callsIn_wide.2 HK.out).mono ?_
    rintro e W5 ⟨rfl, hb5⟩
    have H5 := Lib.hid (H4.out.next hb5)
    obtain ⟨-, -, -, -, c2, f2⟩ := H5.out
    clear HK hb5
    gi_wp2
    have hc := World.cell?_setCell_same' W5 ⟨w.heap.size + 1, 0, none⟩ (.bool true) (by rw [c2]; rfl)
    refine ⟨.bool true, ?_, rfl, H5.out.b.setCell (p := ⟨w.heap.size + 1, 0, none⟩) (by simp) _⟩
    simp [results, Tryd.f4, go_sem, hc]

end Go.Proofs.YtfeikolfdggnfaaDoor

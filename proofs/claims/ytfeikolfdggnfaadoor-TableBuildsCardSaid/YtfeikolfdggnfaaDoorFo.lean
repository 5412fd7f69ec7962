/- builds, news: of one. -/
import Derived.Test.YtfeikolfdggnfaaDoorFn
namespace Go.Proofs.YtfeikolfdggnfaaDoor
open Go.RowKit Go.Shelf

theorem newE_kinds {width key : Int} {s : ByteArray} {k a : Int} (h : newE width key s = some (k, a)) : k = 1 ∨ k = 12 ∨ k = 13 := by
  unfold newE at h
  split at h
  · cases h; exact .inl rfl
  · split at h
    · cases h; exact .inr (.inl rfl)
    · obtain ⟨i, -, hi⟩ := Option.map_eq_some_iff.1 h
      cases hi; exact .inr (.inr rfl)

theorem newE_ok {width key : Int} {s : ByteArray} (h : newE width key s = none) : mayB width key = true ∧ s.size % width.toNat = 0 := by
  unfold newE at h
  split at h
  · cases h
  · rename_i h1
    split at h
    · cases h
    · rename_i h2
      exact ⟨by simpa using h1, by simpa using h2⟩

/-- What both hand back is looked at. -/
theorem looks_any (width key : Int) (r : Option (Int × Int)) (bs : ByteArray) (ys : List ByteArray) (x y : Value) (e' : Ending) (w W1 W2 : World)
    (hT : TabPost w r width key bs (.returned (.tuple #[x, y])) W1) (hR : RefPost W1 r ys e' W2) (hk : ∀ k a, r = some (k, a) → k = 1 ∨ k = 12 ∨ k = 13)
    (hn : r = none → mayB width key = true ∧ (∀ z ∈ ys, z.size = width.toNat) ∧ Rising key.toNat ys ∧ catB ys = bs ∧ ys.length ≤ 10000) (hv : ErrVar w) :
    Below w.heap.size w W2 ∧ ∃ a n c k p, e' = .returned (.agg #[.slice a n c, .int .i64 k, .int .i64 p]) ∧ Calls Tryd.prog 40 #[x, y, .agg #[.slice a n c, .int .i64 k, .int .i64 p], .int .i64 key] W2 fun e w' => e = .returned (.bool true) ∧ Below W2.heap.size W2 w' := by
  obtain ⟨hb1, hT⟩ := hT
  obtain ⟨hb2, hR⟩ := hR
  have hb := hb1.trans (hb2.mono hb1.size)
  refine ⟨hb, ?_⟩
  cases r with
  | none =>
    obtain ⟨g, hg, he, hTa⟩ := hT
    obtain ⟨a, c, rfl, hS⟩ := hR
    obtain ⟨hm, hz, hri, hbs, hl⟩ := hn rfl
    cases he
    have hmb := hm
    simp only [mayB, Bool.and_eq_true, decide_eq_true_eq] at hmb
    obtain ⟨wd, rfl⟩ := Int.eq_ofNat_of_zero_le (show 0 ≤ width by omega)
    obtain ⟨ky, rfl⟩ := Int.eq_ofNat_of_zero_le (show 0 ≤ key by omega)
    rw [Int.toNat_natCast] at hz hTa hri
    rw [Int.toNat_natCast] at hTa
    have hok := tabOk_cat hz hm (by omega)
    rw [hbs] at hok
    exact ⟨_, _, _, _, _, rfl, looks_ok g wd ky ys.length a c ys bs W2 hbs rfl hok (hTa.below hb2) hS hz hri hl⟩
  | some q =>
    obtain ⟨k, p⟩ := q
    obtain ⟨g, hg, he, hfa⟩ := hT
    cases he
    exact ⟨_, _, _, _, _, hR, looks_err g k p key (hk k p rfl) W2 (hv.below hb) ((hb2.block g (Array.getElem?_eq_some_iff.1 hfa).1).trans hfa)⟩

theorem refbuild_any (width key : Int) (a : Option Addr) (cap : Nat) (xs : List ByteArray) (w : World) (h : StrsAt w a xs) (hl : xs.length ≤ 100) (hz : ∀ x ∈ xs, x.size ≤ 100) :
    Calls Tryd.prog 10 #[.int .i64 width, .int .i64 key, .slice a xs.length cap] w (RefBuilt w width key xs) := by
  cases hm : mayB width key with
  | false => exact (refbuild_arg width key a xs.length cap w hm).mono fun e w' h => .inl ⟨hm, h⟩
  | true =>
    have hmb := hm
    simp only [mayB, Bool.and_eq_true, decide_eq_true_eq] at hmb
    obtain ⟨wd, rfl⟩ := Int.eq_ofNat_of_zero_le (show 0 ≤ width by omega)
    obtain ⟨ky, rfl⟩ := Int.eq_ofNat_of_zero_le (show 0 ≤ key by omega)
    exact refbuild_rest wd ky a cap xs w h hm hl hz

theorem BuildPost.tuple {w : World} {width key : Int} {xs : List ByteArray} {e : Ending} {w' : World} (h : BuildPost w width key xs e w') : ∃ x y, e = .returned (.tuple #[x, y]) := by
  rcases h with ⟨_, h⟩ | ⟨i, _, _, h⟩ | ⟨ys, _, _, _, _, h⟩ <;> (obtain ⟨x, y, e, -⟩ := h.tuple; exact ⟨x, y, e⟩)

/-- The program's Build, and the document's. -/
theorem built_same {w W1 W2 : World} {width key : Int} {xs : List ByteArray} {e e' : Ending} (hA : BuildPost w width key xs e W1) (hB : RefBuilt W1 width key xs e' W2) (hl : xs.length ≤ 100) :
    ∃ r ys, TabPost w r width key (catB ys) e W1 ∧ RefPost W1 r ys e' W2 ∧ (∀ k a, r = some (k, a) → k = 1 ∨ k = 12 ∨ k = 13) ∧
      (r = none → mayB width key = true ∧ (∀ z ∈ ys, z.size = width.toNat) ∧ Rising key.toNat ys ∧ catB ys = catB ys ∧ ys.length ≤ 10000) := by
  rcases hA with ⟨hm, hA⟩ | ⟨i, hm, hi, hA⟩ | ⟨ys, hm, hi, hp, hs, hA⟩
  · rcases hB with ⟨-, hB⟩ | ⟨i, hm2, -⟩ | ⟨zs, hm2, -⟩
    · exact ⟨_, [], hA, hB, (fun k a h => by cases h; exact .inl rfl), fun h => by cases h⟩
    · rw [hm] at hm2; cases hm2
    · rw [hm] at hm2; cases hm2
  · rcases hB with ⟨hm2, -⟩ | ⟨j, -, hj, hB⟩ | ⟨zs, -, hj, -⟩
    · rw [hm] at hm2; cases hm2
    · rw [hi] at hj; cases hj
      exact ⟨_, [], hA, hB, (fun k a h => by cases h; exact .inr (.inl rfl)), fun h => by cases h⟩
    · rw [hi] at hj; cases hj
  · rcases hB with ⟨hm2, -⟩ | ⟨j, -, hj, hB⟩ | ⟨zs, -, -, hp2, ho, hB⟩
    · rw [hm] at hm2; cases hm2
    · rw [hi] at hj; cases hj
    · have hmb := hm
      simp only [mayB, Bool.and_eq_true, decide_eq_true_eq] at hmb
      obtain ⟨wd, rfl⟩ := Int.eq_ofNat_of_zero_le (show 0 ≤ width by omega)
      obtain ⟨ky, rfl⟩ := Int.eq_ofNat_of_zero_le (show 0 ≤ key by omega)
      rw [Int.toNat_natCast] at hs ho
      have hz : ∀ x ∈ xs, x.size = wd := fun x hx => by have := oddFrom_none hi x hx; omega
      have hy : ∀ x ∈ ys, x.size = wd := fun x hx => hz x (hp.mem_iff.1 hx)
      have hpp := hp.trans hp2.symm
      have heq := newE_perm hpp hs ho.sorted hy hm
      rw [← heq] at hB
      cases hn : newE wd ky (catB ys) with
      | none =>
        rw [hn] at hA hB
        have hri := (newE_rising hy hm).1 hn
        obtain rfl := rising_unique hpp.symm ho.sorted hri
        refine ⟨none, zs, hA, hB, (fun k a h => by cases h), fun _ => ⟨hm, ?_, ?_, rfl, ?_⟩⟩
        · rw [Int.toNat_natCast]; exact hy
        · rw [Int.toNat_natCast]; exact hri
        · rw [hp.length_eq]; omega
      | some q =>
        rw [hn] at hA hB
        refine ⟨some q, ys, hA, ⟨hB.1, hB.2⟩, (fun k a h => ?_), fun h => by cases h⟩
        cases h
        exact newE_kinds hn

set_option maxHeartbeats 1000000 in
set_option maxRecDepth 100000 in
theorem builds_any (width key : Int) (a : Option Addr) (cap : Nat) (xs : List ByteArray) (w : World) (hv : ErrVar w) (hs : StrsAt w a xs) (hl : xs.length ≤ 100) (hz : ∀ x ∈ xs, x.size ≤ 100) :
    Calls Tryd.prog 22 #[.int .i64 width, .int .i64 key, .slice a xs.length cap] w fun e w' => e = .returned (.bool true) ∧ Below w.heap.size w w' := by
  have HBT := Lib.hid (build_tab width key a cap xs w hs (by omega) (fun x hx => by have := hz x hx; omega))
  have HRB := Lib.hid (fun (W : World) (hb : Below w.heap.size w W) => refbuild_any width key a cap xs W (hs.below hb) hl hz)
  have HLK := Lib.hid (fun (W1 W2 : World) (x y : Value) (e' : Ending) (hA : BuildPost w width key xs (.returned (.tuple #[x, y])) W1) (hB : RefBuilt W1 width key xs e' W2) => by
    obtain ⟨r, ys, h1, h2, h3, h4⟩ := built_same hA hB hl
    exact looks_any width key r (catB ys) ys x y e' w W1 W2 h1 h2 h3 h4 hv)
  clear hs hl hz hv
  go_enter Tryd.func22, Tryd.ntmps22
  go_wp2_with fail
  refine HBT.out.mono ?_
  intro e W1 hA
  obtain ⟨x, y, rfl⟩ := hA.tuple
  have HA := Lib.hid hA
  have hb1 : Below w.heap.size w W1 := by
    rcases hA with ⟨_, h⟩ | ⟨i, _, _, h⟩ | ⟨ys, _, _, _, _, h⟩ <;> exact h.1
  have HR1 := Lib.hid (HRB.out W1 hb1)
  clear hA hb1
  go_wp2_with fail
  refine HR1.out.mono ?_
  intro e' W2 hB
  obtain ⟨hb2, a2, n2, c2, k2, p2, rfl, hlk⟩ := HLK.out W1 W2 x y e' HA.out hB
  have HL := Lib.hid hlk
  have HB := Lib.hid hb2
  clear hB hlk hb2
  go_wp2_with fail
  refine HL.out.mono ?_
  rintro e W3 ⟨rfl, hb3⟩
  have HB3 := Lib.hid (HB.out.trans (hb3.mono HB.out.size))
  clear hb3
  go_wp2_with fail
  go_ret
  exact ⟨rfl, HB3.out⟩

set_option maxHeartbeats 1000000 in
set_option maxRecDepth 100000 in
theorem news_any (width key : Int) (s : ByteArray) (w : World) (hv : ErrVar w) (hs : s.size ≤ 1000) :
    Calls Tryd.prog 23 #[.int .i64 width, .int .i64 key, .string s] w fun e w' => e = .returned (.bool true) ∧ Below w.heap.size w w' := by
  have HBT := Lib.hid (new_tab width key s w (by omega))
  have HRB := Lib.hid (fun (W : World) => refnew_any width key s W (by omega))
  have HLK := Lib.hid (fun (W1 W2 : World) (x y : Value) (e' : Ending) (hA : TabPost w (newE width key s) width key s (.returned (.tuple #[x, y])) W1) (hB : RefPost W1 (newE width key s) (rowsL s width.toNat (s.size / width.toNat)) e' W2) => by
    refine looks_any width key (newE width key s) s _ x y e' w W1 W2 hA hB (fun k a h => newE_kinds h) (fun h => ?_) hv
    obtain ⟨hm, hmod⟩ := newE_ok h
    have hmb := hm
    simp only [mayB, Bool.and_eq_true, decide_eq_true_eq] at hmb
    obtain ⟨wd, rfl⟩ := Int.eq_ofNat_of_zero_le (show 0 ≤ width by omega)
    obtain ⟨ky, rfl⟩ := Int.eq_ofNat_of_zero_le (show 0 ≤ key by omega)
    rw [Int.toNat_natCast] at hmod ⊢
    have hdm : s.size / wd * wd = s.size := by have := Nat.div_add_mod s.size wd; rw [Nat.mul_comm]; omega
    have hz := rowsL_size hdm
    have hcb := catB_rowsL hdm
    refine ⟨hm, hz, ?_, hcb, ?_⟩
    · rw [Int.toNat_natCast]
      exact (newE_rising hz hm).1 (by rw [hcb]; exact h)
    · rw [rowsL_length]
      have := Nat.div_le_self s.size wd
      omega)
  clear hs hv
  go_enter Tryd.func23, Tryd.ntmps23
  go_wp2_with fail
  refine HBT.out.mono ?_
  intro e W1 hA
  obtain ⟨x, y, rfl, -⟩ := hA.tuple
  have HA := Lib.hid hA
  clear hA
  go_wp2_with fail
  refine (HRB.out W1).mono ?_
  intro e' W2 hB
  obtain ⟨hb2, a2, n2, c2, k2, p2, rfl, hlk⟩ := HLK.out W1 W2 x y e' HA.out hB
  have HL := Lib.hid hlk
  have HB := Lib.hid hb2
  clear hB hlk hb2
  go_wp2_with fail
  refine HL.out.mono ?_
  rintro e W3 ⟨rfl, hb3⟩
  have HB3 := Lib.hid (HB.out.trans (hb3.mono HB.out.size))
  clear hb3
  go_wp2_with fail
  go_ret
  exact ⟨rfl, HB3.out⟩

end Go.Proofs.YtfeikolfdggnfaaDoor

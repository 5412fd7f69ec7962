/- The chapter's example is as it says. -/
import Derived.Test.YtfeikolfdggnfaaDoorTp
import Derived.Test.YtfeikolfdggnfaaDoorTl
namespace Go.Proofs.YtfeikolfdggnfaaDoor
open Go.RowKit Go.Shelf

/-- What Build hands back where all goes well, or not: in plain words. -/
theorem BuildPost.ok {w : World} {wd key : Nat} {xs : List ByteArray} {e : Ending} {w' : World} (h : BuildPost w wd key xs e w') (hm : mayB wd key = true) (hz : ∀ x ∈ xs, x.size = wd) (hl : xs.length ≤ 100000) :
    Below w.heap.size w w' ∧ ∃ ys, ys.Perm xs ∧ SortedK key ys ∧
      ((∃ g, w.heap.size ≤ g ∧ Rising key ys ∧ e = .returned (.tuple #[.pointer (some ⟨g, 0, none⟩), .nilIface]) ∧ TabAt w' g wd key (catB ys) ∧ TabOk wd key (catB ys) ys.length) ∨
       (∃ g a, w.heap.size ≤ g ∧ ¬ Rising key ys ∧ e = .returned (.tuple #[.pointer none, faultV g]) ∧ w'.heap[g]? = some (faultObj 13 a tableWord))) := by
  rcases h with ⟨h1, _⟩ | ⟨i, _, h1, _⟩ | ⟨ys, _, _, hp, hs, hb, h⟩
  · rw [hm] at h1; cases h1
  · have : oddFrom wd xs xs.length 0 = none := by
      have : ∀ (m i : Nat), i + m = xs.length → oddFrom (wd : Int) xs m i = none := by
        intro m
        induction m with
        | zero => intro i _; rfl
        | succ m ih =>
          intro i hi
          simp only [oddFrom]
          have hlt : i < xs.length := by omega
          have := hz xs[i] (List.getElem_mem hlt)
          rw [if_pos hlt, if_pos (by simp [hlt, this])]
          exact ih (i + 1) (by omega)
      exact this _ _ (by omega)
    rw [this] at h1; cases h1
  · have hz' : ∀ x ∈ ys, x.size = wd := fun x hx => hz x (hp.mem_iff.1 hx)
    have hl' : ys.length ≤ 100000 := by rw [hp.length_eq]; exact hl
    refine ⟨hb, ys, hp, by simpa using hs, ?_⟩
    cases hn : newE wd key (catB ys) with
    | none =>
      rw [hn] at h
      obtain ⟨g, h1, h2, h3⟩ := h
      exact .inl ⟨g, h1, (newE_rising hz' hm).1 hn, h2, h3, tabOk_cat hz' hm hl'⟩
    | some p =>
      obtain ⟨k, a⟩ := p
      rw [hn] at h
      obtain ⟨g, h1, h2, h3⟩ := h
      obtain rfl := newE_kind hz' hm hn
      exact .inr ⟨g, a, h1, (fun hr => by rw [(newE_rising hz' hm).2 hr] at hn; cases hn), h2, h3⟩

def bB01 : ByteArray := ⟨#[98, 48, 49]⟩
def bA12 : ByteArray := ⟨#[97, 49, 50]⟩
def bA03 : ByteArray := ⟨#[97, 48, 51]⟩
def bAll : ByteArray := ⟨#[97, 48, 51, 97, 49, 50, 98, 48, 49]⟩
def bA1 : ByteArray := ⟨#[97, 49]⟩

theorem aw_sizes : ∀ x ∈ [bB01, bA12, bA03], x.size = 3 := by
  intro x hx; simp only [List.mem_cons, List.not_mem_nil, or_false] at hx; rcases hx with rfl | rfl | rfl <;> rfl

theorem aw_rising : Rising 2 [bA03, bA12, bB01] := by
  intro i hi
  simp only [List.length_cons, List.length_nil] at hi
  have h : i = 0 ∨ i = 1 := by omega
  rcases h with rfl | rfl <;> (simp only [keyL, toList_extract, List.getElem_cons_zero, List.getElem_cons_succ]; decide)

theorem aw_cat : catB [bA03, bA12, bB01] = bAll := by decide

theorem aw_key (i : Nat) (hi : i < 3) : (keyB bAll 3 2 i).toList = [[97, 48], [97, 49], [98, 48]].getD i [] := by
  unfold keyB rowB
  rw [toList_extract, ByteArray.data_extract]
  have h : i = 0 ∨ i = 1 ∨ i = 2 := by omega
  rcases h with rfl | rfl | rfl <;> decide

theorem aw_from {r : Nat} (h : FromOf bAll 3 2 3 bA1 r) : r = 1 := by
  have h1 := h.le
  have hb : bA1.toList = [97, 49] := by rw [ByteArray.toList_eq]; rfl
  have h4 : r = 0 ∨ r = 1 ∨ r = 2 ∨ r = 3 := by omega
  rcases h4 with rfl | rfl | rfl | rfl
  · have := h.at_ (by omega); rw [aw_key 0 (by omega), hb] at this; exact absurd this (by decide)
  · rfl
  · have := h.below (by omega); rw [aw_key 1 (by omega), hb] at this; exact absurd this (by decide)
  · have := h.below (by omega); rw [aw_key 2 (by omega), hb] at this; exact absurd this (by decide)

theorem aw_find : findV bAll 3 2 3 bA1 1 = .tuple #[.string bA12, .bool true] := by
  have hb : bA1.toList = [97, 49] := by rw [ByteArray.toList_eq]; rfl
  unfold findV
  rw [if_pos ⟨by omega, by rw [aw_key 1 (by omega), hb]; rfl⟩]
  have : rowB bAll 3 1 = bA12 := by decide
  rw [this]

theorem aw_build {w w' : World} {e : Ending} (h : BuildPost w 3 2 [bB01, bA12, bA03] e w') : ∃ g, e = .returned (.tuple #[.pointer (some ⟨g, 0, none⟩), .nilIface]) ∧ TabAt w' g 3 2 bAll ∧ Below w.heap.size w w' := by
  obtain ⟨hb, ys, hp, hs, h⟩ := BuildPost.ok (wd := 3) (key := 2) h (by decide) aw_sizes (by simp)
  have hpz : ys.Perm [bA03, bA12, bB01] := hp.trans (by decide)
  obtain rfl := rising_unique hpz hs aw_rising
  rcases h with ⟨g, _, _, h1, h2, _⟩ | ⟨g, a, _, h1, _⟩
  · rw [aw_cat] at h2; exact ⟨g, h1, h2, hb⟩
  · exact absurd aw_rising h1

set_option maxHeartbeats 1000000 in
set_option maxRecDepth 100000 in
theorem awake_any (w : World) : Calls Tryd.prog 8 #[] w fun e w' => e = .returned (.bool true) ∧ Below w.heap.size w w' := by
  have hb0 : Below w.heap.size w (w.alloc (.cells #[.string bB01, .string bA12, .string bA03] 9)) := (Below.refl _ _).alloc (Nat.le_refl _) _
  have hs : StrsAt (w.alloc (.cells #[.string bB01, .string bA12, .string bA03] 9)) (some ⟨w.heap.size, 0, none⟩) [bB01, bA12, bA03] := by
    intro i hi
    simp only [List.length_cons, List.length_nil] at hi
    have h : i = 0 ∨ i = 1 ∨ i = 2 := by omega
    refine ⟨w.heap.size, 0, rfl, ?_⟩
    rw [Nat.zero_add, World.cell?_alloc_new]
    rcases h with rfl | rfl | rfl <;> rfl
  have hB := (build_tab 3 2 (some ⟨w.heap.size, 0, none⟩) 3 [bB01, bA12, bA03] _ hs (by simp) (fun x hx => by rw [aw_sizes x hx]; omega)).mono fun e w' h => aw_build h
  have HB := Lib.hid hB
  have H0 := Lib.hid hb0
  clear hB hs hb0
  unfold bB01 bA12 bA03 at HB H0
  have hok : TabOk 3 2 bAll 3 := ⟨rfl, by decide, by omega, by omega, by omega, by omega⟩
  go_enter Tryd.func8, Tryd.ntmps8
  go_wp2_with fail
  refine HB.out.mono ?_
  rintro e w1 ⟨g, rfl, hT, hb1⟩
  have H1 := Lib.hid (H0.out.trans (hb1.mono H0.out.size))
  have HF := Lib.hid (find_any g 3 2 3 bAll bA1 w1 hok (by decide) hT)
  have HT := Lib.hid hT
  unfold bA1 at HF
  clear HB H0 hb1 hT hok
  go_wp2_with fail
  refine HF.out.mono ?_
  rintro e w2 ⟨r, hr, rfl, hb2⟩
  obtain rfl := aw_from hr
  rw [show findV bAll 3 2 3 { data := #[97, 49] } 1 = _ from aw_find]
  have H2 := Lib.hid (H1.out.trans (hb2.mono H1.out.size))
  have HT2 := Lib.hid (HT.out.below hb2)
  have hx1 : (bAll.toList == [97, 48, 51, 97, 49, 50, 98, 48, 49]) = true := by rw [ByteArray.toList_eq]; rfl
  have hx2 : (bA12.toList == [97, 49, 50]) = true := by rw [ByteArray.toList_eq]; rfl
  clear hr hb2 HF
  go_wp2_with (go_at_call 19; refine (bytes_any g 3 2 bAll w2 HT2.out).mono ?_; rintro e w' ⟨rfl, n, rfl⟩)
  go_ret
  exact ⟨rfl, below_drewN H2.out _⟩

end Go.Proofs.YtfeikolfdggnfaaDoor

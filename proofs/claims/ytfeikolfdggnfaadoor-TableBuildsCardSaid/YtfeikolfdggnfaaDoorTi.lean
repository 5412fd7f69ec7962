/- Build: a table of rows, or what is wrong. -/
import Derived.Test.YtfeikolfdggnfaaDoorTh
import Derived.Deep.RegionWith
namespace Go.Proofs.YtfeikolfdggnfaaDoor
open Go.RowKit Go.Shelf Go.Sort

/-- All rows, one behind the other. -/
def catB (ys : List ByteArray) : ByteArray := ⟨(ys.flatMap (·.data.toList)).toArray⟩

theorem catB_size (ys : List ByteArray) : (catB ys).size = (ys.flatMap (·.data.toList)).length := by
  show (List.toArray _).size = _; simp

theorem join_plain : ∀ (l : List (List UInt8)), Lib.join l [] = l.flatten
  | [] => rfl
  | [x] => by simp [Lib.join]
  | x :: y :: l => by have := join_plain (y :: l); simp [Lib.join, List.intercalate] at this ⊢; exact this

theorem StrsAt.some {w : World} {a : Option Addr} {xs : List ByteArray} (h : StrsAt w a xs) (hx : xs ≠ []) : ∃ b off, a = some ⟨b, off, none⟩ ∧ b < w.heap.size ∧ ∀ i (hi : i < xs.length), w.cell? ⟨b, off + i, none⟩ = some (.string xs[i]) := by
  obtain ⟨b, off, ha, hc⟩ := h 0 (List.length_pos_iff.2 hx)
  refine ⟨b, off, ha, World.block_lt_of_cell? w _ hc, fun i hi => ?_⟩
  obtain ⟨b', off', ha', hc'⟩ := h i hi
  rw [ha] at ha'
  cases ha'
  exact hc'

theorem clone_any (a : Option Addr) (cap : Nat) (xs : List ByteArray) (w : World) (h : StrsAt w a xs) (hl : xs.length ≤ 8000000000000) :
    Calls Tryd.prog 28 #[.slice a xs.length cap] w fun e w' => ∃ v, e = .returned v ∧ OwnS w' w.heap.size v xs ∧ Below w.heap.size w w' := by
  by_cases hx : xs = []
  · subst hx
    rcases a with _ | a
    · refine (Tryd.slices_Clone_string_nil 0 cap w).mono ?_
      rintro e w' ⟨rfl, rfl⟩
      exact ⟨_, rfl, World.ownsRow_nil _ _ _ _, Below.refl _ _⟩
    · refine (Tryd.slices_Clone_string_zero a cap w).mono ?_
      rintro e w' ⟨v, rfl, h1, _, h2⟩
      exact ⟨v, rfl, h1, h2⟩
  · obtain ⟨b, off, rfl, hb, hc⟩ := h.some hx
    refine (Tryd.slices_Clone_string b off xs.length cap xs w (Nat.le_refl _) (by omega) (fun j hj => by rw [hc j hj]; simp [hj])).mono ?_
    rintro e w' ⟨v, rfl, h1, _, h2⟩
    exact ⟨v, rfl, by simpa [OwnS] using h1, h2⟩

theorem join_any (a : Option Addr) (cap : Nat) (xs : List ByteArray) (w : World) (h : StrsAt w a xs) (hcap : xs.length ≤ cap) (hl : xs.length ≤ 8000000000000) (hz : (catB xs).size ≤ 140737488355328) :
    Calls Tryd.prog 32 #[.slice a xs.length cap, .string ⟨#[]⟩] w fun e w' => e = .returned (.string (catB xs)) ∧ Below w.heap.size w w' := by
  by_cases hx : xs = []
  · subst hx
    refine (Tryd.strings_Join_none a cap _ w).mono ?_
    rintro e w' ⟨rfl, rfl⟩
    exact ⟨rfl, Below.refl _ _⟩
  · obtain ⟨b, off, rfl, hb, hc⟩ := h.some hx
    have e1 : Lib.join (xs.map (·.data.toList)) (⟨#[]⟩ : ByteArray).data.toList = xs.flatMap (·.data.toList) := by
      rw [show (⟨#[]⟩ : ByteArray).data.toList = [] from rfl, join_plain]; rfl
    refine (Tryd.strings_Join b off cap xs ⟨#[]⟩ w (fun j x hj => by obtain ⟨hj2, rfl⟩ := List.getElem?_eq_some_iff.1 hj; exact hc j hj2) hb (by omega) hcap (by rw [e1, ← catB_size]; exact hz)).mono ?_
    rintro e w' ⟨rfl, h2⟩
    exact ⟨by rw [e1]; rfl, h2⟩

/-- The first row from i on that is not so long. -/
def oddFrom (width : Int) (xs : List ByteArray) : Nat → Nat → Option Nat
  | 0, _ => none
  | m + 1, i => if i < xs.length then (if ((xs.getD i ⟨#[]⟩).size : Int) = width then oddFrom width xs m (i + 1) else some i) else none

def BuildPost (w : World) (width key : Int) (xs : List ByteArray) (e : Ending) (w' : World) : Prop :=
  (mayB width key = false ∧ TabPost w (some (1, 0)) width key ⟨#[]⟩ e w') ∨
  (∃ i, mayB width key = true ∧ oddFrom width xs xs.length 0 = some i ∧ TabPost w (some (12, (i : Int))) width key ⟨#[]⟩ e w') ∨
  (∃ ys, mayB width key = true ∧ oddFrom width xs xs.length 0 = none ∧ ys.Perm xs ∧ SortedK key.toNat ys ∧ TabPost w (newE width key (catB ys)) width key (catB ys) e w')

set_option maxHeartbeats 400000 in
theorem build_arg (width key : Int) (a : Option Addr) (n cap : Nat) (xs : List ByteArray) (w : World) (h : mayB width key = false) :
    Calls Tryd.prog 12 #[.int .i64 width, .int .i64 key, .slice a n cap] w (BuildPost w width key xs) := by
  have hm := may_any width key
  rw [h] at hm
  have HM := Lib.hid hm
  have HH := Lib.hid h
  clear hm h
  go_enter Tryd.func12, Tryd.ntmps12
  go_wp2_with (first | (go_at_call 26; refine (HM.out _).mono ?_; rintro e w' ⟨rfl, n, rfl⟩) | (go_at_call 27; refine (wrong_any 1 0 _ (by decide)).mono ?_; rintro e w' ⟨rfl, rfl⟩))
  go_ret2
  exact .inl ⟨HH.out, TabPost.wrong (W := (w.alloc _).drewN _) (below_drewN ((Below.refl _ _).alloc (Nat.le_refl _) _) _) (by simp)⟩

theorem oddFrom_go {width : Int} {xs : List ByteArray} {k : Nat} (hk : k < xs.length) (h : (xs[k].size : Int) = width) : oddFrom width xs (xs.length - k) k = oddFrom width xs (xs.length - (k + 1)) (k + 1) := by
  rw [show xs.length - k = (xs.length - (k + 1)) + 1 by omega]; simp only [oddFrom]; rw [if_pos hk, if_pos (by simpa [hk] using h)]

theorem oddFrom_stop {width : Int} {xs : List ByteArray} {k : Nat} (hk : k < xs.length) (h : (xs[k].size : Int) ≠ width) : oddFrom width xs (xs.length - k) k = some k := by
  rw [show xs.length - k = (xs.length - (k + 1)) + 1 by omega]; simp only [oddFrom]; rw [if_pos hk, if_neg (by simpa [hk] using h)]

theorem OwnS.cap {w : World} {base : Nat} {v : Value} {xs : List ByteArray} (h : OwnS w base v xs) (a : Option Addr) (n c : Nat) (e : v = .slice a n c) : xs.length ≤ c := by
  rcases h.2 with ⟨rfl, h0⟩ | ⟨g, cap, cur, rfl, _, _, h1, _⟩
  · cases e; omega
  · cases e; exact h1

theorem catB_size_le (ys : List ByteArray) (m : Nat) (h : ∀ x ∈ ys, x.size ≤ m) : (catB ys).size ≤ ys.length * m := by
  rw [catB_size]
  induction ys with
  | nil => simp
  | cons y ys ih =>
    have h1 := ih (fun x hx => h x (List.mem_cons_of_mem _ hx))
    have h2 := h y List.mem_cons_self
    rw [List.flatMap_cons, List.length_append, List.length_cons, Nat.add_mul, Nat.one_mul]
    have h3 : y.data.toList.length = y.size := by rw [Array.length_toList]; rfl
    omega

theorem TabPost.tuple {w : World} {r : Option (Int × Int)} {width key : Int} {bytes : ByteArray} {e : Ending} {w' : World} (h : TabPost w r width key bytes e w') : ∃ x y, e = .returned (.tuple #[x, y]) ∧ TabPost w r width key bytes (.returned (.tuple #[x, y])) w' := by
  have h0 := h
  obtain ⟨hb, h⟩ := h
  rcases r with _ | ⟨k, a⟩
  · obtain ⟨g, h1, rfl, h2⟩ := h; exact ⟨_, _, rfl, h0⟩
  · obtain ⟨g, h1, rfl, h2⟩ := h; exact ⟨_, _, rfl, h0⟩

theorem TabPost.back {w0 w : World} {r : Option (Int × Int)} {width key : Int} {bytes : ByteArray} {e : Ending} {w' : World} (h : TabPost w r width key bytes e w') (hb : Below w0.heap.size w0 w) : TabPost w0 r width key bytes e w' := by
  obtain ⟨hb1, h⟩ := h
  refine ⟨hb.trans (hb1.mono hb.size), ?_⟩
  rcases r with _ | ⟨k, a⟩
  · obtain ⟨g, h1, h2, h3⟩ := h; exact ⟨g, Nat.le_trans hb.size h1, h2, h3⟩
  · obtain ⟨g, h1, h2, h3⟩ := h; exact ⟨g, Nat.le_trans hb.size h1, h2, h3⟩

theorem oddFrom_none_at {width : Int} {xs : List ByteArray} : ∀ (m i : Nat), i + m = xs.length → oddFrom width xs m i = none → ∀ j (hj : j < xs.length), i ≤ j → (xs[j].size : Int) = width
  | 0, i, hm, _, j, hj, hij => by omega
  | m + 1, i, hm, h, j, hj, hij => by
    simp only [oddFrom] at h
    rw [if_pos (by omega)] at h
    by_cases hc : ((xs.getD i ⟨#[]⟩).size : Int) = width
    · rw [if_pos hc] at h
      rcases Nat.eq_or_lt_of_le hij with rfl | hlt
      · simpa [hj] using hc
      · exact oddFrom_none_at m (i + 1) (by omega) h j hj hlt
    · rw [if_neg hc] at h; cases h

theorem oddFrom_none {width : Int} {xs : List ByteArray} (h : oddFrom width xs xs.length 0 = none) : ∀ x ∈ xs, (x.size : Int) = width := by
  intro x hx
  obtain ⟨j, hj, rfl⟩ := List.getElem_of_mem hx
  exact oddFrom_none_at xs.length 0 (by omega) h j hj (by omega)

set_option maxHeartbeats 1000000 in
set_option maxRecDepth 100000 in
theorem build_tab (width key : Int) (a : Option Addr) (cap : Nat) (xs : List ByteArray) (w : World) (hs : StrsAt w a xs) (hl : xs.length ≤ 100000) (hz : ∀ x ∈ xs, x.size ≤ 100000) :
    Calls Tryd.prog 12 #[.int .i64 width, .int .i64 key, .slice a xs.length cap] w (BuildPost w width key xs) := by
  cases h : mayB width key with
  | false => exact build_arg width key a _ cap xs w h
  | true =>
    have hm := may_any width key
    rw [h] at hm
    have HM := Lib.hid hm
    have HH := Lib.hid h
    have hmb := h
    simp only [mayB, Bool.and_eq_true, decide_eq_true_eq] at hmb
    obtain ⟨hk1, hk2, hw⟩ := hmb
    clear hm h
    have hmf : ∀ (fn : Fn) (first cap : Array Value) (w : World), (Instr.makeFunc fn first cap).run Tryd.prog w = .ok (.func fn first cap) w := fun _ _ _ _ => rfl
    go_enter Tryd.func12, Tryd.ntmps12
    go_wp2_with (first | (go_at_call 26; refine (HM.out _).mono ?_; rintro e w' ⟨rfl, n, rfl⟩))
    have hW : ∃ W, (w.alloc (.cells #[.int .i64 key] 3)).drewN n = W ∧ Below w.heap.size w W ∧ W.heap.size = w.heap.size + 1 ∧ W.cell? ⟨w.heap.size, 0, none⟩ = some (.int .i64 key) ∧ StrsAt W a xs :=
      ⟨_, rfl, below_drewN ((Below.refl _ _).alloc (Nat.le_refl _) _) _, by simp, World.cell?_alloc_new _ _ _ 0, hs.below (below_drewN ((Below.refl _ _).alloc (Nat.le_refl _) _) _)⟩
    obtain ⟨W, hWe, hb1, hz1, hc1, hs1⟩ := hW
    rw [hWe]
    have HZ1 := Lib.hid hz1
    have HB1 := Lib.hid hb1
    clear hWe hb1 hz1 hs
    go_loop [18] (fun i => ∃ k : Nat, i = .int .i64 k ∧ k ≤ xs.length ∧ Hid (oddFrom width xs xs.length 0 = oddFrom width xs (xs.length - k) k)) (fun i => xs.length - (intOf i).toNat)
    case atStart => exact ⟨0, rfl, by omega, rfl⟩
    case round =>
      obtain ⟨k, rfl, hk, HO⟩ := hrel
      by_cases hlt : k < xs.length
      · obtain ⟨b, off, rfl, hc⟩ := hs1 k hlt
        have hzk := hz xs[k] (List.getElem_mem hlt)
        have HGO := Lib.hid (oddFrom_go (width := width) hlt)
        have HST := Lib.hid (oddFrom_stop (width := width) hlt)
        clear hs1 hz
        generalize xs[k] = s at *
        by_cases hne : (s.size : Int) = width
        · have HE := Lib.hid (HO.out.trans (HGO.out hne))
          have hb : ((s.size : Int) != width) = false := by simp [hne]
          clear hne
          go_wp2
          go_round
          case rel => exact ⟨k + 1, by go_num, by omega, HE.out⟩
          case measure => simp [intOf]; omega
        · have HE := Lib.hid (HO.out.trans (HST.out hne))
          have hb : ((s.size : Int) != width) = true := by simp [hne]
          clear hne
          go_wp2_with (first | (go_at_call 27; refine (wrong_any 12 _ _ (by decide)).mono ?_; rintro e w' ⟨rfl, rfl⟩))
          go_ret2
          exact .inr (.inl ⟨k, HH.out, HE.out, TabPost.wrong HB1.out⟩)
      · have hkn : k = xs.length := by omega
        have HE := Lib.hid (show oddFrom width xs xs.length 0 = none by rw [HO.out, hkn, Nat.sub_self]; rfl)
        clear HO hkn
        go_wp2_with fail
        refine (clone_any a cap xs W hs1 (by omega)).mono ?_
        rintro e w1 ⟨v1, rfl, hown1, hb1⟩
        have hc2 : w1.cell? ⟨w.heap.size, 0, none⟩ = some (.int .i64 key) := (hb1.cell (World.block_lt_of_cell? W _ hc1)).trans hc1
        have hz2 := hb1.size
        have HB2 := Lib.hid (HB1.out.trans (hb1.mono HB1.out.size))
        have hzz : ∀ x ∈ xs, (x.size : Int) = width := oddFrom_none HE.out
        obtain ⟨kk, rfl⟩ := Int.eq_ofNat_of_zero_le (show 0 ≤ key by omega)
        have hsort := sort_any kk W.heap.size (by omega) v1 xs ⟨w.heap.size, 0, none⟩ w1 hown1 (fun x hx => by have := hzz x hx; have h2 := hz x hx; unfold maxLen; omega) hc2 (by have := HZ1.out; show w.heap.size < _; omega) hz2 (by omega)
        have HS := Lib.hid hsort
        have HZZ := Lib.hid hzz
        clear hsort hzz hown1 hb1 hs1 hz hc1 hlt hk
        go_wp2_with fail
        refine HS.out.mono ?_
        rintro e w2 ⟨rfl, ys, hp, hso, hown2, hb2⟩
        have hc3 : w2.cell? ⟨w.heap.size, 0, none⟩ = some (.int .i64 kk) := (hb2.cell (p := ⟨w.heap.size, 0, none⟩) (by have := HZ1.out; show w.heap.size < _; omega)).trans hc2
        have HB3 := Lib.hid (HB2.out.trans (hb2.mono HB1.out.size))
        clear HS
        have hcap := hown2.cap
        obtain ⟨a1, cap1, rfl, hs2⟩ := hown2.strs
        have hcap2 := hcap _ _ _ rfl
        have hyl : ys.length = xs.length := hp.length_eq
        have hysz : (catB ys).size ≤ 140737488355328 := by
          have := catB_size_le ys 255 (fun x hx => by have := HZZ.out x (hp.mem_iff.1 hx); omega)
          omega
        have HJ := Lib.hid (join_any a1 cap1 ys w2.drew (hs2.below (Below.refl _ _).drew) hcap2 (by omega) hysz)
        have HN := Lib.hid (fun (W' : World) => (new_tab width kk (catB ys) W' hysz).mono fun _ _ h => TabPost.tuple h)
        have HC := Lib.hid (fun (W' : World) (hb : Below w2.drew.heap.size w2.drew W') => (hb.cell (World.block_lt_of_cell? w2.drew _ (show w2.drew.cell? ⟨w.heap.size, 0, none⟩ = _ from hc3))).trans (show w2.drew.cell? ⟨w.heap.size, 0, none⟩ = _ from hc3))
        have HP := Lib.hid hp
        have HSO := Lib.hid hso
        have HYL := Lib.hid hyl
        clear hp hso hyl hcap hcap2 hs2 hown2 hysz
        go_wp2_with fail
        go_region_with (first | (go_at_call 32; refine HJ.out.mono ?_; rintro e w3 ⟨rfl, hb3⟩; have hc4 := HC.out w3 hb3) | (go_at_call 18; refine (HN.out _).mono ?_; rintro e w4 ⟨x, y, rfl, hpost⟩))
        all_goals
          go_wp2
          go_ret2
          exact .inr (.inr ⟨ys, HH.out, HE.out, HP.out, HSO.out, hpost.back (HB3.out.trans ((Below.refl _ _).drew.trans (hb3.mono HB3.out.size)))⟩)

end Go.Proofs.YtfeikolfdggnfaaDoor

/- TableBuilds, walked. -/
import Derived.Test.YtfeikolfdggnfaaDoorFo
import Derived.Deep.RegionHeld3
namespace Go.Proofs.YtfeikolfdggnfaaDoor
open Go.RowKit Go.Shelf

set_option maxHeartbeats 4000000 in
set_option maxRecDepth 100000 in
theorem buildsL_any (a : Option Addr) (cap : Nat) (l : List ByteArray) (s : ByteArray) (q0 q1 q2 q3 : Int) (w : World) (hv : ErrVar w) (hl : l.length ≤ 9223372036854775807) (hz : ∀ x ∈ l, x.size ≤ maxLen) (h : StrsAt w a l) (hsz : s.size ≤ maxLen) :
    Calls Tryd.prog 7 #[.slice a l.length cap, .string s, .agg #[.int .i64 q0, .int .i64 q1, .int .i64 q2, .int .i64 q3]] w fun e w' => e = .returned (.bool true) ∧ Below w.heap.size w w' := by
  have HV := Lib.hid hv
  have HS := Lib.hid h
  have HL := Lib.hid hl
  have HZ := Lib.hid hz
  have HSS := Lib.hid hsz
  clear hv h hl hz hsz
  go_enter Tryd.func7, Tryd.ntmps7
  go_wp2_with fail
  refine (awake_any _).mono ?_
  rintro e W1 ⟨rfl, hb1⟩
  have hS1 := (BoxQ.start w [.int .i64 q0, .int .i64 q1, .int .i64 q2, .int .i64 q3] 23).next hb1
  have H1 := Lib.hid hS1
  clear hb1
  have d0 := hS1.c 0 _ rfl
  clear hS1
  go_wp2_with fail
  refine (rest_any q0 10 W1 (by omega) (by omega)).mono ?_
  rintro e W2 ⟨rfl, m1, rfl⟩
  have hS2 := H1.out.next (below_drewN (Below.refl _ _) m1)
  generalize W1.drewN m1 = W2 at hS2 ⊢
  have d1 := hS2.c 1 _ rfl
  have H2 := Lib.hid hS2
  clear hS2 d0
  go_wp2_with fail
  refine (rest_any q1 10 W2 (by omega) (by omega)).mono ?_
  rintro e W3 ⟨rfl, m2, rfl⟩
  have hS3 := H2.out.next (below_drewN (Below.refl _ _) m2)
  generalize W2.drewN m2 = W3 at hS3 ⊢
  have H3 := Lib.hid hS3
  clear hS3 d1
  go_wp2_with fail
  refine (short_any s W3 HSS.out).mono ?_
  rintro e W4 ⟨rfl, m3, rfl⟩
  have hS4 := H3.out.next (below_drewN (Below.refl _ _) m3)
  generalize W3.drewN m3 = W4 at hS4 ⊢
  have hsz : (s.extract 0 60).size ≤ 1000 := by rw [ByteArray.size_extract]; omega
  have d0 := hS4.c 0 _ rfl
  have d1 := hS4.c 1 _ rfl
  have d2 := hS4.c 2 _ rfl
  have H4 := Lib.hid hS4
  have HCL := Lib.hid (fun (W : World) (hb : Below W4.heap.size W4 W) => show W.cell? ⟨w.heap.size, 0, none⟩ = some (.int .i64 q0) ∧ W.cell? ⟨w.heap.size, 1, none⟩ = some (.int .i64 q1) ∧ W.cell? ⟨w.heap.size, 2, none⟩ = some (.int .i64 q2) from
    ⟨(hb.cell (World.block_lt_of_cell? W4 _ d0)).trans d0, (hb.cell (World.block_lt_of_cell? W4 _ d1)).trans d1, (hb.cell (World.block_lt_of_cell? W4 _ d2)).trans d2⟩)
  have HRO := Lib.hid (fun (W : World) (hb : Below W4.heap.size W4 W) (width bits : Int) => (rows_any a cap l W width bits HL.out HZ.out (HS.out.below (H4.out.next hb).b)).mono
    (R' := fun e w' => ∃ (a' : Option Addr) (n' cap' : Nat), e = .returned (.slice a' n' cap') ∧ Below W4.heap.size W4 w' ∧ ∀ (wd ky : Int), Calls Tryd.prog 22 #[.int .i64 wd, .int .i64 ky, .slice a' n' cap'] w' fun e w2 => e = .returned (.bool true) ∧ Below W4.heap.size W4 w2)
    (fun e w' h => by
      obtain ⟨v, xs, rfl, hown, hb2, hR⟩ := h
      obtain ⟨a', cap', rfl, hs'⟩ := hown.strs
      have hb3 := hb.trans (hb2.mono hb.size)
      refine ⟨a', xs.length, cap', rfl, hb3, fun wd ky => (builds_any wd ky a' cap' xs w' (HV.out.below (H4.out.next hb3).b) hs' ?_ (fun x hx => by have := hR.short x hx; omega)).mono fun e w2 h => ⟨h.1, hb3.trans (h.2.mono hb3.size)⟩⟩
      rw [hR.len]; simp [fewL]; omega))
  generalize s.extract 0 60 = st at hsz ⊢
  have HNW := Lib.hid (fun (W : World) (hb : Below W4.heap.size W4 W) (wd ky : Int) => (news_any wd ky st W (HV.out.below (H4.out.next hb).b) hsz).mono (R' := fun e w2 => e = .returned (.bool true) ∧ Below W4.heap.size W4 w2) fun e w2 h => ⟨h.1, hb.trans (h.2.mono hb.size)⟩)
  have hbd : Below W4.heap.size W4 W4.drew := (Below.refl _ _).drew
  clear hS4 hsz
  go_wp2_with fail
  go_region_held3 (fun w' => w'.cell? ⟨w.heap.size, 0, none⟩ = some (.int .i64 q0) ∧ w'.cell? ⟨w.heap.size, 1, none⟩ = some (.int .i64 q1) ∧ w'.cell? ⟨w.heap.size, 2, none⟩ = some (.int .i64 q2))
    (first | exact HCL.out _ (by assumption) | go_keep)
    (first
      | (go_at_call 11; refine (HRO.out _ (by assumption) _ _).mono ?_; rintro e w3 ⟨a', n', cap', rfl, hb3, hbu⟩; have HBU := Lib.hid hbu; clear hbu; have hS := HCL.out _ hb3)
      | (go_at_call 22; refine (HBU.out _ _).mono ?_; rintro e w3 ⟨rfl, hb3⟩; have hS := HCL.out _ hb3)
      | (go_at_call 23; refine (HNW.out _ (by assumption) _ _).mono ?_; rintro e w3 ⟨rfl, hb3⟩; have hS := HCL.out _ hb3))
  all_goals
    have HE := Lib.hid (H4.out.next (by assumption)).b
    go_wp2_with fail
    go_ret
    exact ⟨rfl, HE.out⟩

end Go.Proofs.YtfeikolfdggnfaaDoor

/- From where on the keys of a table stand; the iterator over all that begin so. -/
import Derived.Test.YtfeikolfdggnfaaDoorTc
import Derived.WalkSmall
import Derived.RangeFuncFrom
import Derived.Shelf.Abstract
import Derived.RangeFuncLeaves
import Derived.TacticsIn
import Derived.BigFrameIn
import Derived.LoopIn
import Derived.Sort.QuietIn
namespace Go.Proofs.YtfeikolfdggnfaaDoor
open Go.RowKit

/-- Where the first key stands that is not ahead of k. -/
structure FromOf (bytes : ByteArray) (wd key n : Nat) (k : ByteArray) (r : Nat) : Prop where
  le : r ≤ n
  below : 0 < r → Op.bytesLess (keyB bytes wd key (r - 1)).toList k.toList = true
  at_ : r < n → Op.bytesLess (keyB bytes wd key r).toList k.toList = false

set_option maxHeartbeats 400000 in
theorem from_any (g wd key n : Nat) (bytes k : ByteArray) (w : World) (ok : TabOk wd key bytes n) (h : TabAt w g wd key bytes) :
    Calls Tryd.prog 37 #[.pointer (some ⟨g, 0, none⟩), .string k] w fun e w' => ∃ r : Nat, FromOf bytes wd key n k r ∧ e = .returned (.int .i64 r) ∧ Below w.heap.size w w' := by
  have hb0 : Below w.heap.size w ((w.alloc (.cells #[.pointer (some ⟨g, 0, none⟩)] 31)).alloc (.cells #[.string k] 9)) := ((Below.refl _ _).alloc (Nat.le_refl _) _).alloc (by simp) _
  obtain ⟨W, hW⟩ : ∃ W, (w.alloc (.cells #[.pointer (some ⟨g, 0, none⟩)] 31)).alloc (.cells #[.string k] 9) = W := ⟨_, rfl⟩
  have h' : TabAt W g wd key bytes := by rw [← hW]; exact h.below hb0
  have hp : W.cell? ⟨w.heap.size, 0, none⟩ = some (.pointer (some ⟨g, 0, none⟩)) := by rw [← hW]; simp
  have hq : W.cell? ⟨w.heap.size + 1, 0, none⟩ = some (.string k) := by rw [← hW]; simp
  rw [hW] at hb0
  have hs := search_any n #[.pointer (some ⟨w.heap.size, 0, none⟩), .pointer (some ⟨w.heap.size + 1, 0, none⟩)] (fun i => !Op.bytesLess (keyB bytes wd key i).toList k.toList)
  have hmf : ∀ (fn : Fn) (first cap : Array Value) (w : World), (Instr.makeFunc fn first cap).run Tryd.prog w = .ok (.func fn first cap) w := fun _ _ _ _ => rfl
  have HW := Lib.hid hW
  have HB := Lib.hid hb0
  have HS := Lib.hid hs
  have HH := Lib.hid h'
  clear hs hb0 hW h h'
  go_enter Tryd.func37, Tryd.ntmps37
  go_wp2_with fail
  rw [HW.out]
  refine (len_any g wd key n bytes W ok HH.out).mono ?_
  rintro e w1 ⟨rfl, m0, rfl⟩
  go_wp2_with fail
  refine (HS.out (W.drewN m0) ?_ ?_).mono ?_
  · have := ok.hs; have h1 := Nat.div_le_self bytes.size wd; rw [ok.hn] at h1; omega
  · intro i m hi hi2
    rw [World.drewN_drewN]
    exact from1_any g wd key n i bytes k _ _ _ hi hi2 ok (HH.out.drewN _) (by simpa using hp) (by simpa using hq)
  · rintro e w2 ⟨r, hr, h1, h2, rfl, m, rfl⟩
    go_wp2
    go_ret
    refine ⟨r, ⟨hr, fun h => by simpa using h1 h, fun h => by simpa using h2 h⟩, rfl, below_drewN HB.out _⟩

set_option maxHeartbeats 400000 in
theorem prefix_any (g : Nat) (k : ByteArray) (w : World) :
    Calls Tryd.prog 16 #[.pointer (some ⟨g, 0, none⟩), .string k] w fun e w' => e = .returned (.func (.func 36) #[] #[.pointer (some ⟨w.heap.size, 0, none⟩), .pointer (some ⟨w.heap.size + 1, 0, none⟩)]) ∧
      (w.alloc (.cells #[.pointer (some ⟨g, 0, none⟩)] 31)).alloc (.cells #[.string k] 9) = w' := by
  have hmf : ∀ (fn : Fn) (first cap : Array Value) (w : World), (Instr.makeFunc fn first cap).run Tryd.prog w = .ok (.func fn first cap) w := fun _ _ _ _ => rfl
  go_enter Tryd.func16, Tryd.ntmps16
  go_wp2
  go_ret
  exact ⟨rfl, rfl⟩

theorem TabOk.nle {wd key n : Nat} {bytes : ByteArray} (ok : TabOk wd key bytes n) : n ≤ 140737488355328 := by
  have := ok.hs; have h1 := Nat.div_le_self bytes.size wd; rw [ok.hn] at h1; omega

theorem wide_call {n : Nat} {P : Program} {f : FuncId} {args : Array Value} {w : World} {R : Ending → World → Prop} (h : Calls P f args w R) :
    Fence.wide.fn f ∧ (Fence.wide.depth.isSome = true → 1 ≤ n) ∧ CallsIn Fence.wide (n - 1) P f args w R := ⟨trivial, fun h => by simp [Fence.wide] at h, callsIn_wide.2 h⟩

theorem wide_round {n : Nat} {P : Program} {l : Nat} {f : FuncId} {tmps : Array Value} {a b : Code} {w : World} {R : Ending → World → Prop} (h : RoundIn Fence.wide (n - 1) P l f tmps a b w R) :
    (Fence.wide.depth.isSome = true → 1 ≤ n) ∧ RoundIn Fence.wide (n - 1) P l f tmps a b w R := ⟨fun h => by simp [Fence.wide] at h, h⟩

/-- The rows' numbers from r on, as long as their keys begin so. -/
def runL (bytes : ByteArray) (wd key n : Nat) (k : ByteArray) : Nat → Nat → List Nat
  | 0, _ => []
  | m + 1, i => if i < n ∧ begB (keyB bytes wd key i) k = true then i :: runL bytes wd key n k m (i + 1) else []

theorem runL_stop {bytes : ByteArray} {wd key n : Nat} {k : ByteArray} {m i : Nat} (h : ¬ (i < n ∧ begB (keyB bytes wd key i) k = true)) : runL bytes wd key n k m i = [] := by
  cases m with
  | zero => rfl
  | succ m => simp only [runL]; rw [if_neg h]

theorem runL_go {bytes : ByteArray} {wd key n : Nat} {k : ByteArray} {m i : Nat} (hm : 0 < m) (h : i < n) (hb : begB (keyB bytes wd key i) k = true) : runL bytes wd key n k m i = i :: runL bytes wd key n k (m - 1) (i + 1) := by
  obtain ⟨m, rfl⟩ : ∃ q, m = q + 1 := ⟨m - 1, by omega⟩
  simp only [runL]; rw [if_pos ⟨h, hb⟩]; rfl

theorem grown_drewN (w : World) (n : Nat) (row : Option Nat) : w.grownBy (w.drewN n) row := ⟨rfl, rfl, rfl, Nat.le_refl _, fun _ _ _ => rfl⟩

/-- What yield is handed for the i-th row. -/
def encRow (bytes : ByteArray) (wd n : Nat) (i : { i : Nat // i < n }) : Array Value := #[.int .i64 (i.val : Int), .string (rowB bytes wd i.val)]

set_option maxHeartbeats 1000000 in
set_option maxRecDepth 100000 in
/-- The iterator's contract: from the first row on, all whose keys begin so; it stops where a round says 'no more'. -/
theorem prefix1_seq (d n₀ g wd key n : Nat) (bytes k : ByteArray) (p q : Addr) (w : World) (ok : TabOk wd key bytes n) (hk : k.size ≤ maxLen) (h : TabAt w g wd key bytes)
    (hp : w.cell? p = some (.pointer (some ⟨g, 0, none⟩))) (hq : w.cell? q = some (.string k)) (hg0 : g < n₀) (hp0 : p.block < n₀) (hq0 : q.block < n₀) (hn₀ : n₀ ≤ w.heap.size) :
    SeqStopsK Fence.wide d Tryd.prog 36 #[.pointer (some p), .pointer (some q)] (encRow bytes wd n) (Below n₀)
      (fun xs => ∃ r, FromOf bytes wd key n k r ∧ xs.map Subtype.val = runL bytes wd key n k (n + 1) r) (fun pre => ∃ r, FromOf bytes wd key n k r ∧ pre ≠ [] ∧ pre.map Subtype.val <+: runL bytes wd key n k (n + 1) r) (n + 1) w := by
  intro l J Jx W hbW hJ hJx hY h0
  refine callsIn_of_wp Tryd.func36 rfl trivial ?_ rfl
  simp only [Tryd.ntmps36, List.size_toArray, List.length_cons, List.length_nil, Nat.reduceAdd, Nat.reduceSub, Array.replicate_succ, Array.replicate_zero, List.push_toArray, List.append_toArray, List.nil_append, List.cons_append]
  have hp1 : W.cell? p = some (.pointer (some ⟨g, 0, none⟩)) := (hbW.cell (World.block_lt_of_cell? w _ hp)).trans hp
  have hq1 : W.cell? q = some (.string k) := (hbW.cell (World.block_lt_of_cell? w _ hq)).trans hq
  have HY := Lib.hid hY
  have HJ := Lib.hid hJ
  have H0 := Lib.hid h0
  have hT := h.below hbW
  have hnW := Nat.le_trans hn₀ hbW.size
  have HT0 := Lib.hid h
  clear hY hJ h0 h
  gi_wp2_with fail
  refine wide_call ((from_any g wd key n bytes k W ok hT).mono ?_)
  rintro e W1 ⟨r, hr, rfl, hb1⟩
  have HR := Lib.hid hr
  have hrle := hr.le
  have H1 := Lib.hid (HJ.out [] W W1 none H0.out (grown_of_below hb1 none) (fun _ h => by cases h))
  clear H0 hr hJx
  gi_wp2_with fail
  have HB1 := Lib.hid ((hbW.mono hn₀).trans (hb1.mono hnW))
  gi_loopw [4] (fun i wr => ∃ pre : List { i : Nat // i < n }, i = .int .i64 ((r + pre.length : Nat) : Int) ∧ r + pre.length ≤ n ∧ Hid (J pre wr ∧ Below n₀ w wr ∧ runL bytes wd key n k (n + 1) r = pre.map Subtype.val ++ runL bytes wd key n k (n + 1 - pre.length) (r + pre.length))) (fun i _ => n - (intOf i).toNat)
  case atStart => exact ⟨[], rfl, hrle, H1.out, HB1.out, rfl⟩
  case round =>
    obtain ⟨pre, rfl, hle, HP⟩ := hrel
    obtain ⟨hj, hb, hrun⟩ := HP.out
    have h0 := HT0.out
    have hTw : TabAt wr g wd key bytes := ⟨(hb.cell (p := ⟨g, 0, none⟩) hg0).trans h0.c0, (hb.cell (p := ⟨g, 1, none⟩) hg0).trans h0.c1, (hb.cell (p := ⟨g, 2, none⟩) hg0).trans h0.c2⟩
    have hpw : wr.cell? p = some (.pointer (some ⟨g, 0, none⟩)) := (hb.cell hp0).trans hp
    have hqw : wr.cell? q = some (.string k) := (hb.cell hq0).trans hq
    have HJ1 := Lib.hid hj
    have HB := Lib.hid hb
    have HRUN := Lib.hid hrun
    have hcw := hTw.c1
    clear hj hb hrun HP h0 hp hq hp1 hq1
    obtain ⟨i, hi⟩ : ∃ i, r + pre.length = i := ⟨_, rfl⟩
    rw [hi] at HRUN hle ⊢
    have HI := Lib.hid hi
    clear hi
    have hnle := ok.nle
    by_cases hlt : i < n
    · have hfit := row_fits ok hlt
      have hlt2 : decide ((i : Int) < (n : Int)) = true := by simp; omega
      have h2 : (key : Int) ≤ (rowB bytes wd i).size := by have := ok.hk2; simp [rowB]; omega
      have hFf : ∀ f, Fence.wide.fn f := fun _ => trivial
      have hFd : Fence.wide.depth = none := rfl
      have hks : ((rowB bytes wd i).extract 0 key).size ≤ maxLen := by have := ok.hs; simp [rowB]; unfold maxLen; omega
      have HKS := Lib.hid hks
      clear hks
      cases hbeg : begB (keyB bytes wd key i) k
      all_goals
        have HPX := Lib.hid (fun W => (show begB ((rowB bytes wd i).extract 0 key) k = _ from hbeg) ▸ hasPrefix_any ((rowB bytes wd i).extract 0 key) k W HKS.out hk)
        have HBEG := Lib.hid hbeg
        clear hbeg
        gi_wp2_with fail
        refine wpIn_region_quiet_lit rfl (by kernel_rfl) (by kernel_rfl) ?_
        repeat (gi_big_quiet_step (first | (gi_at_call 17; exact callsIn_wide.2 (Calls.quiet_of (len_any g wd key n bytes _ ok (hTw.drewN _)))) | (gi_at_call 39; exact callsIn_wide.2 (Calls.quiet_of (at_any g wd key n i bytes _ (by omega) (by simpa using hfit) ok (hTw.drewN _)))) | (gi_at_call 38; exact callsIn_wide.2 (Calls.quiet_of (HPX.out _)))))
        refine wpQuietIn_nil ?_
        intro _ hw'
        obtain ⟨nq, rfl⟩ := hw'
      · have hs := runL_stop (m := n + 1 - pre.length) (n := n) (fun h => by rw [HBEG.out] at h; cases h.2)
        have HE := Lib.hid ((HRUN.out.trans (by rw [hs, List.append_nil])))
        have HJ2 := Lib.hid (HJ.out pre wr (wr.drewN nq) none HJ1.out (grown_drewN _ _ _) (fun _ h => by cases h))
        clear hs
        gi_wp2
        go_end0
        exact ⟨⟨_, rfl⟩, .inl ⟨pre, ⟨r, HR.out, HE.out.symm⟩, HJ2.out⟩⟩
      · gi_wp2_with fail
        refine (callsIn_wide.2 (at_any g wd key n i bytes _ (by omega) (by simpa using hfit) ok (hTw.drewN _))).mono ?_
        rintro e w2 ⟨rfl, m, rfl⟩
        have hlen : pre.length ≤ i := by have := HI.out; omega
        obtain ⟨fn, tmps, assign, body, hy, hR⟩ := HY.out pre ⟨i, hlt⟩ (wr.drewN (nq + m)) (HJ.out pre wr _ none HJ1.out (grown_drewN _ _ _) (fun _ h => by cases h)) (by omega)
        have HRD := Lib.hid hR
        have HGO := Lib.hid (runL_go (m := n + 1 - pre.length) (k := k) (by omega) hlt HBEG.out)
        clear hR
        unfold encRow at hy
        rw [Int.toNat_natCast]
        gi_wp2_with fail
        refine HRD.out.mono ?_
        rintro e w3 (⟨rfl, hj3, hb3⟩ | ⟨rfl, hx3⟩)
        · have HJ3 := Lib.hid hj3
          have HB3 := Lib.hid ((below_drewN HB.out _).trans hb3)
          clear hj3 hb3 hy
          clear hlt2
          gi_wp2
          go_roundw
          case rel => exact ⟨pre ++ [⟨i, hlt⟩], by rw [List.length_append, List.length_singleton, ← Nat.add_assoc, HI.out]; go_num, by rw [List.length_append, List.length_singleton]; have := HI.out; omega, HJ3.out, HB3.out, by
            rw [HRUN.out, HGO.out, List.length_append, List.length_singleton, ← Nat.add_assoc, HI.out, List.map_append, List.append_assoc]; rfl⟩
          case measure => simp [intOf]; omega
        · have HX3 := Lib.hid hx3
          clear hx3 hy
          gi_wp2
          refine bodyPost_ret (results_none rfl _ _ _) rfl ?_
          exact ⟨⟨_, rfl⟩, .inr ⟨pre ++ [⟨i, hlt⟩], ⟨r, HR.out, by simp, ⟨runL bytes wd key n k (n + 1 - pre.length - 1) (i + 1), by rw [HRUN.out, HGO.out, List.map_append, List.append_assoc]; rfl⟩⟩, HX3.out⟩⟩
    · have hlt2 : decide ((i : Int) < (n : Int)) = false := by simp; omega
      have hFf : ∀ f, Fence.wide.fn f := fun _ => trivial
      have hFd : Fence.wide.depth = none := rfl
      have hs := runL_stop (bytes := bytes) (wd := wd) (key := key) (k := k) (m := n + 1 - pre.length) (n := n) (i := i) (fun h => hlt h.1)
      have HE := Lib.hid ((HRUN.out.trans (by rw [hs, List.append_nil])))
      clear hs
      gi_wp2_with fail
      refine wpIn_region_quiet_lit rfl (by kernel_rfl) (by kernel_rfl) ?_
      repeat (gi_big_quiet_step ((gi_at_call 17; exact callsIn_wide.2 (Calls.quiet_of (len_any g wd key n bytes _ ok (hTw.drewN _))))))
      refine wpQuietIn_nil ?_
      intro _ hw'
      obtain ⟨nq, rfl⟩ := hw'
      have HJ2 := Lib.hid (HJ.out pre wr (wr.drewN nq) none HJ1.out (grown_drewN _ _ _) (fun _ h => by cases h))
      clear hlt hlt2
      gi_wp2
      go_end0
      exact ⟨⟨_, rfl⟩, .inl ⟨pre, ⟨r, HR.out, HE.out.symm⟩, HJ2.out⟩⟩
end Go.Proofs.YtfeikolfdggnfaaDoor

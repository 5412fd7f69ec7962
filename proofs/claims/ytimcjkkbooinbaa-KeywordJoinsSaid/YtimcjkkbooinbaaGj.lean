/- Same: are two rows of texts, of extensions, are keywords the same? -/
import Derived.Test.YtimcjkkbooinbaaGi
namespace Go.Proofs.Ytimcjkkbooinbaa
open Go.RowKit Go.Shelf

theorem quiet_add {P : Program} {f : FuncId} {args : Array Value} {w : World} {a n : Nat} {v : Value}
    (h : Calls P f args (w.drewN (a + n)) fun e w' => e = .returned v ∧ ∃ m, w' = (w.drewN (a + n)).drewN m) :
    Calls P f args (w.drewN (a + n)) fun e w'' => e = .returned v ∧ ∃ m, w'' = w.drewN (a + m) :=
  h.mono fun _ _ ⟨he, m, hm⟩ => ⟨he, n + m, by rw [hm, World.drewN_drewN, Nat.add_assoc]⟩

theorem bytes_inj {x y : ByteArray} (h : x.toList = y.toList) : x = y := by
  apply ByteArray.ext
  apply Array.toList_inj.1
  rwa [ByteArray.toList_eq, ByteArray.toList_eq] at h

theorem neq_yes {x y : ByteArray} (h : x = y) : (x.toList != y.toList) = false ∧ (x.toList == y.toList) = true := by subst h; simp
theorem neq_no {x y : ByteArray} (h : ¬ x = y) : (x.toList != y.toList) = true ∧ (x.toList == y.toList) = false := by
  have : ¬ x.toList = y.toList := fun e => h (bytes_inj e)
  simp [this]

theorem take_same {α : Type} {xs ys : List α} {k : Nat} (hx : k < xs.length) (hy : k < ys.length) (h : xs.take k = ys.take k) (he : xs[k] = ys[k]) : xs.take (k + 1) = ys.take (k + 1) := by
  rw [List.take_succ_eq_append_getElem hx, List.take_succ_eq_append_getElem hy, h, he]

theorem ne_at {α : Type} {xs ys : List α} {k : Nat} (hx : k < xs.length) (hy : k < ys.length) (he : ¬ xs[k] = ys[k]) : ¬ xs = ys := by
  rintro rfl; exact he rfl

set_option maxHeartbeats 1000000 in
theorem same4_any (a b : Option Addr) (c d : Nat) (xs ys : List ByteArray) (w : World) (hl : xs.length ≤ 1000000) (hl2 : ys.length ≤ 1000000) (hx : StrsAt w a xs) (hy : StrsAt w b ys) :
    Calls Try.prog 15 #[.slice a xs.length c, .slice b ys.length d] w (Quietly w (.bool (decide (xs = ys)))) := by
  by_cases hll : xs.length = ys.length
  · have HX := Lib.hid hx
    have HY := Lib.hid hy
    obtain ⟨n, hn⟩ : ∃ n, ys.length = n := ⟨_, rfl⟩
    rw [hn] at hll ⊢
    rw [hll]
    have HNX := Lib.hid hll
    have HNY := Lib.hid hn
    have hn2 : n ≤ 1000000 := by omega
    clear hx hy hll hn hl hl2
    go_enter Try.func15, Try.ntmps15
    go_wp2_with fail
    go_loopw [5] (fun i wr => ∃ k m : Nat, i = .int .i64 k ∧ k ≤ n ∧ wr = w.drewN m ∧ Hid (xs.take k = ys.take k)) (fun i _ => n - (intOf i).toNat)
    case atStart => exact ⟨0, 0, rfl, by omega, rfl, by show _ = _; rw [List.take_zero, List.take_zero]⟩
    case round =>
      obtain ⟨k, m, rfl, hk, rfl, HT⟩ := hrel
      by_cases hlt : k < n
      · have hkx : k < xs.length := by have := HNX.out; omega
        have hky : k < ys.length := by have := HNY.out; omega
        obtain ⟨b1, o1, hab, hc1⟩ := HX.out k hkx
        obtain ⟨b2, o2, hbb, hc2⟩ := HY.out k hky
        have HSAME := Lib.hid (fun h => take_same hkx hky HT.out h)
        have HNE := Lib.hid (fun h => ne_at hkx hky h)
        generalize xs[k] = x at hc1 HSAME HNE
        generalize ys[k] = y at hc2 HSAME HNE
        cases hab
        cases hbb
        have hlt2 : (k : Int) < (n : Int) := by omega
        clear hkx hky
        by_cases he : x = y
        · obtain ⟨h1, h2⟩ := neq_yes he
          have HS := Lib.hid (HSAME.out he)
          clear he HSAME HNE
          go_wp2_with fail
          go_quiet (fail)
          go_wp2_with fail
          go_roundw
          case rel => exact ⟨k + 1, m + nq, by go_num, by omega, rfl, HS⟩
          case measure => simp [intOf]; omega
        · obtain ⟨h1, h2⟩ := neq_no he
          have HN := Lib.hid (HNE.out he)
          clear he HSAME HNE
          go_wp2_with fail
          go_quiet (fail)
          go_wp2_with fail
          go_ret
          exact .mk (m + nq) (by rw [decide_eq_false HN.out]; rfl) (by rw [World.drewN_drewN])
      · have HE := Lib.hid (show xs = ys by
          have := HT.out
          rwa [List.take_of_length_le (by have := HNX.out; omega), List.take_of_length_le (by have := HNY.out; omega)] at this)
        go_wp2_with fail
        go_ret
        exact .mk m (by rw [decide_eq_true HE.out]; rfl) rfl
  · have HE := Lib.hid (show ¬ xs = ys by rintro rfl; exact hll rfl)
    have h1 : ((xs.length : Int) != (ys.length : Int)) = true := by rw [bne_iff_ne]; omega
    have h2 : ((xs.length : Int) == (ys.length : Int)) = false := by rw [beq_eq_false_iff_ne]; omega
    clear hll
    go_enter Try.func15, Try.ntmps15
    go_wp2_with fail
    go_ret
    exact .mk 0 (by rw [decide_eq_false HE.out]; rfl) rfl

theorem val_eq {x y : XE} : x.val = y.val ↔ x.key = y.key ∧ x.subs = y.subs := by unfold XE.val; exact Prod.mk.injEq _ _ _ _ ▸ Iff.rfl

set_option maxHeartbeats 1000000 in
theorem sameX_any (a b : Option Addr) (c d : Nat) (xs ys : List XE) (w : World) (hl : xs.length ≤ 1000000) (hl2 : ys.length ≤ 1000000) (hx : XsAt w a xs) (hy : XsAt w b ys) (hox : ∀ x ∈ xs, x.ok w ∧ x.subs.length ≤ 1000000) (hoy : ∀ x ∈ ys, x.ok w ∧ x.subs.length ≤ 1000000) :
    Calls Try.prog 23 #[.slice a xs.length c, .slice b ys.length d] w (Quietly w (.bool (decide (xs.map XE.val = ys.map XE.val)))) := by
  by_cases hll : xs.length = ys.length
  · have HX := Lib.hid hx
    have HY := Lib.hid hy
    have HOX := Lib.hid hox
    have HOY := Lib.hid hoy
    obtain ⟨n, hn⟩ : ∃ n, ys.length = n := ⟨_, rfl⟩
    rw [hn] at hll ⊢
    rw [hll]
    have HNX := Lib.hid hll
    have HNY := Lib.hid hn
    have hn2 : n ≤ 1000000 := by omega
    clear hx hy hll hn hl hl2 hox hoy
    go_enter Try.func23, Try.ntmps23
    go_wp2_with fail
    go_loopw [5] (fun i wr => ∃ k m : Nat, i = .int .i64 k ∧ k ≤ n ∧ wr = w.drewN m ∧ Hid ((xs.map XE.val).take k = (ys.map XE.val).take k)) (fun i _ => n - (intOf i).toNat)
    case atStart => exact ⟨0, 0, rfl, by omega, rfl, by show _ = _; rw [List.take_zero, List.take_zero]⟩
    case round =>
      obtain ⟨k, m, rfl, hk, rfl, HT⟩ := hrel
      by_cases hlt : k < n
      · have hkx : k < xs.length := by have := HNX.out; omega
        have hky : k < ys.length := by have := HNY.out; omega
        obtain ⟨b1, o1, hab, hc1, hd1⟩ := HX.out k hkx
        obtain ⟨b2, o2, hbb, hc2, hd2⟩ := HY.out k hky
        have HSAME := Lib.hid (fun (h : xs[k].val = ys[k].val) => take_same (xs := xs.map XE.val) (ys := ys.map XE.val) (by simpa using hkx) (by simpa using hky) HT.out (by simpa using h))
        have HNE := Lib.hid (fun (h : ¬ xs[k].val = ys[k].val) => ne_at (xs := xs.map XE.val) (ys := ys.map XE.val) (k := k) (by simpa using hkx) (by simpa using hky) (by simpa using h))
        have HO1 := Lib.hid (HOX.out xs[k] (List.getElem_mem hkx))
        have HO2 := Lib.hid (HOY.out ys[k] (List.getElem_mem hky))
        generalize xs[k] = x at hc1 hd1 HSAME HNE HO1
        generalize ys[k] = y at hc2 hd2 HSAME HNE HO2
        obtain ⟨xk, xa, xc, xs1⟩ := x
        obtain ⟨yk, ya, yc, ys1⟩ := y
        have HSM := Lib.hid (fun W' (hb : Below w.heap.size w W') => same4_any xa ya xc yc xs1 ys1 W' HO1.out.2 HO2.out.2 (HO1.out.1.2.below hb) (HO2.out.1.2.below hb))
        rw [val_eq] at HSAME HNE
        dsimp only at hc1 hd1 hc2 hd2 HSAME HNE
        cases hab
        cases hbb
        have hlt2 : (k : Int) < (n : Int) := by omega
        clear hkx hky
        by_cases hs : xs1 = ys1
        · rw [decide_eq_true hs] at HSM
          by_cases he : xk = yk
          · obtain ⟨h1, h2⟩ := neq_yes he
            have HS := Lib.hid (HSAME.out ⟨he, hs⟩)
            clear he HSAME HNE hs
            go_wp2_with fail
            go_quiet ((go_at_call 15; exact quiet_add (HSM.out _ (below_drewN (Below.refl _ _) _))))
            rw [World.drewN_drewN]
            generalize m + nq = m3
            go_wp2_with fail
            go_quiet (fail)
            go_wp2_with fail
            go_roundw
            case rel => exact ⟨k + 1, m3 + nq, by go_num, by omega, rfl, HS⟩
            case measure => simp [intOf]; omega
          · obtain ⟨h1, h2⟩ := neq_no he
            have HN := Lib.hid (HNE.out (fun h => he h.1))
            clear he HSAME HNE hs
            go_wp2_with fail
            go_quiet ((go_at_call 15; exact quiet_add (HSM.out _ (below_drewN (Below.refl _ _) _))))
            rw [World.drewN_drewN]
            generalize m + nq = m3
            go_wp2_with fail
            go_quiet (fail)
            go_wp2_with fail
            go_ret
            exact .mk (m3 + nq) (by rw [decide_eq_false HN.out]; rfl) (by rw [World.drewN_drewN])
        · rw [decide_eq_false hs] at HSM
          have HN := Lib.hid (HNE.out (fun h => hs h.2))
          clear HSAME HNE hs
          go_wp2_with fail
          go_quiet ((go_at_call 15; exact quiet_add (HSM.out _ (below_drewN (Below.refl _ _) _))))
          rw [World.drewN_drewN]
          generalize m + nq = m3
          go_wp2_with fail
          go_quiet (fail)
          go_wp2_with fail
          go_ret
          exact .mk (m3 + nq) (by rw [decide_eq_false HN.out]; rfl) (by rw [World.drewN_drewN])
      · have HE := Lib.hid (show xs.map XE.val = ys.map XE.val by
          have := HT.out
          rwa [List.take_of_length_le (by have := HNX.out; simp; omega), List.take_of_length_le (by have := HNY.out; simp; omega)] at this)
        go_wp2_with fail
        go_ret
        exact .mk m (by rw [decide_eq_true HE.out]; rfl) rfl
  · have HE := Lib.hid (show ¬ xs.map XE.val = ys.map XE.val by intro h; have := congrArg List.length h; simp at this; exact hll this)
    have h1 : ((xs.length : Int) != (ys.length : Int)) = true := by rw [bne_iff_ne]; omega
    have h2 : ((xs.length : Int) == (ys.length : Int)) = false := by rw [beq_eq_false_iff_ne]; omega
    clear hll
    go_enter Try.func23, Try.ntmps23
    go_wp2_with fail
    go_ret
    exact .mk 0 (by rw [decide_eq_false HE.out]; rfl) rfl

/-- Are keywords the same? -/
theorem sameK_any (v1 v2 : Value) (a1 a2 : List ByteArray) (xs ys : List XE) (w : World) (h1 : KwAt w v1 a1 xs) (h2 : KwAt w v2 a2 ys) (hl : a1.length ≤ 1000000 ∧ a2.length ≤ 1000000 ∧ xs.length ≤ 1000000 ∧ ys.length ≤ 1000000) (hox : ∀ x ∈ xs, x.subs.length ≤ 1000000) (hoy : ∀ x ∈ ys, x.subs.length ≤ 1000000) :
    Calls Try.prog 12 #[v1, v2] w fun e w' => e = .returned (.bool (decide (a1 = a2 ∧ xs.map XE.val = ys.map XE.val))) ∧ Below w.heap.size w w' := by
  obtain ⟨aA, cA, aK, cK, rfl, -, -, hA, hK, hO⟩ := h1
  obtain ⟨bA, dA, bK, dK, rfl, -, -, hB, hL, hP⟩ := h2
  have HA := Lib.hid (fun W (hb : Below w.heap.size w W) => same4_any aA bA cA dA a1 a2 W hl.1 hl.2.1 (hA.below hb) (hB.below hb))
  have HX := Lib.hid (fun W (hb : Below w.heap.size w W) => sameX_any aK bK cK dK xs ys W hl.2.2.1 hl.2.2.2 (hK.below hb) (hL.below hb) (fun x hx => ⟨(hO x hx).below hb, hox x hx⟩) (fun x hx => ⟨(hP x hx).below hb, hoy x hx⟩))
  have HD := Lib.hid (show decide (a1 = a2 ∧ xs.map XE.val = ys.map XE.val) = (decide (a1 = a2) && decide (xs.map XE.val = ys.map XE.val)) by simp)
  rw [HD.out]
  clear HD hA hK hO hB hL hP hl hox hoy
  generalize decide (a1 = a2) = p at *
  generalize decide (xs.map XE.val = ys.map XE.val) = q at *
  have hb0 : Below w.heap.size w ((w.alloc (.cells #[.slice aA a1.length cA, .slice aK xs.length cK] 25)).alloc (.cells #[.slice bA a2.length dA, .slice bK ys.length dK] 25)) := ((Below.refl _ _).alloc (Nat.le_refl _) _).alloc (by simp) _
  have HB0 := Lib.hid hb0
  clear hb0
  go_enter Try.func12, Try.ntmps12
  go_wp2_with fail
  refine (HA.out _ HB0.out).mono ?_
  rintro e w' ⟨rfl, m, rfl⟩
  go_wp2_with fail
  refine (HX.out _ (below_drewN HB0.out m)).mono ?_
  rintro e w' ⟨rfl, m2, rfl⟩
  cases p
  all_goals
    go_wp2_with fail
    go_ret
    exact ⟨rfl, by first | exact below_drewN (below_drewN HB0.out _) _ | exact below_drewN HB0.out _⟩

end Go.Proofs.Ytimcjkkbooinbaa

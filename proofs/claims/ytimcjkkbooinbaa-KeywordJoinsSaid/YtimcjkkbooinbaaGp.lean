/- Write, walked. -/
import Derived.Test.YtimcjkkbooinbaaGo
namespace Go.Proofs.Ytimcjkkbooinbaa
open Go.RowKit Go.Shelf

/-- What keywords are written to. -/
def writeL (attrs : List ByteArray) (es : List (ByteArray × List ByteArray)) : List ByteArray := attrs ++ es.flatMap fun e => e.1 :: e.2

theorem writeL_snoc (attrs : List ByteArray) (es : List (ByteArray × List ByteArray)) (e : ByteArray × List ByteArray) : writeL attrs (es ++ [e]) = writeL attrs es ++ [e.1] ++ e.2 := by
  unfold writeL; rw [List.flatMap_append]; simp

theorem OwnS.row {w : World} {base : Nat} {v : Value} {xs : List ByteArray} (h : OwnS w base v xs) (hx : xs ≠ []) : RowS w base v xs := by
  refine ⟨h, ?_⟩
  rcases h.2 with ⟨_, h0⟩ | ⟨g, cap, cur, e, _⟩
  · exact absurd (List.length_eq_zero_iff.1 h0) hx
  · exact ⟨g, cap, e⟩

/-- One text is appended, in whatever order. -/
theorem append_one_op {w : World} {o : Oper} {a : Act} {K : Act → World → Prop} {Q : Exit → Act → World → Prop} (s x : Operand)
    (ho : o.op = .call { callee := .builtin .append, args := #[s, x], argTypes := #[22, 22] })
    (base : Nat) (v : Value) (xs : List ByteArray) (b c : Nat) (y : ByteArray) (hs : a.eval s = v) (hown : OwnS w base v xs) (hx : a.eval x = .slice (some ⟨b, 0, none⟩) 1 c) (hc : w.cell? ⟨b, 0, none⟩ = some (.string y)) (hlen : xs.length + 1 ≤ 1000000) (hbase : base ≤ w.heap.size)
    (h : ∀ v' w', RowS w' base v' (xs ++ [y]) → w.grownBy w' v.ownBlock → K (a.put o.dst v') w') : o.wp Try.prog a w K Q := by
  obtain ⟨i0, hi, hz0, hz1, hz2⟩ := info_parts Try.infoS
  obtain ⟨v', w', h1, h2, h3, h4⟩ := run_append_own (P := Try.prog) w base 22 o.type 9 i0 (.string ⟨#[]⟩) 1 16 Try.underlying22 hi hz0 hz1 hz2 rfl (by decide) v xs.length _ hown ⟨b, 0, none⟩ 1 c [.string y] (by simp)
      (by
        intro j u hu
        rcases j with _ | j
        · obtain rfl := Option.some.inj hu
          rw [add_plain]; exact hc
        · simp at hu)
      (by intro u hu; obtain rfl := List.mem_singleton.1 hu; rfl) (by unfold maxLen; omega) (by omega) hbase
  have h5 : OwnS w' base v' (xs ++ [y]) := by unfold OwnS; rw [List.length_append, List.map_append]; exact h2
  unfold Oper.wp execOp
  simp only [ho, resolve, invoke, builtin, Sem.run_bind, Sem.run_pure, Result.andThen_ok, List.map_toArray, List.map_cons, List.map_nil, hs, hx, h1]
  exact h _ _ (h5.row (by simp)) h3

theorem StrsAt.src {w : World} {a : Option Addr} {xs : List ByteArray} (h : StrsAt w a xs) (c : Nat) : SrcAt w (.slice a xs.length c) xs := by
  have := h.upto xs.length c (Nat.le_refl _)
  rwa [List.take_length] at this

/-- A box that holds an extension. -/
def BoxX (W : World) (g : Nat) (x : XE) : Prop := W.heap[g]? = some (.cells #[.string x.key, .slice x.sub x.subs.length x.cap] 37 (0, 0))
theorem BoxX.cells {W : World} {g : Nat} {x : XE} (h : BoxX W g x) : W.cell? ⟨g, 0, none⟩ = some (.string x.key) ∧ W.cell? ⟨g, 1, none⟩ = some (.slice x.sub x.subs.length x.cap) := by
  unfold BoxX at h
  exact ⟨by simp [World.cell?, h], by simp [World.cell?, h]⟩
theorem BoxX.lt {W : World} {g : Nat} {x : XE} (h : BoxX W g x) : g < W.heap.size := (Array.getElem?_eq_some_iff.1 h).1
theorem BoxX.apart {W : World} {g base : Nat} {x : XE} {v : Value} {xs : List ByteArray} (h : BoxX W g x) (ho : OwnS W base v xs) : some g ≠ v.ownBlock := by
  intro e
  rcases ho.2 with ⟨rfl, _⟩ | ⟨b, cap, cur, rfl, _, hb, _⟩
  · cases e
  · cases e
    unfold BoxX at h
    rw [h] at hb
    cases hb
theorem BoxX.grown {W W' : World} {g base : Nat} {x : XE} {v : Value} {xs : List ByteArray} (h : BoxX W g x) (ho : OwnS W base v xs) (hg : W.grownBy W' v.ownBlock) : BoxX W' g x := by
  unfold BoxX
  rw [hg.block g h.lt (h.apart ho)]
  exact h
theorem BoxX.alloc {W : World} {g : Nat} {x : XE} (h : BoxX W g x) (o : Obj) : BoxX (W.alloc o) g x := by
  have hl := h.lt
  unfold BoxX at *
  rw [heap_alloc_old W o hl]
  exact h

set_option maxHeartbeats 2000000 in
set_option maxRecDepth 100000 in
theorem write_any (v : Value) (attrs : List ByteArray) (xs : List XE) (w : World) (hv : KwAt w v attrs xs) (hl : (writeL attrs (xs.map XE.val)).length ≤ 100000) (hl2 : xs.length ≤ 100000) :
    Calls Try.prog 16 #[v] w fun e w' => ∃ v', e = .returned v' ∧ OwnS w' w.heap.size v' (writeL attrs (xs.map XE.val)) ∧ Below w.heap.size w w' := by
  obtain ⟨aA, cA, aK, cK, rfl, hcA, hcK, hA, hK, hO⟩ := hv
  have hla : attrs.length ≤ 1000000 := by unfold writeL at hl; rw [List.length_append] at hl; omega
  have HL : Hid (∀ k, k < xs.length → (writeL attrs ((xs.take (k + 1)).map XE.val)).length ≤ 100000) := Lib.hid (by
    intro k hk
    refine Nat.le_trans ?_ hl
    unfold writeL
    have e : xs.map XE.val = (xs.take (k + 1)).map XE.val ++ (xs.drop (k + 1)).map XE.val := by rw [← List.map_append, List.take_append_drop]
    rw [e, List.flatMap_append, List.length_append, List.length_append, List.length_append]
    omega)
  have HA := Lib.hid hA
  have HK := Lib.hid hK
  have HO := Lib.hid hO
  clear hA hK hO hl
  go_enter Try.func16, Try.ntmps16
  go_wp2_with fail
  obtain ⟨W2, hW2⟩ : ∃ W2, w.alloc (.cells #[.slice aA attrs.length cA, .slice aK xs.length cK] 25) = W2 := ⟨_, rfl⟩
  have hb2 : Below w.heap.size w W2 := by rw [← hW2]; exact (Below.refl _ _).alloc (Nat.le_refl _) _
  have r1 : W2.cell? ⟨w.heap.size, 1, none⟩ = some (.slice aK xs.length cK) := by rw [← hW2]; exact World.cell?_alloc_new w _ _ 1
  rw [hW2]
  clear hW2
  refine (clone_any aA cA attrs W2 hla (HA.out.below hb2)).mono ?_
  rintro e W3 ⟨v3, rfl, hown3, hb3⟩
  have hr1 := (hb3.cell (World.block_lt_of_cell? _ _ r1)).trans r1
  have HO3 := Lib.hid (show OwnS W3 w.heap.size v3 (writeL attrs (([] : List XE).map XE.val)) by unfold writeL; simpa using hown3.mono hb2.size)
  have HB3 := Lib.hid (hb2.trans (hb3.mono hb2.size))
  clear hown3 hb2 hb3 r1
  go_wp2_with fail
  go_loopg [3, 12] xs.length (fun gk v3 v12 wr => ∃ k, k ≤ xs.length ∧ gk = xs.length - k ∧ v12 = .int .i64 (k : Nat) ∧ Hid (OwnS wr w.heap.size v3 (writeL attrs ((xs.take k).map XE.val))) ∧ Hid (Below w.heap.size w wr))
  case atStart => exact ⟨0, Nat.zero_le _, by omega, rfl, HO3, HB3⟩
  case round =>
    obtain ⟨k, hk, hgk, rfl, HOW, HB⟩ := hrel
    rcases Nat.lt_or_ge k xs.length with hlt | hge
    · obtain ⟨b, off, hab, hc1, hc2⟩ := HK.out k hlt
      replace hc1 := (HB.out.cell (World.block_lt_of_cell? w _ hc1)).trans hc1
      replace hc2 := (HB.out.cell (World.block_lt_of_cell? w _ hc2)).trans hc2
      have hin : (k : Int) < xs.length := by omega
      have hlk := HL.out k hlt
      have HOK := Lib.hid (HO.out _ (List.getElem_mem hlt)).2
      rw [List.take_succ_eq_append_getElem hlt, List.map_append] at hlk
      have htk : (xs.take (k + 1)).map XE.val = (xs.take k).map XE.val ++ [xs[k].val] := by rw [List.take_succ_eq_append_getElem hlt, List.map_append]; rfl
      obtain ⟨x, hx⟩ : ∃ x, xs[k] = x := ⟨_, rfl⟩
      rw [hx] at hc1 hc2 hlk HOK htk
      have hlk2 : (writeL attrs ((xs.take k).map XE.val) ++ [x.key] ++ x.subs).length ≤ 100000 := by have h := writeL_snoc attrs ((xs.take k).map XE.val) x.val; exact Nat.le_trans (Nat.le_of_eq (congrArg List.length h.symm)) hlk
      have HTK := Lib.hid (show writeL attrs ((xs.take (k + 1)).map XE.val) = writeL attrs ((xs.take k).map XE.val) ++ [x.key] ++ x.subs by rw [htk, writeL_snoc]; rfl)
      generalize writeL attrs ((xs.take k).map XE.val) = out at HOW hlk2 HTK
      rw [List.length_append, List.length_append, List.length_singleton] at hlk2
      have HLK := Lib.hid hlk2
      clear hx htk hlk hlk2
      go_wp2_with fail
      have hX : BoxX (wr.alloc (.cells #[.string x.key, .slice x.sub x.subs.length x.cap] 37)) wr.heap.size x := heap_alloc_new wr _
      have hOE := HOW.out.alloc (.cells #[.string x.key, .slice x.sub x.subs.length x.cap] 37)
      have hBE := HB.out.alloc HB.out.size (.cells #[.string x.key, .slice x.sub x.subs.length x.cap] 37)
      have hzE : (wr.alloc (.cells #[.string x.key, .slice x.sub x.subs.length x.cap] 37)).heap.size = wr.heap.size + 1 := by simp
      have hzw : w.heap.size ≤ wr.heap.size := HB.out.size
      generalize wr.alloc (.cells #[.string x.key, .slice x.sub x.subs.length x.cap] 37) = wE at hX hOE hBE hzE ⊢
      have HOE := Lib.hid hOE
      have HBE := Lib.hid hBE
      have HX := Lib.hid hX
      obtain ⟨e0, e1⟩ := hX.cells
      clear hOE hBE hX hc1 hc2
      -- behind the first append; behind the second
      have HA1 := Lib.hid (show ∀ (w5 : World), (wE.alloc (.cells #[.string x.key] 9)).drew.grownBy w5 u3.ownBlock → Below w.heap.size w w5 ∧ BoxX w5 wr.heap.size x from fun w5 hg =>
        ⟨((HBE.out.alloc (by omega) _).drew).grown hg (by simp; omega) HOE.out.ge,
          BoxX.grown (W := (wE.alloc (.cells #[.string x.key] 9)).drew) (HX.out.alloc _) (OwnS.alloc (w := wE) HOE.out _) hg⟩)
      have HA2 := Lib.hid (show ∀ (w5 w6 : World) (v5 : Value), RowS w5 w.heap.size v5 (out ++ [x.key]) → Below w.heap.size w w5 → w5.grownBy w6 v5.ownBlock → BoxX w5 wr.heap.size x → Below w.heap.size w w6 ∧ BoxX w6 wr.heap.size x from fun w5 w6 v5 hr hb hg hx =>
        ⟨hb.grown hg hb.size hr.1.ge, hx.grown hr.1 hg⟩)
      have HCN := Lib.hid (show (wE.alloc (.cells #[.string x.key] 9)).drew.cell? ⟨wr.heap.size + 1, 0, none⟩ = some (.string x.key) by rw [← hzE]; exact World.cell?_alloc_new wE _ _ 0)
      go_region_held3 (fun w' => w'.cell? ⟨wr.heap.size, 0, none⟩ = some (.string x.key) ∧ w'.cell? ⟨wr.heap.size, 1, none⟩ = some (.slice x.sub x.subs.length x.cap))
        (first | (constructor <;> assumption) | go_keep)
        (first
          | (rw [if_pos (by rfl)]; refine append_one_op _ _ rfl w.heap.size u3 out (wr.heap.size + 1) 1 x.key (by rfl) (OwnS.alloc (w := wE) HOE.out _) (by rfl) HCN.out (by have := HLK.out; omega) (by simp; omega) ?_; intro v5 w5 hr5 hg5; obtain ⟨hb5, hx5⟩ := HA1.out _ hg5; obtain ⟨hq0, hq1⟩ := hx5.cells; have HX5 := Lib.hid hx5; have HR5 := Lib.hid hr5; have HB5 := Lib.hid hb5; clear hr5 hg5 hb5 hx5)
          | (rw [if_pos (by rfl)]; refine append_op _ _ rfl w.heap.size v5 (out ++ [x.key]) x.subs (by rfl) HR5.out ((HOK.out.below HB5.out).src x.cap) (by have := HLK.out; simp; omega) HB5.out.size ?_; intro v6 w6 hr6 hg6; obtain ⟨hb6, hx6⟩ := HA2.out _ _ _ HR5.out HB5.out hg6 HX5.out; obtain ⟨hr0, hr1'⟩ := hx6.cells; have HR6 := Lib.hid hr6; have HB6 := Lib.hid hb6; clear hr6 hg6 hb6 hx6))
      have HF6 := Lib.hid (show OwnS w6 w.heap.size v6 (writeL attrs ((xs.take (k + 1)).map XE.val)) by rw [HTK.out]; exact HR6.out.1)
      go_simp
      go_wp2_with fail
      rw [← hab]
      go_roundg (xs.length - (k + 1))
      case measure => omega
      case rel => exact ⟨k + 1, hlt, rfl, by go_num, HF6, HB6⟩
    · obtain rfl : k = xs.length := by omega
      have HFIN := Lib.hid (show OwnS wr w.heap.size u3 (writeL attrs (xs.map XE.val)) by have := HOW.out; rwa [List.take_length] at this)
      clear hgk hk
      go_wp2_with fail
      go_ret
      exact ⟨_, rfl, HFIN.out, HB.out⟩

end Go.Proofs.Ytimcjkkbooinbaa

/- Small laws for walks in a round of a range over a function, and for regions whose callees lay blocks. -/
import Derived.Test.YtfeikolfdggnfaaDoorTd
namespace Go.Proofs.YtfeikolfdggnfaaDoor
open Go.RowKit

section
variable {F : Fence} {n : Nat} {P : Program} {ops : Array Oper} {Q : Exit → Act → World → Prop} {md : Region.Mode}

theorem uponIn_round' (l : Nat) (o : Oper) (a : Act) (next : Act → World → Prop) (r : Result Next) (h : o.uponIn F n P a next Q r) : o.uponIn (F.inRound l) n P a next Q r := h

theorem oper_round (l : Nat) {o : Oper} {a : Act} {w : World} {K : Act → World → Prop} (hro : F.round = none) (hnd : ∀ c, o.op ≠ .defer c) (h : o.wpIn F n P a w K Q) : o.wpIn (F.inRound l) n P a w K Q := by
  unfold Oper.wpIn at *
  refine ⟨h.1, ?_⟩
  have h2 := h.2
  rw [hro, Oper.semAt_none] at h2
  rw [Oper.semAt_eq _ _ _ hnd]
  exact uponIn_round' l o a K _ h2

theorem wpAnyIn_round (l : Nat) (hro : F.round = none) (hnd : ∀ (i : Nat) (o : Oper), ops[i]? = some o → ∀ c, o.op ≠ .defer c) : ∀ (fuel : Nat) (listed : Array Bool) (a : Act) (w : World),
    wpAnyIn F n P md ops Q fuel listed a w → wpAnyIn (F.inRound l) n P md ops Q fuel listed a w
  | 0, _, _, _, h => h
  | fuel + 1, _, _, _, h => by
    refine ⟨h.1, fun i hi => ?_⟩
    have h1 := h.2 i hi
    unfold wpOpIn at *
    split
    · rename_i ho; simp only [ho] at h1; exact wpAnyIn_round l hro hnd fuel _ _ _ h1
    · rename_i o ho
      simp only [ho] at h1
      split
      · rename_i hw; simp only [hw, if_true] at h1
        exact oper_round l hro (hnd i o ho) (Oper.wpIn_mono (fun a' w' h2 => wpAnyIn_round l hro hnd fuel _ _ _ h2) h1)
      · rename_i hw; simp only [hw] at h1
        exact ⟨h1.1, wpAnyIn_round l hro hnd fuel _ _ _ h1.2⟩

def noDefer (ops : List Oper) : Bool := ops.all fun o => match o.op with | .defer _ => false | _ => true

theorem noDefer_spec {ops : List Oper} (h : noDefer ops = true) (i : Nat) (o : Oper) (ho : ops.toArray[i]? = some o) (c : Call) : o.op ≠ .defer c := by
  intro hc
  have hm : o ∈ ops := by
    simp only [List.getElem?_toArray] at ho
    exact List.mem_of_getElem? ho
  have := List.all_eq_true.1 h o hm
  rw [hc] at this
  cases this

/-- A region of quiet operations, in a round. -/
theorem wpIn_round_quiet {id : Nat} {a : Act} {w : World} {l : List Oper} {r : Nat} {C : World → Prop} (hm : P.follows .mixedOrders = true) (hB : Region.lexB .any l.toArray = true) (hnd : noDefer l = true) (hC : C w.drew)
    (h : wpQuietIn Fence.wide n P l.toArray C (fun a' => ∀ w', C w' → Q .normal a' w') l a) : (Code.region id l.toArray true).wpIn (Fence.wide.inRound r) n P Q a w := by
  have hB' := hB
  simp only [Region.lexB, Bool.and_eq_true] at hB
  refine wpIn_region_any hm (wpAnyIn_round r rfl (noDefer_spec hnd) _ _ _ _ (wpAnyIn_of_quiet (F := Fence.wide) (C := C) (Q := fun a' => ∀ w', C w' → Q .normal a' w') rfl (fun _ w' hw' h => h w' hw') _ _ _ _ hC ?_))
  have := wpAnyQIn_lex (F := Fence.wide) (n := n) (P := P) (C := C) (md := .any) hB.1 l 0 (Array.replicate l.length false) a (by simp) (by simpa using hB.2) h
  simpa using this

theorem wpIn_round_quiet_lit {id : Nat} {a : Act} {w : World} {l : List Oper} {r : Nat} (hm : P.follows .mixedOrders = true) (hB : Region.lexB .any l.toArray = true) (hnd : noDefer l = true)
    (h : wpQuietIn Fence.wide n P l.toArray (fun w' => ∃ n, w' = w.drewN n) (fun a' => ∀ w', (∃ n, w' = w.drewN n) → Q .normal a' w') l a) : (Code.region id l.toArray true).wpIn (Fence.wide.inRound r) n P Q a w :=
  wpIn_round_quiet (C := fun w' => ∃ n, w' = w.drewN n) hm hB hnd ⟨1, rfl⟩ h

/-- A region whose callees may lay blocks: every operation yields one value in whatever later world. -/
theorem wp_region_below {id : Nat} {a : Act} {w : World} {l : List Oper} (hm : P.follows .mixedOrders = true) (hB : Region.lexB .any l.toArray = true)
    (h : wpQuiet P l.toArray (fun w' => Below w.heap.size w w') (fun a' => ∀ w', Below w.heap.size w w' → Q .normal a' w') l a) : (Code.region id l.toArray true).wp P Q a w :=
  wp_region_quiet (C := fun w' => Below w.heap.size w w') hm hB ((Below.refl _ _).drew) (by simpa using h)

theorem wpIn_region_below {id : Nat} {a : Act} {w : World} {l : List Oper} (hm : P.follows .mixedOrders = true) (hB : Region.lexB .any l.toArray = true)
    (h : wpQuietIn Fence.wide n P l.toArray (fun w' => Below w.heap.size w w') (fun a' => ∀ w', Below w.heap.size w w' → Q .normal a' w') l a) : (Code.region id l.toArray true).wpIn Fence.wide n P Q a w :=
  wpIn_region_quiet (C := fun w' => Below w.heap.size w w') rfl hm hB ((Below.refl _ _).drew) (by simpa using h)

/-- Boxes laid one behind the other. -/
def boxes (w : World) (vs : List (Value × TypeId)) : World := vs.foldl (fun w p => w.alloc (.cells #[p.1] p.2)) w

structure BoxesAt (w W : World) (vs : List (Value × TypeId)) : Prop where
  below : Below w.heap.size w W
  size : W.heap.size = w.heap.size + vs.length
  cell : ∀ i p, vs[i]? = some p → W.cell? ⟨w.heap.size + i, 0, none⟩ = some p.1
  free : ∀ i p, vs[i]? = some p → W.frozen? ⟨w.heap.size + i, 0, none⟩ = false

theorem boxes_at : ∀ (vs : List (Value × TypeId)) (w : World), BoxesAt w (boxes w vs) vs
  | [], w => ⟨Below.refl _ _, rfl, by simp, by simp⟩
  | p :: vs, w => by
    have h := boxes_at vs (w.alloc (.cells #[p.1] p.2))
    have hs : (w.alloc (.cells #[p.1] p.2)).heap.size = w.heap.size + 1 := by simp
    refine ⟨((Below.refl _ _).alloc (Nat.le_refl _) _).trans (h.below.mono (by omega)), by rw [show boxes w (p :: vs) = boxes (w.alloc (.cells #[p.1] p.2)) vs from rfl, h.size, hs]; simp; omega, ?_, ?_⟩
    · intro i q hq
      rcases i with _ | i
      · obtain rfl := Option.some.inj hq
        rw [show boxes w (p :: vs) = boxes (w.alloc (.cells #[p.1] p.2)) vs from rfl, h.below.cell (p := ⟨w.heap.size + 0, 0, none⟩) (by show w.heap.size + 0 < _; omega)]
        exact World.cell?_alloc_new w _ _ 0
      · have := h.cell i q (by simpa using hq)
        rw [hs] at this
        rw [show w.heap.size + (i + 1) = w.heap.size + 1 + i by omega]
        exact this
    · intro i q hq
      rcases i with _ | i
      · rw [show boxes w (p :: vs) = boxes (w.alloc (.cells #[p.1] p.2)) vs from rfl, h.below.frozen (p := ⟨w.heap.size + 0, 0, none⟩) (by show w.heap.size + 0 < _; omega)]
        exact World.frozen?_alloc_new w _ _ 0
      · have := h.free i q (by simpa using hq)
        rw [hs] at this
        rw [show w.heap.size + (i + 1) = w.heap.size + 1 + i by omega]
        exact this

theorem boxes1 (w : World) (v1 : Value) (t1 : TypeId) : BoxesAt w (w.alloc (.cells #[v1] t1)) [(v1, t1)] := boxes_at [(v1, t1)] w
theorem boxes2 (w : World) (v1 v2 : Value) (t1 t2 : TypeId) : BoxesAt w ((w.alloc (.cells #[v1] t1)).alloc (.cells #[v2] t2)) [(v1, t1), (v2, t2)] := boxes_at [(v1, t1), (v2, t2)] w
theorem boxes3 (w : World) (v1 v2 v3 : Value) (t1 t2 t3 : TypeId) : BoxesAt w (((w.alloc (.cells #[v1] t1)).alloc (.cells #[v2] t2)).alloc (.cells #[v3] t3)) [(v1, t1), (v2, t2), (v3, t3)] := boxes_at [(v1, t1), (v2, t2), (v3, t3)] w
theorem boxes4 (w : World) (v1 v2 v3 v4 : Value) (t1 t2 t3 t4 : TypeId) : BoxesAt w ((((w.alloc (.cells #[v1] t1)).alloc (.cells #[v2] t2)).alloc (.cells #[v3] t3)).alloc (.cells #[v4] t4)) [(v1, t1), (v2, t2), (v3, t3), (v4, t4)] := boxes_at [(v1, t1), (v2, t2), (v3, t3), (v4, t4)] w
theorem boxes5 (w : World) (v1 v2 v3 v4 v5 : Value) (t1 t2 t3 t4 t5 : TypeId) : BoxesAt w (((((w.alloc (.cells #[v1] t1)).alloc (.cells #[v2] t2)).alloc (.cells #[v3] t3)).alloc (.cells #[v4] t4)).alloc (.cells #[v5] t5)) [(v1, t1), (v2, t2), (v3, t3), (v4, t4), (v5, t5)] := boxes_at [(v1, t1), (v2, t2), (v3, t3), (v4, t4), (v5, t5)] w
theorem boxes6 (w : World) (v1 v2 v3 v4 v5 v6 : Value) (t1 t2 t3 t4 t5 t6 : TypeId) : BoxesAt w ((((((w.alloc (.cells #[v1] t1)).alloc (.cells #[v2] t2)).alloc (.cells #[v3] t3)).alloc (.cells #[v4] t4)).alloc (.cells #[v5] t5)).alloc (.cells #[v6] t6)) [(v1, t1), (v2, t2), (v3, t3), (v4, t4), (v5, t5), (v6, t6)] := boxes_at [(v1, t1), (v2, t2), (v3, t3), (v4, t4), (v5, t5), (v6, t6)] w
theorem boxes7 (w : World) (v1 v2 v3 v4 v5 v6 v7 : Value) (t1 t2 t3 t4 t5 t6 t7 : TypeId) : BoxesAt w (((((((w.alloc (.cells #[v1] t1)).alloc (.cells #[v2] t2)).alloc (.cells #[v3] t3)).alloc (.cells #[v4] t4)).alloc (.cells #[v5] t5)).alloc (.cells #[v6] t6)).alloc (.cells #[v7] t7)) [(v1, t1), (v2, t2), (v3, t3), (v4, t4), (v5, t5), (v6, t6), (v7, t7)] := boxes_at [(v1, t1), (v2, t2), (v3, t3), (v4, t4), (v5, t5), (v6, t6), (v7, t7)] w
theorem boxes8 (w : World) (v1 v2 v3 v4 v5 v6 v7 v8 : Value) (t1 t2 t3 t4 t5 t6 t7 t8 : TypeId) : BoxesAt w ((((((((w.alloc (.cells #[v1] t1)).alloc (.cells #[v2] t2)).alloc (.cells #[v3] t3)).alloc (.cells #[v4] t4)).alloc (.cells #[v5] t5)).alloc (.cells #[v6] t6)).alloc (.cells #[v7] t7)).alloc (.cells #[v8] t8)) [(v1, t1), (v2, t2), (v3, t3), (v4, t4), (v5, t5), (v6, t6), (v7, t7), (v8, t8)] := boxes_at [(v1, t1), (v2, t2), (v3, t3), (v4, t4), (v5, t5), (v6, t6), (v7, t7), (v8, t8)] w

theorem cell_set_other (W : World) (a b : Addr) (v : Value) (h : b.block ≠ a.block) : (W.setCell a v).cell? b = W.cell? b := World.cell?_of_block (Below.heap_setCell W a v b.block h)
theorem free_set (W : World) (a b : Addr) (v : Value) : (W.setCell a v).frozen? b = W.frozen? b := by rw [World.frozen?_setCell]

theorem keepsOthers_drewN (W : World) (n : Nat) : KeepsOthers W (W.drewN n) := ⟨Nat.le_refl _, fun _ _ h _ => h⟩

/-- A function that holds a range over a function leaves, the mark among its deferred calls. -/
theorem leave_mark {fn : Func} {tmps : Array Value} {R : Ending → World → Prop} {D : Nat} {W : World} {v : Value} (hK : W.heap[D]? = some (.deferred (some [])))
    (hres : (results fn tmps).run P (W.putObj D (.deferred none)) = .ok v (W.putObj D (.deferred none))) (hR : R (.returned v) (W.putObj D (.deferred none))) :
    bodyPostM Fence.wide n P fn R .ret { tmps, defers := [{ target := .collected D, args := #[] }] } W :=
  ⟨by simp, .inl ⟨_, _, rfl, run_takeDeferred hK, ⟨v, hres, hR⟩⟩⟩

theorem below_putObj {B : Nat} {w W : World} (h : Below B w W) (hB : B ≤ W.heap.size) {D : Nat} (hD : B ≤ D) (o : Obj) : Below B w (W.putObj D o) := h.grown (grownBy_putObj' _ _ _) hB (fun k e => by cases e; exact hD)

theorem cell_putObj {W : World} {D : Nat} {a : Addr} {v : Value} (hK : W.heap[D]? = some (.deferred (some []))) (h : W.cell? a = some v) : (W.putObj D (.deferred none)).cell? a = some v :=
  cell_kept h (grownBy_putObj' _ _ _) (fun r e => by cases e; exact ⟨_, hK, rfl⟩)

/-- A callee inside a round. -/
theorem round_call {l : Nat} {f : FuncId} {args : Array Value} {w : World} {R : Ending → World → Prop} (h : Calls P f args w R) : CallsIn (Fence.wide.inRound l) n P f args w R :=
  (callsIn_wide (n := n)).2 h
end

end Go.Proofs.YtfeikolfdggnfaaDoor

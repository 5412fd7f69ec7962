/- An error's kind: errors.As walked; Kind. -/
import Derived.Test.YtfeikolfdggnfaaDoorTk
namespace Go.Proofs.YtfeikolfdggnfaaDoor
open Go.RowKit Go.Extern.Stop Go.Stop Go.Extern

theorem kd_assertAs (v : Value) (w : World) : (Instr.typeAssert (.iface 101 v) 33 123 true).run Tryd.prog w = .ok (.tuple #[.nilIface, .bool false]) w := run_typeAssert_lacksB Tryd.underlying123 (by kernel_rfl) (by kernel_rfl) v 33 w
theorem kd_assertUn (v : Value) (w : World) : (Instr.typeAssert (.iface 101 v) 33 126 true).run Tryd.prog w = .ok (.tuple #[.iface 101 v, .bool true]) w := by kernel_rfl
theorem kd_mUnwrap (v : Value) (w : World) : (Go.method 275 101 v "Unwrap").run Tryd.prog w = .ok (105, v) w := by kernel_rfl

theorem unwrap_any (g : Nat) (kind a : Int) (what : ByteArray) (w : World) (h : w.heap[g]? = some (faultObj kind a what)) :
    Calls Tryd.prog 105 #[.pointer (some ⟨g, 0, none⟩)] w fun e w' => e = .returned (.iface 26 (.int .i64 kind)) ∧ w = w' := by
  have hc : w.cell? ⟨g, 2, none⟩ = some (.iface 26 (.int .i64 kind)) := by simp [World.cell?, h, faultObj, errno]
  clear h
  go_enter Tryd.func105, Tryd.ntmps105
  go_wp2
  go_ret
  exact ⟨rfl, rfl⟩

set_option maxHeartbeats 4000000 in
set_option maxRecDepth 100000 in
theorem as_fault (g : Nat) (kind a : Int) (what : ByteArray) (t : Addr) (w : World) (hg : w.cell? ⟨0, 0, none⟩ = some (.iface 118 (.agg #[.pointer (some ⟨2, 33, none⟩)])))
    (ht0 : w.cell? t = some (.int .i64 0)) (hf0 : w.frozen? t = false) (hfa : w.heap[g]? = some (faultObj kind a what)) :
    Calls Tryd.prog 33 #[.iface 101 (.pointer (some ⟨g, 0, none⟩)), .iface 66 (.pointer (some t))] w fun ev w' => ev = .returned (.bool true) ∧ ∃ W, W.cell? t = some (.int .i64 0) ∧ Below w.heap.size w W ∧ W.setCell t (.int .i64 kind) = w' := by
  have h6 := @run_callFunc_extern Tryd.prog 48 _ (fun args => ReflectliteValue.unpack (args.getD 0 (.tuple #[]))) Tryd.func48 (by kernel_rfl) (by kernel_rfl) (by kernel_rfl) (by kernel_rfl)
  have h7 := @run_callFunc_extern Tryd.prog 49 _ (ReflectliteValue.methodAny (ReflectliteValue.valueError "reflectlite.Value.Type" 0) (fun t _ _ _ => ReflectliteType.toType t)) Tryd.func49 (by kernel_rfl) (by kernel_rfl) (by kernel_rfl) (by kernel_rfl)
  have h8 := @run_callFunc_extern Tryd.prog 50 _ (ReflectliteValue.method (ReflectliteValue.valueError "reflectlite.Value.IsNil" 0) ReflectliteValue.isNil) Tryd.func50 (by kernel_rfl) (by kernel_rfl) (by kernel_rfl) (by kernel_rfl)
  have h27 := @run_callFunc_extern Tryd.prog 96 _ (ReflectliteType.abiMethod fun t => do pure (.int .u8 (← Rtype.kind t))) Tryd.func96 (by kernel_rfl) (by kernel_rfl) (by kernel_rfl) (by kernel_rfl)
  have h37 := @run_callFunc_extern Tryd.prog 109 _ (ReflectliteType.method ReflectliteType.elem) Tryd.func109 (by kernel_rfl) (by kernel_rfl) (by kernel_rfl) (by kernel_rfl)
  have h38 := @run_callFunc_extern Tryd.prog 110 _ (ReflectliteType.relation "Implements" ReflectliteType.implements_) Tryd.func110 (by kernel_rfl) (by kernel_rfl) (by kernel_rfl) (by kernel_rfl)
  have h10 := @run_callFunc_extern Tryd.prog 69 _ ReflectliteType.typeOf Tryd.func69 (by kernel_rfl) (by kernel_rfl) (by kernel_rfl) (by kernel_rfl)
  have h35 := @run_callFunc_extern Tryd.prog 107 _ (ReflectliteType.relation "AssignableTo" ReflectliteType.assignableTo) Tryd.func107 (by kernel_rfl) (by kernel_rfl) (by kernel_rfl) (by kernel_rfl)
  have h11 := @run_callFunc_extern Tryd.prog 70 _ (ReflectliteValue.method (ReflectliteValue.valueError "reflectlite.Value.Elem" 0) ReflectliteValue.elem) Tryd.func70 (by kernel_rfl) (by kernel_rfl) (by kernel_rfl) (by kernel_rfl)
  have h12 := @run_callFunc_extern Tryd.prog 71 _ ReflectliteValue.set Tryd.func71 (by kernel_rfl) (by kernel_rfl) (by kernel_rfl) (by kernel_rfl)
  have tE := kd_typeOfE
  have tF := kd_typeOfF
  have mA := kd_mAssignableTo
  have aE := kd_assignE
  have aF := kd_assignF
  have vE := kd_valueOfE
  have f6 := kd_valueOf
  have f7 := kd_type
  have mK := kd_mKind
  have mE := kd_mElem
  have mI := kd_mImplements
  have kP := kd_kindP
  have kE := kd_kindE
  have el := kd_elem
  have im := kd_implements
  have htl : t.block < w.heap.size := World.block_lt_of_cell? w _ ht0
  have hlt : 0 < w.heap.size := World.block_lt_of_cell? w _ hg
  have n8 := kd_isNil ⟨w.heap.size, 0, none⟩ t ((w.alloc (.cells #[.pointer (some t)] 66)).alloc (.cells #[.pointer (some ⟨2, 66, none⟩), .pointer (some ⟨w.heap.size, 0, none⟩), .int .u64 150] 88)) (by rw [World.cell?_alloc_lt _ _ ⟨w.heap.size, 0, none⟩ (by simp)]; exact World.cell?_alloc_new _ _ _ 0)
  have hg2 : ((w.alloc (.cells #[.pointer (some t)] 66)).alloc (.cells #[.pointer (some ⟨2, 66, none⟩), .pointer (some ⟨w.heap.size, 0, none⟩), .int .u64 150] 88)).cell? ⟨0, 0, none⟩ = some (.iface 118 (.agg #[.pointer (some ⟨2, 33, none⟩)])) := by
    rw [World.cell?_alloc_lt _ _ ⟨0, 0, none⟩ (by simp), World.cell?_alloc_lt _ _ ⟨0, 0, none⟩ hlt]; exact hg
  go_enter Tryd.func33, Tryd.ntmps33
  go_wp2
  obtain ⟨W, hW⟩ : ∃ W, (((w.alloc (.cells #[.pointer (some t)] 66)).alloc (.cells #[.pointer (some ⟨2, 66, none⟩), .pointer (some ⟨w.heap.size, 0, none⟩), .int .u64 150] 88)).alloc (.cells #[.pointer (some ⟨2, 66, none⟩), .pointer (some ⟨w.heap.size, 0, none⟩), .int .u64 150] 88)) = W := ⟨_, rfl⟩
  have hbW : Below w.heap.size w W := by rw [← hW]; exact (((Below.refl _ _).alloc (Nat.le_refl _) _).alloc (by simp) _).alloc (by simp; omega) _
  have hzW : W.heap.size = w.heap.size + 1 + 1 + 1 := by rw [← hW]; simp
  have c0 : W.cell? ⟨w.heap.size, 0, none⟩ = some (.pointer (some t)) := by rw [← hW, World.cell?_alloc_lt _ _ ⟨w.heap.size, 0, none⟩ (by simp; omega), World.cell?_alloc_lt _ _ ⟨w.heap.size, 0, none⟩ (by simp)]; exact World.cell?_alloc_new _ _ _ 0
  have d0 : W.cell? ⟨w.heap.size + 1 + 1, 0, none⟩ = some (.pointer (some ⟨2, 66, none⟩)) := by rw [← hW, World.cell?_alloc_at _ _ _ _ (by simp)]; rfl
  have d1 : W.cell? ⟨w.heap.size + 1 + 1, 1, none⟩ = some (.pointer (some ⟨w.heap.size, 0, none⟩)) := by rw [← hW, World.cell?_alloc_at _ _ _ _ (by simp)]; rfl
  have d2 : W.cell? ⟨w.heap.size + 1 + 1, 2, none⟩ = some (.int .u64 150) := by rw [← hW, World.cell?_alloc_at _ _ _ _ (by simp)]; rfl
  rw [hW]
  have htW : W.cell? t = some (.int .i64 0) := (hbW.cell htl).trans ht0
  have hfW : W.frozen? t = false := (hbW.frozen htl).trans hf0
  have haW : W.heap[g]? = some (faultObj kind a what) := (hbW.block g (Array.getElem?_eq_some_iff.1 hfa).1).trans hfa
  have HA := Lib.hid haW
  have HB := Lib.hid hbW
  have HZ := Lib.hid hzW
  clear n8 hg2 hg ht0 hf0 hfa hW f6 f7 h7 h8 h27 h37 h38 mK mE mI kP kE el im haW hbW hzW hlt
  have t1 := kd_assertAs
  have t2 := kd_assertUn
  have m2 := kd_mUnwrap
  refine wp_loop_rounds 2 ?_
  rw [rounds_succ]
  go_wp2_with (go_at_call 105; refine (unwrap_any g kind a what _ HA.out).mono ?_; rintro e w' ⟨rfl, rfl⟩)
  have ev := kd_elemV ⟨w.heap.size, 0, none⟩ t W c0
  have st := kd_set t ⟨W.heap.size, 0, none⟩ kind (.int .i64 0) (W.alloc (.cells #[.int .i64 kind] 26)) (World.cell?_alloc_new _ _ _ 0) (by rw [World.cell?_alloc_lt _ _ t (by have := HB.out.size; omega)]; exact htW) (by rw [World.frozen?_alloc_old _ _ t (by have := HB.out.size; omega)]; exact hfW)
  clear aF tF t1 t2 m2
  rw [rounds_succ]
  go_wp2
  go_ret
  refine ⟨rfl, W.alloc (.cells #[.int .i64 kind] 26), ?_, HB.out.alloc HB.out.size _, rfl⟩
  rw [World.cell?_alloc_lt _ _ t (by have := HB.out.size; omega)]; exact htW

theorem as_nil (t : Value) (w : World) :
    Calls Tryd.prog 33 #[.nilIface, t] w fun e w' => e = .returned (.bool false) ∧ w = w' := by
  go_enter Tryd.func33, Tryd.ntmps33
  go_wp2
  go_ret
  exact ⟨rfl, rfl⟩

/-- What the listed variable holds: the type of errors. -/
def ErrVar (w : World) : Prop := w.cell? ⟨0, 0, none⟩ = some (.iface 118 (.agg #[.pointer (some ⟨2, 33, none⟩)]))

theorem ErrVar.below {w w' : World} (h : ErrVar w) (hb : Below w.heap.size w w') : ErrVar w' := (hb.cell (p := ⟨0, 0, none⟩) (World.block_lt_of_cell? w _ h)).trans h

theorem kind_nil (w : World) : Calls Tryd.prog 13 #[.nilIface] w fun e w' => e = .returned (.int .i64 0) ∧ w = w' := by
  go_enter Tryd.func13, Tryd.ntmps13
  go_wp2
  go_ret
  exact ⟨rfl, rfl⟩

theorem kind_fault (g : Nat) (kind a : Int) (what : ByteArray) (w : World) (hv : ErrVar w) (hfa : w.heap[g]? = some (faultObj kind a what)) :
    Calls Tryd.prog 13 #[faultV g] w fun e w' => e = .returned (.int .i64 kind) ∧ Below w.heap.size w w' := by
  unfold faultV
  have hb0 : Below w.heap.size w (w.alloc (.cells #[.int .i64 0] 26)) := (Below.refl _ _).alloc (Nat.le_refl _) _
  have ha := as_fault g kind a what ⟨w.heap.size, 0, none⟩ (w.alloc (.cells #[.int .i64 0] 26)) (hv.below hb0) (World.cell?_alloc_new _ _ _ 0) (World.frozen?_alloc_new _ _ _ 0) ((hb0.block g (Array.getElem?_eq_some_iff.1 hfa).1).trans hfa)
  have HA := Lib.hid ha
  have HB := Lib.hid hb0
  clear ha hb0 hv hfa
  go_enter Tryd.func13, Tryd.ntmps13
  go_wp2_with fail
  refine HA.out.mono ?_
  rintro e w' ⟨rfl, W, hc, hb, hw⟩
  have hc2 : w'.cell? ⟨w.heap.size, 0, none⟩ = some (.int .i64 kind) := by rw [← hw]; exact World.cell?_setCell_same' _ _ _ (by rw [hc]; rfl)
  have hb2 : Below w.heap.size w w' := by
    rw [← hw]
    exact (HB.out.trans (hb.mono (by simp))).setCell (p := ⟨w.heap.size, 0, none⟩) (Nat.le_refl _) _
  have HB2 := Lib.hid hb2
  clear hw hb hb2 hc
  go_wp2
  go_ret
  exact ⟨rfl, HB2.out⟩

end Go.Proofs.YtfeikolfdggnfaaDoor

/- What a row's arguments give a walk, and what is shown behind it: the arguments read as they did. -/
import Derived.Test.YtimcjkkbooinbaaRows
import Derived.Test.YtimcjkkbooinbaaGr
import Derived.ChangeSame
import Derived.ChangeVars
import Derived.JoinedOf
import Derived.RowKit
import Derived.RowKitTokens
import Derived.Stop.Joined
import Derived.Carry
import Derived.OpenShut
import Derived.Deep.Strs
namespace Go.Proofs.Ytimcjkkbooinbaa
open Go.ChangeShapes Go.WideShapes Go.RowKit Go.Deep
set_option maxRecDepth 100000

theorem own : ownKnob Try.prog.godebug = none := by kernel_rfl
theorem laidOut : laidOutB Try.prog = true := by kernel_rfl

section
variable {H : Type} {enc : TypeId × Value → H}

/-- A slice of texts, opened. -/
theorem open_texts {W : World} {base : Nat} {v : Value} {d : DataW H} {p : List MemPlace} (hv : Value.okWide Try.prog W .any base 22 v) (h : DataW.Trod enc Try.prog W 0 (fun _ => true) true 22 v d p) :
    ∃ (a : Option Addr) (cap : Nat) (l : List ByteArray), v = .slice a l.length cap ∧ l.length ≤ 9223372036854775807 ∧ (∀ x ∈ l, x.size ≤ maxLen) ∧ StrsAt W a l := by
  obtain ⟨a0, len, cap, rfl⟩ := okWide_slice Try.underlying22 hv
  obtain ⟨fuel, hf⟩ := h
  rcases open_strs Try.underlying22 Try.underlying9 (by kernel_rfl) hf with ⟨e1, e2⟩ | ⟨a, len', cap', m, Sx, e1, hb, hl, hm, hmm, e2, hx⟩
  · have e1' : [Value.slice a0 len cap] = [Value.slice none 0 0] := e1
    simp only [List.cons.injEq, Value.slice.injEq, and_true] at e1'
    obtain ⟨rfl, rfl, rfl⟩ := e1'
    exact ⟨none, 0, [], rfl, by simp, by simp, fun i hi => absurd hi (by simp)⟩
  · have e1' : [Value.slice a0 len cap] = [Value.slice (some a) len' cap'] := e1
    simp only [List.cons.injEq, Value.slice.injEq, and_true] at e1'
    obtain ⟨rfl, rfl, rfl⟩ := e1'
    simp only [if_true] at hmm
    subst hmm
    refine ⟨some a, m, (List.range len).map Sx, by simp, by simp; unfold maxLen at hm; omega, ?_, ?_⟩
    · intro x hx'
      obtain ⟨i, hi, rfl⟩ := List.mem_map.1 hx'
      exact (hx i (by have := List.mem_range.1 hi; omega)).2
    · intro i hi
      have hi' : i < len := by simpa using hi
      have h1 := (hx i (by omega)).1
      obtain ⟨b, off, sub⟩ := a
      have hsub : sub = none := by
        rcases Option.eq_none_or_eq_some sub with h0 | ⟨s, rfl⟩
        · exact h0
        · exfalso
          have h2 := (hx 0 (by omega)).1
          simp only [Addr.add, World.cell?, if_true, Option.isSome_some] at h2
          split at h2 <;> cases h2
      subst hsub
      refine ⟨b, off, rfl, ?_⟩
      have e3 : ((⟨b, off, none⟩ : Addr).add i) = ⟨b, off + i, none⟩ := by
        unfold Addr.add
        split
        · rename_i h0; rw [h0]; rfl
        · rfl
      rw [e3] at h1
      simpa using h1

/-- A text, opened. -/
theorem open_text {W : World} {base : Nat} {v : Value} {d : DataW H} {p : List MemPlace} (hv : Value.okWide Try.prog W .any base 9 v) (h : DataW.Trod enc Try.prog W 0 (fun _ => true) true 9 v d p) :
    ∃ s : ByteArray, v = .string s ∧ s.size ≤ maxLen := by
  obtain ⟨s, rfl⟩ := okWide_string Try.underlying9 hv
  obtain ⟨fuel, hf⟩ := h
  obtain ⟨s', e1, -, hs⟩ := DataW.trod_string Try.underlying9 hf
  have e1' : [Value.string s] = [Value.string s'] := e1
  cases e1'
  exact ⟨s, rfl, hs⟩

/-- All arguments read behind the call as they did before it. -/
theorem trodAll_below {W W' : World} (hb : Below W.heap.size W W') {sp : Nat → Bool} : ∀ {ts : List TypeId} {vs : List Value} {ds : List (DataW H)} {ps : List MemPlace}, (∀ t ∈ ts, Try.prog.readableRec t = true ∧ t < Try.prog.types.size) →
    DataW.TrodAll enc Try.prog W 0 (fun _ => true) true ts vs ds ps → (∀ x ∈ ps, x.block < W.heap.size) → (∀ x ∈ ps, sp x.block = true) → DataW.TrodAll enc Try.prog W' 0 sp true ts vs ds ps
  | [], _, _, _, _, h, _, _ => by
    obtain ⟨rfl, rfl, rfl⟩ := trodAll_nil h
    exact trodAll_mk0
  | t :: ts, _, _, _, hr, h, hlt, hs => by
    obtain ⟨v, vs, d, ds, p, q, rfl, rfl, rfl, h1, h2⟩ := trodAll_cons h
    refine trodAll_cons_mk ?_ ?_
    · exact WideElems.Trod_stays laidOut (hr t (by simp)).1 (hr t (by simp)).2 h1 (fun x hx => hb.same (hlt x (by simp [hx]))) (fun x hx => hs x (by simp [hx]))
    · exact trodAll_below hb (fun u hu => hr u (by simp [hu])) h2 (fun x hx => hlt x (by simp [hx])) (fun x hx => hs x (by simp [hx]))

/-- What is asked behind a call that returns true and leaves what lay as it lay. -/
theorem post_of_below {f : Func} {s : ChangeSpec} {apart fresh handsOn again : Bool} {W W' : World} {args : Array Value} {ds gs : List (DataW H)} {before : List MemPlace}
    (hp : ∀ t ∈ f.params.toList, Try.prog.readableRec t = true ∧ t < Try.prog.types.size) (hr : f.resultTypes = #[4]) (hvars : s.vars = [])
    (hfn : s.fn H (ds ++ gs) = { results := [.lit (.bool true)], args := ds }) (hW : DataW.Whole enc Try.prog f.params.toList s.vars apart W args.toList ds gs before) (hb : Below W.heap.size W W') :
    s.post enc Try.prog f apart fresh handsOn again W args (.bool true) W' := by
  have hlt := hW.lt
  have hold : ∀ p ∈ before, (fun b => decide (b < W.heap.size)) p.block = true := fun p hp => by simpa using hlt p hp
  obtain ⟨p, q, hA, hV, hpq, hz, hn⟩ := id hW
  rw [hvars] at hV
  obtain ⟨hg, hq⟩ := trodVars_none hV
  subst hg; subst hq
  rw [List.append_nil] at hpq
  subst hpq
  have hres : ∀ (b : Nat) (sp : Nat → Bool) (hd : Bool), DataW.TrodAll enc Try.prog W' b sp hd f.resultTypes.toList ((Value.bool true).resultList f.resultTypes.size) (s.fn H (ds ++ [])).results [] := by
    intro b sp hd
    rw [hfn, hr]
    exact trodAll_mk1 (shut_bool Try.underlying4 true)
  have hargs : ∀ sp : Nat → Bool, (∀ x ∈ before, sp x.block = true) → DataW.TrodAll enc Try.prog W' 0 sp true f.params.toList args.toList (s.fn H (ds ++ [])).args before := by
    intro sp hs
    rw [hfn]
    exact trodAll_below hb hp hA hlt hs
  have hvs : ∀ sp : Nat → Bool, DataW.TrodVars enc Try.prog W' sp s.vars (s.fn H (ds ++ [])).vars [] := by
    intro sp
    rw [hfn, hvars]
    rfl
  refine ⟨ds, [], before, [], before, [], hW, hres _ _ _, hargs _ hold, hvs _, hb.frame _, fun _ => ?_⟩
  refine ⟨ok_one hr rfl (okWide_bool_mk Try.underlying4 _), _, _, ([] ++ before) ++ [], ⟨[] ++ before, [], trodAll_append (hargs _ (fun _ _ => rfl)) (hres _ _ _), hvs _, rfl, ?_, ?_⟩, ?_⟩
  · intro b off hp
    rw [hb.frozen (hlt _ (by simpa using hp))]
    exact hz b off (by simpa using hp)
  · intro ha
    have := hn ha
    simpa using this
  · intro p hp _
    simpa using hp
end

end Go.Proofs.Ytimcjkkbooinbaa

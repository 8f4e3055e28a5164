/- From a law's contract to its row: every argument reads behind the call as it did, and the law answers true. -/
import Derived.Test.YtljmhenhibhbfaaRows
import Derived.Test.YtljmhenhibhbfaaMem
import Derived.ProofKit
import Derived.Carry
import Derived.OpenShut
import Derived.Lib.SmallJoins
import Derived.SizedLaws
namespace Go.Proofs.Ytljmhenhibhbfaa
open Go.ChangeShapes Go.WideShapes Go.ChangeAt Go.RowKit

theorem own : ownKnob Try.prog.godebug = none := by kernel_rfl
theorem laidOut : laidOutB Try.prog = true := by kernel_rfl

theorem trodAll_below {H : Type} {enc : TypeId × Value → H} {P : Program} (hl : laidOutB P = true) {W W' : World} (hb : Below W.heap.size W W') :
    ∀ (ts : List TypeId) (vs : List Value) (ds : List (DataW H)) (ps : List MemPlace), ts.all (fun t => P.readableRec t && decide (t < P.types.size)) = true →
      DataW.TrodAll enc P W 0 (fun _ => true) true ts vs ds ps → (∀ x ∈ ps, x.block < W.heap.size) → DataW.TrodAll enc P W' 0 (fun b => decide (b < W.heap.size)) true ts vs ds ps
  | [], vs, ds, ps, _, h, _ => by
    obtain ⟨rfl, rfl, rfl⟩ := trodAll_nil h
    exact trodAll_mk0
  | t :: ts, vs, ds, ps, ht, h, hlt => by
    obtain ⟨v, vs', d, ds', p, q, rfl, rfl, rfl, hd, hr⟩ := trodAll_cons h
    simp only [List.all_cons, Bool.and_eq_true, decide_eq_true_eq] at ht
    exact trodAll_cons_mk (Below.trod hl ht.1.1 ht.1.2 hd hb (fun x hx => hlt x (List.mem_append_left _ hx)))
      (trodAll_below hl hb ts vs' ds' q ht.2 hr (fun x hx => hlt x (List.mem_append_right _ hx)))

theorem trodAll_length {H : Type} {enc : TypeId × Value → H} {P : Program} {W : World} {base : Nat} {spare : Nat → Bool} {held : Bool} :
    ∀ (ts : List TypeId) (vs : List Value) (ds : List (DataW H)) (ps : List MemPlace), DataW.TrodAll enc P W base spare held ts vs ds ps → ds.length = ts.length
  | [], vs, ds, ps, h => by
    obtain ⟨rfl, rfl, rfl⟩ := trodAll_nil h
    rfl
  | t :: ts, vs, ds, ps, h => by
    obtain ⟨v, vs', d, ds', p, q, rfl, rfl, rfl, hd, hr⟩ := trodAll_cons h
    simp [trodAll_length ts vs' ds' q hr]

/-- A law's row out of its contract. -/
theorem law_lift {H : Type} {enc : TypeId × Value → H} {os : Os} {f : FuncId} {fn : Func} {s : ChangeSpec} {bT : TypeId} (started : os.Started) (noInit : Try.checked.prog.inits.idxOf? f = none) (hf : Try.checked.prog.funcs[f]? = some fn)
    (hv : s.vars = []) (hres : fn.resultTypes = #[bT]) (hbool : Try.checked.prog.underlying bT = some .bool)
    (hread : fn.params.toList.all (fun t => Try.checked.prog.readableRec t && decide (t < Try.checked.prog.types.size)) = true)
    (hs : ∀ ds : List (DataW H), ds.length = fn.params.toList.length → s.fn H (ds ++ []) = { results := [.lit (.bool true)], args := ds })
    (witness : ∃ (w : World) (tape : Tape) (i : Input), w.os = os ∧ (w.forCall tape i).Shaped Try.checked.prog ∧ i.vars = [] ∧ Input.okWide Try.checked.prog (w.forCall tape i) .any w.heap.size f i ∧
      s.pre6 enc Try.checked.prog fn [] false (w.forCall tape i).memory i.args ∧ ({} : Assume).holds Try.checked.prog (lone (Frame.enter Try.checked.prog f i.args .normal) [] (w.forCall tape i)))
    (contract : ∀ (W : World) (base : Nat) (args : Array Value) (ds : List (DataW H)) (ps : List MemPlace),
      (∀ (j : Nat) t v, fn.params[j]? = some t → args[j]? = some v → Value.okWide Try.checked.prog W .any base t v) →
      DataW.TrodAll enc Try.checked.prog W 0 (fun _ => true) true fn.params.toList args.toList ds ps → (∀ x ∈ ps, x.block < W.heap.size) →
      Calls Try.checked.prog f args W fun e W' => e = .returned (.bool true) ∧ Below W.heap.size W W') :
    ReturnsInHanded {} Try.checked os f .any (s.pre6 enc Try.checked.prog fn [] false) (s.post enc Try.checked.prog fn false true false false) := by
  refine returnsInHanded_of_change (C := Try.checked) own started noInit hf witness ?_
  intro W base args ds gs before hval hW _ _
  have hW' := hW
  obtain ⟨p, q, hA, hV, rfl, _, _⟩ := hW
  rw [hv] at hV
  obtain ⟨rfl, rfl⟩ := trodVars_none hV
  have hlt : ∀ x ∈ p, x.block < W.heap.size := fun x hx => by simpa using hW'.lt x (List.mem_append_left _ hx)
  have hlen := trodAll_length _ _ _ _ hA
  refine (contract W base args ds p hval hA hlt).mono fun e W' ⟨he, hb⟩ => ?_
  subst he
  refine ⟨_, rfl, _, _, _, [], p, [], hW', ?_, ?_, ?_, hb.frame _, fun h => by cases h⟩
  · rw [hs ds hlen, hres]
    exact trodAll_mk1 (shut_bool hbool true)
  · rw [hs ds hlen]
    exact trodAll_below laidOut hb _ _ _ _ hread hA hlt
  · rw [hs ds hlen, hv]
    rfl

/-- A point by value. -/
theorem open_pt {H : Type} {enc : TypeId × Value → H} {W : World} {base : Nat} {v : Value} {d : DataW H} {p : List MemPlace} (hv : Value.okWide Try.checked.prog W .any base 23 v)
    (h : DataW.Trod enc Try.checked.prog W 0 (fun _ => true) true 23 v d p) :
    ∃ x y : Int, v = .agg #[.int .i64 x, .int .i64 y] ∧ (Lit.int .i64 x).wf = true ∧ (Lit.int .i64 y).wf = true := by
  obtain ⟨c0, c1, y0, y1, m, rfl, rfl, rfl, hy0, hy1⟩ := Go.Joins.open_agg2 Try.underlying23 (by kernel_rfl) (by kernel_rfl) hv h
  obtain ⟨x, e0, _, wx⟩ := DataW.trod_int Try.underlying3 hy0
  obtain ⟨y, e1, _, wy⟩ := DataW.trod_int Try.underlying3 hy1
  simp at e0 e1
  subst e0 e1
  exact ⟨x, y, rfl, wx, wy⟩
theorem wf_i64_bd {n : Int} (h : (Lit.int .i64 n).wf = true) : -9223372036854775808 ≤ n ∧ n ≤ 9223372036854775807 := by
  simpa [Lit.wf, IntKind.min, IntKind.max, IntKind.signed, IntKind.bits] using h
end Go.Proofs.Ytljmhenhibhbfaa

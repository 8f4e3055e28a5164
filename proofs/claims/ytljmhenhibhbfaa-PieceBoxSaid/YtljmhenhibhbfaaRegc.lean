/- A region that draws its order, walked in an order of one's own choice: operations that yield one value whenever they come are done as soon as they may; the others, which make or write memory, as they come. No program in sight. -/
import Derived.Test.YtljmhenhibhbfaaRegb
namespace Go.Proofs.Ytljmhenhibhbfaa.Reg
open Go Go.RowKit

/-- The second world keeps the first one's blocks, of those that K names. -/
structure Kp (K : Nat → Prop) (w x : World) : Prop where
  os : x.os = w.os
  tape : x.tape = w.tape
  output : x.output = w.output
  size : w.heap.size ≤ x.heap.size
  block : ∀ b, b < w.heap.size → K b → x.heap[b]? = w.heap[b]?
theorem Kp.of_gr {K : Nat → Prop} {w x : World} (h : Gr w x) : Kp K w x := ⟨h.os, h.tape, h.output, h.size, fun b hb _ => h.block b hb⟩
theorem Kp.refl (K : Nat → Prop) (w : World) : Kp K w w := Kp.of_gr (Gr.refl w)
theorem Kp.trans {K : Nat → Prop} {w x y : World} (h : Kp K w x) (k : Kp K x y) : Kp K w y :=
  ⟨k.os.trans h.os, k.tape.trans h.tape, k.output.trans h.output, Nat.le_trans h.size k.size, fun b hb hK => (k.block b (Nat.lt_of_lt_of_le hb h.size) hK).trans (h.block b hb hK)⟩
theorem Kp.of_below {B : Nat} {K : Nat → Prop} {w x : World} (h : Below B w x) (hK : ∀ b, K b → b < B) : Kp K w x := ⟨h.os, h.tape, h.output, h.size, fun b _ hb => h.block b (hK b hb)⟩
theorem Kp.of_grown {K : Nat → Prop} {w x : World} {row : Option Nat} (h : w.grownBy x row) (hK : ∀ b, row = some b → ¬ K b) : Kp K w x :=
  ⟨h.os, h.tape, h.output, h.size, fun b hb hk => h.block b hb fun e => hK b e.symm hk⟩
theorem Kp.of_set {K : Nat → Prop} {w : World} {b i : Nat} (u : Value) (h : ¬ K b) : Kp K w (w.setCell ⟨b, i, none⟩ u) :=
  ⟨rfl, rfl, rfl, by simp [World.setCell], fun k _ hk => Below.heap_setCell _ _ _ _ (fun e => h (by rw [show b = k from e.symm]; exact hk))⟩

section
open Classical in
noncomputable def bas (K : Nat → Prop) (w : World) : Option World → World
  | none => w
  | some r => if Kp K w r then r else w
def cls (K : Nat → Prop) (w : World) : Option World → World → Prop
  | none, z => Kp K w z
  | some r, z => Gr (bas K w (some r)) z
open Classical in
theorem kp_bas (K : Nat → Prop) (w : World) : ∀ u, Kp K w (bas K w u)
  | none => Kp.refl K w
  | some r => by
    show Kp K w (if Kp K w r then r else w)
    split
    · assumption
    · exact Kp.refl K w
theorem cls_bas (K : Nat → Prop) (w : World) : ∀ u, cls K w u (bas K w u)
  | none => Kp.refl K w
  | some _ => Gr.refl _
theorem cls_kp {K : Nat → Prop} {w z : World} : ∀ {u}, cls K w u z → Kp K w z
  | none, h => h
  | some r, h => (kp_bas K w (some r)).trans (Kp.of_gr h)
theorem cls_gr {K : Nat → Prop} {w x z : World} : ∀ {u}, cls K w u x → Gr x z → cls K w u z
  | none, h, k => Kp.trans h (Kp.of_gr k)
  | some _, h, k => Gr.trans h k
open Classical in
theorem cls_some {K : Nat → Prop} {w r : World} (h : Kp K w r) : cls K w (some r) = Gr r := by
  funext z
  show Gr (if Kp K w r then r else w) z = Gr r z
  rw [if_pos h]
open Classical in
noncomputable def aftK (K : Nat → Prop) (w : World) (u : Option World) (z : World) : World := if cls K w u z then z else bas K w u
theorem cls_aft (K : Nat → Prop) (w : World) (u : Option World) (z : World) : cls K w u (aftK K w u z) := by
  unfold aftK
  split
  · assumption
  · exact cls_bas K w u
theorem kp_aft (K : Nat → Prop) (w : World) (u : Option World) (z : World) : Kp K w (aftK K w u z) := cls_kp (cls_aft K w u z)
theorem clsK_eq (K : Nat → Prop) (w : World) (u : Option World) : (fun x => ∃ z, x = aftK K w u z) = cls K w u := by
  funext x
  refine propext ⟨fun ⟨z, hz⟩ => by rw [hz]; exact cls_aft K w u z, fun hx => ⟨x, ?_⟩⟩
  unfold aftK
  rw [if_pos hx]
theorem aftK_cell (K : Nat → Prop) (w : World) (u : Option World) (z : World) (b o : Nat) (s : Option Nat) (h : b < w.heap.size) (hK : K b) : (aftK K w u z).cell? ⟨b, o, s⟩ = w.cell? ⟨b, o, s⟩ :=
  World.cell?_of_block (w := w) ((kp_aft K w u z).block b h hK)
theorem aftK_frozen (K : Nat → Prop) (w : World) (u : Option World) (z : World) (b o : Nat) (s : Option Nat) (h : b < w.heap.size) (hK : K b) : (aftK K w u z).frozen? ⟨b, o, s⟩ = w.frozen? ⟨b, o, s⟩ :=
  World.frozen?_of_block (w := w) ((kp_aft K w u z).block b h hK)
attribute [go_sem] aftK_cell aftK_frozen
theorem aftK_size (K : Nat → Prop) (w : World) (u : Option World) (z : World) : w.heap.size ≤ (aftK K w u z).heap.size := (kp_aft K w u z).size
theorem aftK_block (K : Nat → Prop) (w : World) (u : Option World) (z : World) (b : Nat) (h : b < w.heap.size) (hK : K b) : (aftK K w u z).heap[b]? = w.heap[b]? := (kp_aft K w u z).block b h hK
theorem calls_aftK {P : Program} {f : FuncId} {args : Array Value} {K : Nat → Prop} {w : World} {u : Option World} {z : World} {v : Value}
    (h : Calls P f args (aftK K w u z) fun e w' => e = .returned v ∧ Below (aftK K w u z).heap.size (aftK K w u z) w') :
    Calls P f args (aftK K w u z) fun e w' => e = .returned v ∧ ∃ z', w' = aftK K w u z' := by
  refine h.mono fun e w' ⟨he, hb⟩ => ⟨he, w', ?_⟩
  unfold aftK
  rw [if_pos (cls_gr (cls_aft K w u z) hb)]
theorem calls_aftK_same {P : Program} {f : FuncId} {args : Array Value} {K : Nat → Prop} {w : World} {u : Option World} {z : World} {v : Value}
    (h : Calls P f args (aftK K w u z) fun e w' => e = .returned v ∧ aftK K w u z = w') :
    Calls P f args (aftK K w u z) fun e w' => e = .returned v ∧ ∃ z', w' = aftK K w u z' :=
  h.mono fun _ _ ⟨he, hw⟩ => ⟨he, z, hw.symm⟩
end

section
variable {P : Program} {ops : Array Oper} {md : Region.Mode} {K : Nat → Prop}

/-- An operation yields one value in every world that keeps what K names, and leaves a grown one. -/
def YK (P : Program) (ops : Array Oper) (K : Nat → Prop) (o : Oper) (v : Value) (a : Act) (w : World) : Prop :=
  (Region.wanted o (yielded ops a.tmps) = true ∧ ∀ x, Kp K w x → o.quietAt P a (Gr x) x v) ∨ (Region.wanted o (yielded ops a.tmps) = false ∧ v = undef)
theorem YK.keep {o : Oper} {v : Value} {a : Act} {w w' : World} (hg : Kp K w w') (h : YK P ops K o v a w) : YK P ops K o v a w' :=
  h.imp (fun ⟨h1, h2⟩ => ⟨h1, fun x hx => h2 x (hg.trans hx)⟩) id
theorem YK.same {o : Oper} {v : Value} {a a' : Act} {w : World} (h : YK P ops K o v a w) (he : execOp a'.eval o = execOp a.eval o)
    (hw : Region.wanted o (yielded ops a'.tmps) = Region.wanted o (yielded ops a.tmps)) : YK P ops K o v a' w := by
  unfold YK Oper.quietAt at *
  rw [he, hw]
  exact h
theorem YK.wpOp {i : Nat} {o : Oper} {v : Value} {a : Act} {x : World} {Q : Exit → Act → World → Prop} {C : Act → World → Prop} (hi : ops[i]? = some o) (hy : YK P ops K o v a x)
    (hC : ∀ y, Gr x y → C (a.put o.dst v) y) : wpOp P ops Q i C a x := by
  unfold Go.wpOp
  simp only [hi]
  rcases hy with ⟨hw, hq⟩ | ⟨hw, rfl⟩
  · simp only [hw, if_true]
    refine .inl (Oper.wp_of_quiet (C := Gr x) (K := fun a' => a' = a.put o.dst v) (Gr.refl x) (fun a' w' hw' he => by subst he; exact hC _ hw') ⟨v, fun y hy => ?_, rfl⟩)
    exact quietAt_mono (fun z hz => hy.trans hz) (hq y (Kp.of_gr hy))
  · simp only [hw, Bool.false_eq_true, if_false]
    exact hC _ (Gr.refl x)

/-- Whatever is still to come, each step from a world that may have grown, each to a world that keeps what K names; then Q. -/
def wpR (P : Program) (md : Region.Mode) (ops : Array Oper) (K : Nat → Prop) (Q : Act → World → Prop) : Nat → Array Bool → Act → World → Prop
  | 0, listed, a, w => ∀ x, Gr w x → Region.ready md ops listed = [] ∧ Q a x
  | f + 1, listed, a, w => ∀ x, Gr w x → Region.ready md ops listed ≠ [] ∧ ∀ i ∈ Region.ready md ops listed,
      wpOp P ops Never i (fun a' w' => Kp K x w' ∧ wpR P md ops K Q f (listed.setIfInBounds i true) a' w') a x
theorem wpR_grow {Q : Act → World → Prop} {f : Nat} {listed : Array Bool} {a : Act} {w w' : World} (hg : Gr w w') (h : wpR P md ops K Q f listed a w) : wpR P md ops K Q f listed a w' := by
  cases f with
  | zero => exact fun x hx => h x (hg.trans hx)
  | succ f => exact fun x hx => h x (hg.trans hx)
theorem wpAny_of_R {Q : Exit → Act → World → Prop} : ∀ (f : Nat) (listed : Array Bool) (a : Act) (w : World), wpR P md ops K (Q .normal) f listed a w → wpAny P md ops Q f listed a w
  | 0, listed, a, w, h => h w (Gr.refl w)
  | f + 1, listed, a, w, h => by
    obtain ⟨h1, h2⟩ := h w (Gr.refl w)
    exact ⟨fun h0 => absurd h0 h1, fun i hi => wpOp_never (fun a' w' h' => wpAny_of_R f _ a' w' h'.2) (h2 i hi)⟩

theorem wpR_first {Q : Act → World → Prop} {i : Nat} {oi : Oper} {v : Value} (hi : ops[i]? = some oi) (hsel : ∀ (j : Nat) (o : Oper) cs b, ops[j]? = some o → o.op ≠ .select cs b) :
    ∀ (f : Nat) (listed : Array Bool) (a : Act) (w : World),
      (∀ j oj, ops[j]? = some oj → j ≠ i → listed.getD j true = false → (∀ e ∈ oj.after, Region.binds md e = true → e.on ≠ i) → oi.apart ops oj = true) →
      i ∈ Region.ready md ops listed → YK P ops K oi v a w →
      wpR P md ops K Q f (listed.setIfInBounds i true) (a.put oi.dst v) w → wpR P md ops K Q (f + 1) listed a w := by
  intro f
  induction f with
  | zero =>
    intro listed a w _ hr hy H x hx
    refine ⟨fun h => (by rw [h] at hr; cases hr), fun j hj => ?_⟩
    by_cases hji : j = i
    · subst hji
      exact (hy.keep (Kp.of_gr hx)).wpOp hi fun y hy' => ⟨Kp.of_gr hy', wpR_grow (hx.trans hy') H⟩
    · have := ready_mono hj hji
      rw [(H x hx).1] at this
      cases this
  | succ f ih =>
    intro listed a w hfree hr hy H x hx
    have hun := (mem_ready.1 hr).1
    refine ⟨fun h => (by rw [h] at hr; cases hr), fun j hj => ?_⟩
    by_cases hji : j = i
    · subst hji
      exact (hy.keep (Kp.of_gr hx)).wpOp hi fun y hy' => ⟨Kp.of_gr hy', wpR_grow (hx.trans hy') H⟩
    · have h1 := (H x hx).2 j (ready_mono hj hji)
      obtain ⟨hjun, oj, hoj, hall⟩ := mem_ready.1 hj
      have hnot : ∀ e ∈ oj.after, Region.binds md e = true → e.on ≠ i := fun e he hb heq => by
        have h1 := hall e he hb
        rw [heq, getD_both hun] at h1
        cases h1
      have h2 := wpOp_apart hoj (hfree j oj hoj hji hjun hnot) (fun cs b => hsel i oi cs b hi) (fun cs b => hsel j oj cs b hoj) h1
      have hfree' : ∀ k ok, ops[k]? = some ok → k ≠ i → (listed.setIfInBounds j true).getD k true = false →
          (∀ e ∈ ok.after, Region.binds md e = true → e.on ≠ i) → oi.apart ops ok = true := fun k ok hk hki hun hno => by
        refine hfree k ok hk hki ?_ hno
        by_cases hjk : j = k
        · subst hjk; exact hjun
        · rw [getD_set_ne true hjk] at hun; exact hun
      refine wpOp_never (fun a' w' h3 => ?_) h2
      obtain ⟨⟨e1, e2⟩, hg, h4⟩ := h3
      refine ⟨hg, ih (listed.setIfInBounds j true) a' w' hfree' (ready_mono hr (Ne.symm hji)) ((hy.keep ((Kp.of_gr hx).trans hg)).same e1 e2) ?_⟩
      rw [Array.setIfInBounds_comm _ _ hji]
      exact h4

/-- The head of a quiet walk: one value serves all worlds. -/
theorem quiet_headK {o : Oper} {l : List Oper} {a : Act} {w : World} {S : Act → Prop} (H : ∀ u, wpQuiet P ops (cls K w u) S (o :: l) a) :
    ∃ v, YK P ops K o v a w ∧ ∀ u, wpQuiet P ops (cls K w u) S l (a.put o.dst v) := by
  cases hw : Region.wanted o (yielded ops a.tmps) with
  | true =>
    have H' : ∀ u, o.quiet P a (cls K w u) (wpQuiet P ops (cls K w u) S l) := fun u => by
      have := H u
      simpa only [wpQuiet, hw, if_true] using this
    obtain ⟨v, hv, _⟩ := H' none
    refine ⟨v, .inl ⟨hw, fun x hx => ?_⟩, fun u => ?_⟩
    · obtain ⟨v', hv', _⟩ := H' (some x)
      rw [cls_some hx] at hv'
      have h1 := hv' x (Gr.refl x)
      have := quietAt_det h1 (hv x hx)
      subst this
      exact h1
    · obtain ⟨v', hv', hr⟩ := H' u
      have := quietAt_det (hv' _ (cls_bas K w u)) (hv _ (kp_bas K w u))
      subst this
      exact hr
  | false =>
    refine ⟨undef, .inr ⟨hw, rfl⟩, fun u => ?_⟩
    have := H u
    simpa only [wpQuiet, hw, Bool.false_eq_true, if_false] using this

def hoistB (md : Region.Mode) (ops : Array Oper) : List Nat → Array Bool → Bool
  | [], _ => true
  | i :: l, listed => (Region.ready md ops listed).contains i && Region.free md ops listed i && hoistB md ops l (listed.setIfInBounds i true)
def marks : List Nat → Array Bool → Array Bool
  | [], listed => listed
  | i :: l, listed => marks l (listed.setIfInBounds i true)
def pickL (l : List Oper) : List Nat → List Oper
  | [] => []
  | i :: is => match l.drop i with
    | o :: _ => o :: pickL l is
    | [] => pickL l is
theorem pickL_cons {l : List Oper} {i : Nat} {is : List Nat} {o : Oper} (h : l[i]? = some o) : pickL l (i :: is) = o :: pickL l is := by
  obtain ⟨hlt, rfl⟩ := List.getElem?_eq_some_iff.1 h
  simp only [pickL]
  rw [List.drop_eq_getElem_cons hlt]

theorem wpR_hoist_cls {l : List Oper} {Q : Act → World → Prop} {g : Nat} (hsel : Region.noSelect l.toArray = true) : ∀ (is : List Nat) (listed : Array Bool) (a : Act) (w : World), hoistB md l.toArray is listed = true →
    (∀ u, wpQuiet P l.toArray (cls K w u) (fun a' => wpR P md l.toArray K Q g (marks is listed) a' w) (pickL l is) a) → wpR P md l.toArray K Q (is.length + g) listed a w
  | [], listed, a, w, _, h => by
    rw [List.length_nil, Nat.zero_add]
    exact h none
  | i :: is, listed, a, w, hB, h => by
    simp only [hoistB, Bool.and_eq_true] at hB
    obtain ⟨⟨hr, hf⟩, hB'⟩ := hB
    have hr' : i ∈ Region.ready md l.toArray listed := by simpa using hr
    obtain ⟨_, o, ho, _⟩ := mem_ready.1 hr'
    have ho' : l[i]? = some o := by simpa using ho
    rw [pickL_cons ho'] at h
    obtain ⟨v, hy, hK⟩ := quiet_headK h
    rw [List.length_cons, show is.length + 1 + g = (is.length + g) + 1 by omega]
    exact wpR_first ho (Region.noSelect_spec hsel) _ _ _ _ (Region.free_spec ho hf) hr' hy (wpR_hoist_cls hsel is _ _ w hB' hK)
end

/-- Operations that yield one value whenever they come, done now. -/
theorem wpR_hoist {P : Program} {K : Nat → Prop} {l : List Oper} {Q : Act → World → Prop} {f : Nat} {listed : Array Bool} {a : Act} {w : World} (is : List Nat) (g : Nat) (hf : f = is.length + g) (hsel : Region.noSelect l.toArray = true) (hB : hoistB .any l.toArray is listed = true)
    (h : ∀ u, wpQuiet P l.toArray (fun x => ∃ z, x = aftK K w u z) (fun a' => wpR P .any l.toArray K Q g (marks is listed) a' w) (pickL l is) a) : wpR P .any l.toArray K Q f listed a w := by
  subst hf
  refine wpR_hoist_cls hsel is listed a w hB fun u => ?_
  have := h u
  rwa [clsK_eq] at this

/-- What is asked behind one that makes or writes memory. -/
def MainPost (P : Program) (l : List Oper) (K : Nat → Prop) (Q : Act → World → Prop) (g : Nat) (listed : Array Bool) (x : World) : Exit → Act → World → Prop :=
  fun e a1 w1 => e = .normal ∧ Kp K x w1 ∧ wpR P .any l.toArray K Q g listed a1 w1
theorem wpR_op {P : Program} {K : Nat → Prop} {l : List Oper} {Q : Act → World → Prop} {g i : Nat} {listed : Array Bool} {a : Act} {x : World} {o : Oper} (ho : l[i]? = some o) (h : wpList P l.toArray (MainPost P l K Q g listed x) (pickL l [i]) a x) :
    wpOp P l.toArray Never i (fun a' w' => Kp K x w' ∧ wpR P .any l.toArray K Q g listed a' w') a x := by
  have ho' : l.toArray[i]? = some o := by simpa using ho
  rw [pickL_cons ho] at h
  unfold wpOp
  simp only [ho']
  simp only [wpList, pickL] at h
  have hlet : ¬ LetsOut (MainPost P l K Q g listed x) := by
    rintro ⟨_, _, he, _⟩
    cases he
  split
  · rename_i hw
    simp only [hw, if_true] at h
    rcases h with h | ⟨_, hl⟩
    · exact .inl (wp_change (fun _ _ h => h.2) (fun _ _ _ h => by cases h.1) (fun h => absurd h hlet) h)
    · exact absurd hl hlet
  · rename_i hw
    simp only [hw] at h
    exact h.2
theorem wpR_main {P : Program} {K : Nat → Prop} {l : List Oper} {Q : Act → World → Prop} {g : Nat} {listed : Array Bool} {a : Act} {w : World} (i : Nat) (hr : Region.ready .any l.toArray listed = [i])
    (h : ∀ x, Gr w x → wpList P l.toArray (MainPost P l K Q g (listed.setIfInBounds i true) x) (pickL l [i]) a x) : wpR P .any l.toArray K Q (g + 1) listed a w := by
  intro x hx
  rw [hr]
  refine ⟨by simp, fun j hj => ?_⟩
  have hji : j = i := by simpa using hj
  subst hji
  obtain ⟨_, o, ho, _⟩ := mem_ready.1 (show j ∈ Region.ready .any l.toArray listed by rw [hr]; simp)
  exact wpR_op (by simpa using ho) (h x hx)
theorem wpR_main2 {P : Program} {K : Nat → Prop} {l : List Oper} {Q : Act → World → Prop} {g : Nat} {listed : Array Bool} {a : Act} {w : World} (i j : Nat) (hr : Region.ready .any l.toArray listed = [i, j])
    (h : ∀ x, Gr w x → wpList P l.toArray (MainPost P l K Q g (listed.setIfInBounds i true) x) (pickL l [i]) a x)
    (h' : ∀ x, Gr w x → wpList P l.toArray (MainPost P l K Q g (listed.setIfInBounds j true) x) (pickL l [j]) a x) : wpR P .any l.toArray K Q (g + 1) listed a w := by
  intro x hx
  rw [hr]
  refine ⟨by simp, fun k hk => ?_⟩
  obtain ⟨_, o, ho, _⟩ := mem_ready.1 (show k ∈ Region.ready .any l.toArray listed by rw [hr]; exact hk)
  have hkk : k = i ∨ k = j := by simpa using hk
  rcases hkk with rfl | rfl
  · exact wpR_op (by simpa using ho) (h x hx)
  · exact wpR_op (by simpa using ho) (h' x hx)
theorem wpR_main3 {P : Program} {K : Nat → Prop} {l : List Oper} {Q : Act → World → Prop} {g : Nat} {listed : Array Bool} {a : Act} {w : World} (i j m : Nat) (hr : Region.ready .any l.toArray listed = [i, j, m])
    (h : ∀ x, Gr w x → wpList P l.toArray (MainPost P l K Q g (listed.setIfInBounds i true) x) (pickL l [i]) a x)
    (h' : ∀ x, Gr w x → wpList P l.toArray (MainPost P l K Q g (listed.setIfInBounds j true) x) (pickL l [j]) a x)
    (h'' : ∀ x, Gr w x → wpList P l.toArray (MainPost P l K Q g (listed.setIfInBounds m true) x) (pickL l [m]) a x) : wpR P .any l.toArray K Q (g + 1) listed a w := by
  intro x hx
  rw [hr]
  refine ⟨by simp, fun k hk => ?_⟩
  obtain ⟨_, o, ho, _⟩ := mem_ready.1 (show k ∈ Region.ready .any l.toArray listed by rw [hr]; exact hk)
  have hkk : k = i ∨ k = j ∨ k = m := by simpa using hk
  rcases hkk with rfl | rfl | rfl
  · exact wpR_op (by simpa using ho) (h x hx)
  · exact wpR_op (by simpa using ho) (h' x hx)
  · exact wpR_op (by simpa using ho) (h'' x hx)
theorem wpR_end {P : Program} {K : Nat → Prop} {l : List Oper} {Q : Act → World → Prop} {listed : Array Bool} {a : Act} {w : World} (hr : Region.ready .any l.toArray listed = []) (h : ∀ x, Gr w x → Q a x) : wpR P .any l.toArray K Q 0 listed a w :=
  fun x hx => ⟨hr, h x hx⟩

/-- THE LAW. -/
theorem wp_region_R {P : Program} {id : Nat} {Q : Exit → Act → World → Prop} {a : Act} {w : World} {l : List Oper} (K : Nat → Prop) (n : Nat) (hn : n = l.length) (hm : P.follows .mixedOrders = true)
    (h : wpR P .any l.toArray K (Q .normal) n (Array.replicate n false) a w) : (Code.region id l.toArray true).wp P Q a w := by
  subst hn
  refine wp_region_any hm ?_
  have hsz : l.toArray.size = l.length := by simp
  rw [hsz]
  have hgd : Gr w { w with drawn := w.drawn + 1 } := ⟨rfl, rfl, rfl, Nat.le_refl _, fun _ _ => rfl⟩
  exact wpAny_of_R _ _ _ _ (wpR_grow hgd h)
end Go.Proofs.Ytljmhenhibhbfaa.Reg

/- A region that draws its order, walked once in the order of the text: its first operations yield one value each whatever new blocks have been made meanwhile (calls among them), then one operation that may make a block, then a tail in one forced order. No program in sight. -/
import Derived.Deep.Quiet
import Derived.Deep.QuietTactic
import Derived.BigQuiet
import Derived.StillTail
import Derived.Below
import Derived.KernelRfl
namespace Go.Proofs.Ytljmhenhibhbfaa.Reg
open Go Go.RowKit

/-- The second world is the first one, grown by new blocks alone. -/
def Gr (w x : World) : Prop := Below w.heap.size w x
theorem Gr.refl (w : World) : Gr w w := Below.refl _ _
theorem Gr.trans {w x y : World} (h : Gr w x) (k : Gr x y) : Gr w y := Below.trans h (Below.mono k (Below.size h))

/-! A call hands back one value: the machine's run is one run. -/
def dead (P : Program) : Frame := { fn := P.funcs.size, tmps := #[], todo := [.code (.refuse "")], defers := [], mode := .run, kind := .normal }
theorem dead_finish (P : Program) (v : Value) : (dead P).finish v = dead P := rfl
theorem dead_ends (P : Program) (cs : List Frame) (w : World) : ∃ o, step P (lone (dead P) cs w) = .ended o w :=
  ⟨_, step_lone_ended (by simp [stepG, stepG.exec, dead]; rfl)⟩
theorem run_next {P : Program} {n k : Nat} {m x y : Machine} (hx : runN P n m = .next x) (hy : runN P (n + k) m = .next y) : runN P k x = .next y := by
  rw [runN_add, hx] at hy
  exact hy
theorem det_of {P : Program} {m : Machine} {n k : Nat} {a b : Frame} {wa wb : World} {v u : Value}
    (ha : runN P n m = .next (lone a [dead P] wa)) (hb : runN P (n + k) m = .next (lone b [dead P] wb)) (la : a.leaving P wa (.returned v)) (lb : b.leaving P wb (.returned u)) : v = u := by
  have h := run_next ha hb
  cases k with
  | zero =>
    simp only [runN, Stepped.next.injEq] at h
    have e : a = b ∧ wa = wb := by
      simp only [lone, Machine.mk.injEq] at h
      obtain ⟨hw, hg, _⟩ := h
      simp at hg
      exact ⟨hg, hw⟩
    obtain ⟨rfl, rfl⟩ := e
    obtain ⟨_, _, _, f1, g1, r1⟩ := la
    obtain ⟨_, _, _, f2, g2, r2⟩ := lb
    have : f1 = f2 := Option.some.inj (g1.symm.trans g2)
    subst this
    rw [r1] at r2
    simpa using r2
  | succ k =>
    exfalso
    simp only [runN, step_leave_returned la, dead_finish] at h
    obtain ⟨o, he⟩ := dead_ends P [] wa
    cases k with
    | zero =>
      simp only [runN, Stepped.next.injEq] at h
      simp [lone] at h
    | succ k => simp only [runN, he] at h; cases h
theorem calls_det {P : Program} {f : FuncId} {args : Array Value} {w : World} {v u : Value} {R R' : World → Prop}
    (h : Calls P f args w fun e w' => e = .returned v ∧ R w') (h' : Calls P f args w fun e w' => e = .returned u ∧ R' w') : v = u := by
  obtain ⟨e, wa, a, ⟨rfl, _⟩, ⟨n, hn⟩, _, la⟩ := h [dead P]
  obtain ⟨e', wb, b, ⟨rfl, _⟩, ⟨k, hk⟩, _, lb⟩ := h' [dead P]
  rcases Nat.le_total n k with hl | hl
  · obtain ⟨d, rfl⟩ := Nat.exists_eq_add_of_le hl
    exact det_of hn hk la lb
  · obtain ⟨d, rfl⟩ := Nat.exists_eq_add_of_le hl
    exact (det_of hk hn lb la).symm

section
variable {P : Program} {ops : Array Oper} {md : Region.Mode}

theorem quietAt_mono {o : Oper} {a : Act} {C C' : World → Prop} {w : World} {v : Value} (h : ∀ x, C x → C' x) (hh : o.quietAt P a C w v) : o.quietAt P a C' w v := by
  unfold Oper.quietAt at *
  generalize (execOp a.eval o).run P w = r at *
  cases r with
  | ok n w' =>
    cases n <;> simp only [Oper.quietUpon] at hh ⊢
    case value => exact hh
    case skip => exact hh
    case enter f args => exact ⟨hh.1, hh.2.mono fun _ _ ⟨he, hc⟩ => ⟨he, h _ hc⟩⟩
  | halt x w' => simp only [Oper.quietUpon] at hh
theorem quietAt_det {o : Oper} {a : Act} {C C' : World → Prop} {w : World} {v u : Value} (h : o.quietAt P a C w v) (h' : o.quietAt P a C' w u) : v = u := by
  unfold Oper.quietAt at *
  generalize (execOp a.eval o).run P w = r at *
  cases r with
  | ok n w' =>
    cases n <;> simp only [Oper.quietUpon] at h h'
    case value => exact h.2.symm.trans h'.2
    case skip => exact h.2.trans h'.2.symm
    case enter f args => exact calls_det h.2 h'.2
  | halt x w' => simp only [Oper.quietUpon] at h

/-- No exit but the normal one. -/
def Never : Exit → Act → World → Prop := fun _ _ _ => False
theorem never_lets (h : LetsOut Never) : False := by obtain ⟨_, _, h⟩ := h; exact h

theorem wp_change {o : Oper} {a : Act} {w : World} {K K' : Act → World → Prop} {Q Q' : Exit → Act → World → Prop} (hK : ∀ a w, K a w → K' a w)
    (hp : ∀ c a w, Q (.panic c) a w → Q' (.panic c) a w) (ho : LetsOut Q → LetsOut Q') (hh : o.wp P a w K Q) : o.wp P a w K' Q' := by
  unfold Oper.wp at *
  generalize (execOp a.eval o).run P w = r at *
  cases r with
  | ok n w' =>
    cases n <;> simp only [Oper.upon] at hh ⊢
    case value => exact hK _ _ hh
    case skip => exact hK _ _ hh
    case defer => exact hK _ _ hh
    case enter f args =>
      refine hh.mono fun e w'' he => ?_
      cases e with
      | returned u => exact hK _ _ he
      | panicked c => exact hp _ _ _ he
      | outgrown => exact ho he
    case row row args => exact Rows.mono hh fun u w'' he => hK _ _ he
  | halt x w' =>
    cases x <;> simp only [Oper.upon] at hh ⊢
    case panic u => exact hp _ _ _ hh

theorem wpOp_never {i : Nat} {K K' : Act → World → Prop} {Q : Exit → Act → World → Prop} {a : Act} {w : World} (h : ∀ a w, K a w → K' a w) (hh : wpOp P ops Never i K a w) : wpOp P ops Q i K' a w := by
  unfold wpOp at *
  split
  · rename_i ho; simp only [ho] at hh; exact h _ _ hh
  · rename_i o ho
    simp only [ho] at hh
    split
    · rename_i hw
      simp only [hw, if_true] at hh
      rcases hh with hh | ⟨_, hl⟩
      · exact .inl (wp_change h (fun _ _ _ h => h.elim) (fun h => (never_lets h).elim) hh)
      · exact (never_lets hl).elim
    · rename_i hw; simp only [hw] at hh; exact h _ _ hh

/-- The head of a region: operations up to number m, in whatever order, each from a world that may have grown, each to a world that has grown. -/
def wpSoft (P : Program) (md : Region.Mode) (ops : Array Oper) (m : Nat) (L : Array Bool → Act → World → Prop) : Nat → Array Bool → Act → World → Prop
  | 0, listed, a, w => ∀ x, Gr w x → L listed a x
  | f + 1, listed, a, w => ∀ x, Gr w x → Region.ready md ops listed ≠ [] ∧ ∀ i ∈ Region.ready md ops listed, i ≤ m ∧
      wpOp P ops Never i (fun a' w' => Gr x w' ∧ wpSoft P md ops m L f (listed.setIfInBounds i true) a' w') a x

theorem wpSoft_grow {m : Nat} {L : Array Bool → Act → World → Prop} {f : Nat} {listed : Array Bool} {a : Act} {w w' : World} (hg : Gr w w') (h : wpSoft P md ops m L f listed a w) : wpSoft P md ops m L f listed a w' := by
  cases f with
  | zero => exact fun x hx => h x (hg.trans hx)
  | succ f => exact fun x hx => h x (hg.trans hx)

theorem wpAny_of_soft {m g : Nat} {L : Array Bool → Act → World → Prop} {Q : Exit → Act → World → Prop} (hL : ∀ listed a w, L listed a w → wpAny P md ops Q g listed a w) :
    ∀ (f : Nat) (listed : Array Bool) (a : Act) (w : World), wpSoft P md ops m L f listed a w → wpAny P md ops Q (f + g) listed a w
  | 0, listed, a, w, h => by rw [Nat.zero_add]; exact hL _ _ _ (h w (Gr.refl w))
  | f + 1, listed, a, w, h => by
    rw [show f + 1 + g = (f + g) + 1 by omega]
    obtain ⟨h1, h2⟩ := h w (Gr.refl w)
    exact ⟨fun h0 => absurd h0 h1, fun i hi => wpOp_never (fun a' w' h' => wpAny_of_soft hL f _ a' w' h'.2) (h2 i hi).2⟩

/-- An operation yields one value in every grown world, and leaves a grown one. -/
def YG (P : Program) (ops : Array Oper) (o : Oper) (v : Value) (a : Act) (w : World) : Prop :=
  (Region.wanted o (yielded ops a.tmps) = true ∧ ∀ x, Gr w x → o.quietAt P a (Gr x) x v) ∨ (Region.wanted o (yielded ops a.tmps) = false ∧ v = undef)

theorem YG.grow {o : Oper} {v : Value} {a : Act} {w w' : World} (hg : Gr w w') (h : YG P ops o v a w) : YG P ops o v a w' :=
  h.imp (fun ⟨h1, h2⟩ => ⟨h1, fun x hx => h2 x (hg.trans hx)⟩) id
theorem YG.same {o : Oper} {v : Value} {a a' : Act} {w : World} (h : YG P ops o v a w) (he : execOp a'.eval o = execOp a.eval o)
    (hw : Region.wanted o (yielded ops a'.tmps) = Region.wanted o (yielded ops a.tmps)) : YG P ops o v a' w := by
  unfold YG Oper.quietAt at *
  rw [he, hw]
  exact h
theorem YG.wpOp {i : Nat} {o : Oper} {v : Value} {a : Act} {w x : World} {Q : Exit → Act → World → Prop} {K : Act → World → Prop} (hi : ops[i]? = some o) (hy : YG P ops o v a w) (hx : Gr w x)
    (hK : ∀ y, Gr x y → K (a.put o.dst v) y) : wpOp P ops Q i K a x := by
  unfold Go.wpOp
  simp only [hi]
  rcases hy with ⟨hw, hq⟩ | ⟨hw, rfl⟩
  · simp only [hw, if_true]
    refine .inl (Oper.wp_of_quiet (C := Gr x) (K := fun a' => a' = a.put o.dst v) (Gr.refl x) (fun a' w' hw' he => by subst he; exact hK _ hw') ⟨v, fun y hy => ?_, rfl⟩)
    exact quietAt_mono (fun z hz => hy.trans hz) (hq y (hx.trans hy))
  · simp only [hw, Bool.false_eq_true, if_false]
    exact hK _ (Gr.refl x)

/-- One operation, apart from another one whose value is laid already. -/
theorem wpOp_apart {j : Nat} {oi oj : Oper} {v : Value} (hj : ops[j]? = some oj) (hap : oi.apart ops oj = true) (hsi : ∀ cs b, oi.op ≠ .select cs b) (hsj : ∀ cs b, oj.op ≠ .select cs b)
    {K : Act → World → Prop} {a : Act} {w : World} (h : wpOp P ops Never j K (a.put oi.dst v) w) :
    wpOp P ops Never j (fun a' w' => (execOp a'.eval oi = execOp a.eval oi ∧ Region.wanted oi (yielded ops a'.tmps) = Region.wanted oi (yielded ops a.tmps)) ∧ K (a'.put oi.dst v) w') a w := by
  obtain ⟨h1, h2, h3⟩ := Oper.apart_spec hap
  have keep : ∀ (b : Act), execOp b.eval oi = execOp a.eval oi → Region.wanted oi (yielded ops b.tmps) = Region.wanted oi (yielded ops a.tmps) → ∀ u,
      execOp (b.put oj.dst u).eval oi = execOp a.eval oi ∧ Region.wanted oi (yielded ops (b.put oj.dst u).tmps) = Region.wanted oi (yielded ops a.tmps) := fun b e1 e2 u =>
    ⟨(execOp_put oi hsi b oj.dst u h3).trans e1, (wanted_put oi b oj.dst u h3).trans e2⟩
  unfold wpOp at *
  simp only [hj] at *
  rw [wanted_put oj a oi.dst v h1] at h
  split
  · rename_i hw
    simp only [hw, if_true] at h
    rcases h with h | ⟨_, hl⟩
    case inr => exact (never_lets hl).elim
    refine .inl ?_
    unfold Oper.wp at *
    rw [execOp_put oj hsj a oi.dst v h1] at h
    generalize (execOp a.eval oj).run P w = r at *
    cases r with
    | ok n w' =>
      cases n <;> simp only [Oper.upon] at h ⊢
      case value u => exact ⟨keep a rfl rfl u, by rw [← Act.put_comm a v u h2]; exact h⟩
      case skip => exact ⟨keep a rfl rfl _, by rw [← Act.put_comm a v undef h2]; exact h⟩
      case defer d =>
        refine ⟨keep { a with defers := d :: a.defers } rfl rfl _, ?_⟩
        rw [← Act.put_comm _ v undef h2, ← Act.put_defers]
        exact h
      case enter f args =>
        refine h.mono fun e w'' he => ?_
        cases e with
        | returned u => exact ⟨keep a rfl rfl u, by rw [← Act.put_comm a v u h2]; exact he⟩
        | panicked c => exact he.elim
        | outgrown => exact (never_lets he).elim
      case row row args => exact Rows.mono h fun u w'' he => ⟨keep a rfl rfl u, by rw [← Act.put_comm a v u h2]; exact he⟩
    | halt x w' =>
      cases x <;> simp only [Oper.upon] at h ⊢
      case panic u => exact h
  · rename_i hw
    simp only [hw] at h
    exact ⟨keep a rfl rfl _, by rw [← Act.put_comm a v undef h2]; exact h⟩

theorem soft_first {m i : Nat} {oi : Oper} {v : Value} {L : Array Bool → Act → World → Prop} (hi : ops[i]? = some oi) (hsel : ∀ (j : Nat) (o : Oper) cs b, ops[j]? = some o → o.op ≠ .select cs b)
    (hR : ∀ listed, HeadInv md ops (m + 1) listed → listed.getD i true = false → ∀ j ∈ Region.ready md ops listed, j ≤ m)
    (hdone : ∀ listed a w, L listed a w → ∀ j ∈ Region.ready md ops listed, m < j) :
    ∀ (f : Nat) (listed : Array Bool) (a : Act) (w : World), HeadInv md ops (m + 1) listed →
      (∀ j oj, ops[j]? = some oj → j ≠ i → listed.getD j true = false → (∀ e ∈ oj.after, Region.binds md e = true → e.on ≠ i) → oi.apart ops oj = true) →
      i ∈ Region.ready md ops listed → YG P ops oi v a w →
      wpSoft P md ops m L f (listed.setIfInBounds i true) (a.put oi.dst v) w → wpSoft P md ops m L (f + 1) listed a w := by
  intro f
  induction f with
  | zero =>
    intro listed a w inv _ hr hy H x hx
    have hun := (mem_ready.1 hr).1
    refine ⟨fun h => (by rw [h] at hr; cases hr), fun j hj => ?_⟩
    have hjm : j ≤ m := hR listed inv hun j hj
    refine ⟨hjm, ?_⟩
    by_cases hji : j = i
    · subst hji
      exact hy.wpOp hi hx fun y hy' => ⟨hy', wpSoft_grow (hx.trans hy') H⟩
    · have := hdone _ _ _ (H x hx) j (ready_mono hj hji)
      omega
  | succ f ih =>
    intro listed a w inv hfree hr hy H x hx
    have hun := (mem_ready.1 hr).1
    refine ⟨fun h => (by rw [h] at hr; cases hr), fun j hj => ?_⟩
    have hjm : j ≤ m := hR listed inv hun j hj
    refine ⟨hjm, ?_⟩
    by_cases hji : j = i
    · subst hji
      exact hy.wpOp hi hx fun y hy' => ⟨hy', wpSoft_grow (hx.trans hy') H⟩
    · have h1 := ((H x hx).2 j (ready_mono hj hji)).2
      obtain ⟨hjun, oj, hoj, hall⟩ := mem_ready.1 hj
      have hnot : ∀ e ∈ oj.after, Region.binds md e = true → e.on ≠ i := fun e he hb heq => by
        have h1 := hall e he hb
        rw [heq, getD_both hun] at h1
        cases h1
      have h2 := wpOp_apart hoj (hfree j oj hoj hji hjun hnot) (fun cs b => hsel i oi cs b hi) (fun cs b => hsel j oj cs b hoj) h1
      have hfree' : ∀ k ok, ops[k]? = some ok → k ≠ i → (listed.setIfInBounds j true).getD k true = false →
          (∀ e ∈ ok.after, Region.binds md e = true → e.on ≠ i) → oi.apart ops ok = true := fun k ok hk hki hun hno => by
        refine hfree k ok hk hki ?_ hno
        by_cases hjk : j = k
        · subst hjk; exact hjun
        · rw [getD_set_ne true hjk] at hun; exact hun
      refine wpOp_never (fun a' w' h3 => ?_) h2
      obtain ⟨⟨e1, e2⟩, hg, h4⟩ := h3
      refine ⟨hg, ih (listed.setIfInBounds j true) a' w' (inv.set hj (by omega)) hfree' (ready_mono hr (Ne.symm hji)) ((hy.grow (hx.trans hg)).same e1 e2) ?_⟩
      rw [Array.setIfInBounds_comm _ _ hji]
      exact h4

/-- The head of a quiet walk, in every grown world: one value serves them all. -/
theorem quiet_head {o : Oper} {l : List Oper} {a : Act} {w : World} {S : World → Act → Prop} (H : ∀ u, Gr w u → wpQuiet P ops (Gr u) (S u) (o :: l) a) :
    ∃ v, YG P ops o v a w ∧ ∀ u, Gr w u → wpQuiet P ops (Gr u) (S u) l (a.put o.dst v) := by
  cases hw : Region.wanted o (yielded ops a.tmps) with
  | true =>
    have H' : ∀ u, Gr w u → o.quiet P a (Gr u) (wpQuiet P ops (Gr u) (S u) l) := fun u hu => by
      have := H u hu
      simpa only [wpQuiet, hw, if_true] using this
    obtain ⟨v, hv, _⟩ := H' w (Gr.refl w)
    refine ⟨v, .inl ⟨hw, fun x hx => ?_⟩, fun u hu => ?_⟩
    · obtain ⟨v', hv', _⟩ := H' x hx
      have := quietAt_det (hv' x (Gr.refl x)) (hv x hx)
      subst this
      exact hv' x (Gr.refl x)
    · obtain ⟨v', hv', hr⟩ := H' u hu
      have := quietAt_det (hv' u (Gr.refl u)) (hv u hu)
      subst this
      exact hr
  | false =>
    refine ⟨undef, .inr ⟨hw, rfl⟩, fun u hu => ?_⟩
    have := H u hu
    simpa only [wpQuiet, hw, Bool.false_eq_true, if_false] using this

/-- The first operations in the order of the text, up to the cut; then those behind it. -/
def lexCut (md : Region.Mode) (ops : Array Oper) (g : Nat) : Nat → Nat → Array Bool → Bool
  | 0, k, listed => decide (Region.ready md ops listed = [k]) && Region.lexFrom md ops g (k + 1) (listed.setIfInBounds k true)
  | f + 1, k, listed => (Region.ready md ops listed).contains k && Region.free md ops listed k && lexCut md ops g f (k + 1) (listed.setIfInBounds k true)

/-- The Bool over a region: the first m operations in the order of the text, then number m alone, then the others in one order. -/
def softB (md : Region.Mode) (ops : Array Oper) (m : Nat) : Bool :=
  Region.noSelect ops && decide (m + 1 < ops.size) && Region.sinkB md ops (m + 1) && Region.chainB md ops (m + 1) && Region.lexHead md ops (ops.size - m) m 0 (Array.replicate ops.size false)

theorem soft_lex {m g : Nat} {Lq : Act → World → Prop} (hsel : Region.noSelect ops = true) (hs : Region.sinkB md ops (m + 1) = true) (hc : Region.chainB md ops (m + 1) = true) (hn : m + 1 < ops.size) :
    ∀ (l : List Oper) (k : Nat) (listed : Array Bool) (a : Act) (w : World), (∀ j, j < l.length → l[j]? = ops[k + j]?) → k + l.length = m → HeadInv md ops (m + 1) listed →
    Region.lexHead md ops (g + 1) l.length k listed = true →
    (∀ u, Gr w u → wpQuiet P ops (Gr u) (fun a' => ∀ x, Gr u x → wpOp P ops Never m (fun a1 w1 => Gr x w1 ∧ ∀ y, Gr w1 y → Lq a1 y) a' x) l a) →
    wpSoft P md ops m (fun listed' a' x => Region.seqB md ops g (m + 1) listed' = true ∧ Lq a' x) (l.length + 1) listed a w
  | [], k, listed, a, w, _, hk, inv, hB, H => by
    have : k = m := by simpa using hk
    subst this
    simp only [List.length_nil, Region.lexHead, Region.seqB, Bool.and_eq_true, decide_eq_true_eq] at hB
    intro x hx
    refine ⟨by rw [hB.1]; simp, fun i hi => ?_⟩
    rw [hB.1] at hi
    have hik : i = k := by simpa using hi
    subst hik
    exact ⟨Nat.le_refl _, wpOp_never (fun a1 w1 h => ⟨h.1, fun y hy => ⟨hB.2, h.2 y hy⟩⟩) (H w (Gr.refl w) x hx)⟩
  | o :: l, k, listed, a, w, hl, hk, inv, hB, H => by
    have h0 : ops[k]? = some o := by simpa using (hl 0 (by simp)).symm
    simp only [List.length_cons, Region.lexHead, Bool.and_eq_true] at hB
    obtain ⟨⟨hr, hf⟩, hB'⟩ := hB
    have hkm : k < m := by simp only [List.length_cons] at hk; omega
    have hr' : k ∈ Region.ready md ops listed := by simpa using hr
    have hl' : ∀ j, j < l.length → l[j]? = ops[k + 1 + j]? := fun j hj => by
      have := hl (j + 1) (by simp; omega)
      simpa [Nat.add_assoc, Nat.add_comm 1 j] using this
    have main := quiet_head H
    obtain ⟨v, hy, hK⟩ := main
    exact soft_first h0 (Region.noSelect_spec hsel)
      (fun listed inv hun j hj => by
        rcases Nat.lt_or_ge m j with h | h
        · exact absurd hj (tail_waits hs hc hn inv _ k rfl (by omega) hun j h)
        · exact h)
      (fun listed' a' x hL => seqB_ready hL.1) (l.length + 1) listed a w inv (Region.free_spec h0 hf) hr' hy
      (soft_lex hsel hs hc hn l (k + 1) _ _ w hl' (by simp only [List.length_cons] at hk; omega) (inv.set hr' (by omega)) hB' hK)

theorem quiet_change {C : World → Prop} {Q Q' : Act → Prop} (h : ∀ a, Q a → Q' a) : ∀ (l : List Oper) (a : Act), wpQuiet P ops C Q l a → wpQuiet P ops C Q' l a
  | [], a, hh => h a hh
  | o :: l, a, hh => by
    simp only [wpQuiet] at hh ⊢
    split
    · rename_i hw; simp only [hw, if_true] at hh; exact Oper.quiet_mono (fun a' => quiet_change h l a') hh
    · rename_i hw; simp only [hw] at hh; exact quiet_change h l _ hh

/-- What is asked behind operation number m: the world has grown by it; and, from whatever world has grown from there, the tail. -/
def SoftPost (P : Program) (ops : Array Oper) (Q : Exit → Act → World → Prop) (tl : List Oper) (x : World) : Exit → Act → World → Prop :=
  fun e a1 w1 => e = .normal ∧ Gr x w1 ∧ ∀ y, Gr w1 y → wpList P ops Q tl a1 y

theorem soft_one {o : Oper} {m : Nat} {Q : Exit → Act → World → Prop} {tl : List Oper} {a : Act} {x : World} (hm : ops[m]? = some o) (h : wpList P ops (SoftPost P ops Q tl x) [o] a x) :
    wpOp P ops Never m (fun a1 w1 => Gr x w1 ∧ ∀ y, Gr w1 y → wpList P ops Q tl a1 y) a x := by
  unfold wpOp
  simp only [hm]
  simp only [wpList] at h
  have hlet : ¬ LetsOut (SoftPost P ops Q tl x) := by
    rintro ⟨_, _, he, _⟩
    cases he
  split
  · rename_i hw
    simp only [hw, if_true] at h
    rcases h with h | ⟨_, hl⟩
    · exact .inl (wp_change (fun _ _ h => h.2) (fun _ _ _ h => by cases h.1) (fun h => absurd h hlet) h)
    · exact absurd hl hlet
  · rename_i hw
    simp only [hw] at h
    exact h.2
end

/-! The class of worlds, written so that the walk's simp sees through it. -/
open Classical in
noncomputable def root (w u : World) : World := if Gr w u then u else w
open Classical in
/-- Whatever world has grown from w and then from u. -/
noncomputable def aft (w u z : World) : World := if Gr (root w u) z then z else root w u
theorem gr_root (w u : World) : Gr w (root w u) := by
  unfold root
  split
  · assumption
  · exact Gr.refl _
theorem gr_aft (w u z : World) : Gr (root w u) (aft w u z) := by
  unfold aft
  split
  · assumption
  · exact Gr.refl _
theorem aft_below (w u z : World) : Below w.heap.size w (aft w u z) := (gr_root w u).trans (gr_aft w u z)
theorem aft_size (w u z : World) : w.heap.size ≤ (aft w u z).heap.size := (aft_below w u z).size
theorem aft_cell (w u z : World) (b o : Nat) (s : Option Nat) (h : b < w.heap.size) : (aft w u z).cell? ⟨b, o, s⟩ = w.cell? ⟨b, o, s⟩ := (aft_below w u z).cell (p := ⟨b, o, s⟩) h
theorem aft_frozen (w u z : World) (b o : Nat) (s : Option Nat) (h : b < w.heap.size) : (aft w u z).frozen? ⟨b, o, s⟩ = w.frozen? ⟨b, o, s⟩ := (aft_below w u z).frozen (p := ⟨b, o, s⟩) h
attribute [go_sem] aft_cell aft_frozen
theorem class_eq {w u : World} (h : Gr w u) : (fun x => ∃ z, x = aft w u z) = Gr u := by
  have hr : root w u = u := by unfold root; rw [if_pos h]
  funext x
  refine propext ⟨fun ⟨z, hz⟩ => ?_, fun hx => ⟨x, ?_⟩⟩
  · have := gr_aft w u z
    rw [hr] at this
    rw [hz]
    exact this
  · unfold aft
    rw [hr, if_pos hx]

theorem class_below {w u x : World} (h : ∃ z, x = aft w u z) : Below w.heap.size w x := by
  obtain ⟨z, rfl⟩ := h
  exact aft_below w u z
theorem bcell {W w1 : World} {B : Nat} (hb : Below B W w1) : (∀ b o, b < B → w1.cell? ⟨b, o, none⟩ = W.cell? ⟨b, o, none⟩) ∧ (∀ b o, b < B → w1.frozen? ⟨b, o, none⟩ = W.frozen? ⟨b, o, none⟩) :=
  ⟨fun b o h => hb.cell (p := ⟨b, o, none⟩) h, fun b o h => hb.frozen (p := ⟨b, o, none⟩) h⟩

theorem calls_aft {P : Program} {f : FuncId} {args : Array Value} {w u z : World} {v : Value}
    (h : Calls P f args (aft w u z) fun e w' => e = .returned v ∧ Below (aft w u z).heap.size (aft w u z) w') :
    Calls P f args (aft w u z) fun e w' => e = .returned v ∧ ∃ z', w' = aft w u z' := by
  refine h.mono fun e w' ⟨he, hb⟩ => ⟨he, w', ?_⟩
  have hg : Gr (root w u) w' := (gr_aft w u z).trans hb
  unfold aft
  rw [if_pos hg]
theorem calls_aft_same {P : Program} {f : FuncId} {args : Array Value} {w u z : World} {v : Value}
    (h : Calls P f args (aft w u z) fun e w' => e = .returned v ∧ aft w u z = w') :
    Calls P f args (aft w u z) fun e w' => e = .returned v ∧ ∃ z', w' = aft w u z' :=
  h.mono fun _ _ ⟨he, hw⟩ => ⟨he, z, hw.symm⟩

/-- THE LAW: a region that draws its order, its operations written out; m: the number of the operation ahead of the tail. -/
theorem wp_region_soft {P : Program} {id : Nat} {Q : Exit → Act → World → Prop} {a : Act} {w W0 : World} {l : List Oper} (m : Nat) (hW0 : Below W0.heap.size W0 w) (hm : P.follows .mixedOrders = true) (hB : softB .any l.toArray m = true)
    (h : ∀ u, wpQuiet P l.toArray (fun x => ∃ z, x = aft W0 u z) (fun a' => ∀ x, (∃ z, x = aft W0 u z) → wpList P l.toArray (SoftPost P l.toArray Q (l.drop (m + 1)) x) ((l.drop m).take 1) a' x) (l.take m) a) :
    (Code.region id l.toArray true).wp P Q a w := by
  simp only [softB, Bool.and_eq_true, decide_eq_true_eq] at hB
  obtain ⟨⟨⟨⟨hsel, hn⟩, hs⟩, hc⟩, hlex⟩ := hB
  have hn' : m + 1 < l.length := by simpa using hn
  have htl : (l.take m).length = m := by simp; omega
  have hsz : l.toArray.size = l.length := by simp
  have hdl : (l.drop (m + 1)).length = l.toArray.size - (m + 1) := by simp
  have hom : l.toArray[m]? = some (l[m]'(by omega)) := by simp
  have hone : (l.drop m).take 1 = [l[m]'(by omega)] := by
    rw [List.drop_eq_getElem_cons (by omega)]
    rfl
  have hgd : Gr w { w with drawn := w.drawn + 1 } := ⟨rfl, rfl, rfl, Nat.le_refl _, fun _ _ => rfl⟩
  have inv0 : HeadInv .any l.toArray (m + 1) (Array.replicate l.toArray.size false) :=
    ⟨by simp, fun j oj _ hl => (by rw [getD_replicate_false] at hl; cases hl), fun t _ ht => getD_in (by simpa using ht) (getD_replicate_false _ _)⟩
  have hlex' : Region.lexHead .any l.toArray ((l.toArray.size - (m + 1)) + 1) (l.take m).length 0 (Array.replicate l.toArray.size false) = true := by
    rw [htl, show l.toArray.size - (m + 1) + 1 = l.toArray.size - m by omega]
    exact hlex
  have H := soft_lex (P := P) (md := .any) (m := m) (g := l.toArray.size - (m + 1)) (Lq := fun a1 y => wpList P l.toArray Q (l.drop (m + 1)) a1 y) hsel hs hc hn (l.take m) 0 _ a { w with drawn := w.drawn + 1 }
    (fun j hj => by
      have hj' : j < m := by rw [htl] at hj; exact hj
      simp [hj']) (by simpa using htl) inv0 hlex' (fun u hu => by
      have hu' : Gr W0 u := Gr.trans hW0 (hgd.trans hu)
      have h1 := h u
      rw [class_eq hu'] at h1
      have e : (fun a' => ∀ x, (∃ z, x = aft W0 u z) → wpList P l.toArray (SoftPost P l.toArray Q (l.drop (m + 1)) x) ((l.drop m).take 1) a' x) =
          fun a' => ∀ x, Gr u x → wpList P l.toArray (SoftPost P l.toArray Q (l.drop (m + 1)) x) [l[m]'(by omega)] a' x := by
        funext a'
        have e1 : ∀ x, (∃ z, x = aft W0 u z) = Gr u x := fun x => congrFun (class_eq hu') x
        simp only [e1, hone]
      rw [e] at h1
      refine quiet_change (fun a' h2 x hx => soft_one hom (h2 x hx)) _ _ h1)
  refine wp_region_any hm ?_
  have hA := wpAny_of_soft (P := P) (md := .any) (Q := Q) (g := l.toArray.size - (m + 1)) (fun listed a' x hL => by
    have := wpAny_of_seq (md := .any) (Q' := Q) (l.drop (m + 1)) (m + 1) listed a' x (fun j => by simp [List.getElem?_drop]) (by rw [hdl]; exact hL.1) hL.2
    rwa [hdl] at this) _ _ _ _ H
  rw [htl, show m + 1 + (l.toArray.size - (m + 1)) = l.toArray.size by omega] at hA
  exact hA


/-! A region that is cut at one operation: all that stand ahead of it in the text come ahead of it in every order, and all that stand behind it behind it. -/
section
variable {P : Program} {ops : Array Oper} {md : Region.Mode}
def tailB (md : Region.Mode) (ops : Array Oper) (m : Nat) : Bool :=
  (List.range ops.size).all fun t => decide (t ≤ m) || (List.range t).any fun j => decide (m ≤ j) && Region.waitsFor md ops t j
def sinkB' (md : Region.Mode) (ops : Array Oper) (m : Nat) : Bool :=
  (List.range m).all fun i => (List.range (m + 1)).any fun j => decide (i < j) && Region.waitsFor md ops j i
theorem cut_waits {m : Nat} {listed : Array Bool} (hs : sinkB' md ops m = true) (ht : tailB md ops m = true) (inv : HeadInv md ops m listed) :
    ∀ (d i : Nat), m - i = d → i < m → listed.getD i true = false → ∀ t, m ≤ t → t ∉ Region.ready md ops listed := by
  intro d
  induction d using Nat.strongRecOn with
  | _ d ih =>
    intro i hd hi hun t hmt hr
    obtain ⟨_, ot, hot, hall⟩ := mem_ready.1 hr
    have htlt : t < ops.size := (Array.getElem?_eq_some_iff.1 hot).1
    by_cases htn : t = m
    · subst htn
      have h1 := List.all_eq_true.1 hs i (List.mem_range.2 hi)
      obtain ⟨j, hj, hj2⟩ := List.any_eq_true.1 h1
      simp only [Bool.and_eq_true, decide_eq_true_eq] at hj2
      obtain ⟨oj, hoj, e, he, hb, hon⟩ := Region.waitsFor_spec hj2.2
      have hjle : j ≤ t := by have := List.mem_range.1 hj; omega
      by_cases hjt : j = t
      · subst hjt
        have : oj = ot := Option.some.inj (hoj.symm.trans hot)
        subst this
        have h2 := hall e he hb
        rw [hon, getD_both hun] at h2
        cases h2
      · cases hl : listed.getD j false with
        | true =>
          have h2 := inv.closed j oj hoj hl e he hb
          rw [hon, getD_both hun] at h2
          cases h2
        | false =>
          have hjs : j < listed.size := by rw [inv.size]; omega
          exact ih (t - j) (by omega) j rfl (by omega) (getD_in hjs hl) t (Nat.le_refl _) hr
    · have h1 := List.all_eq_true.1 ht t (List.mem_range.2 htlt)
      simp only [Bool.or_eq_true, decide_eq_true_eq] at h1
      rcases h1 with h1 | h1
      · omega
      · obtain ⟨j, hj, hj2⟩ := List.any_eq_true.1 h1
        simp only [Bool.and_eq_true, decide_eq_true_eq] at hj2
        obtain ⟨o', ho', e, he, hb, hon⟩ := Region.waitsFor_spec hj2.2
        have : o' = ot := Option.some.inj (ho'.symm.trans hot)
        subst this
        have h2 := hall e he hb
        have hjt : j < t := List.mem_range.1 hj
        rw [hon, getD_both (inv.tail j hj2.1 (by omega))] at h2
        cases h2

theorem cut_lex {m g : Nat} {S : Act → World → Prop} (hsel : Region.noSelect ops = true) (hs : sinkB' md ops m = true) (ht : tailB md ops m = true) (hm0 : 0 < m) :
    ∀ (l : List Oper) (k : Nat) (listed : Array Bool) (a : Act) (w : World), (∀ j, j < l.length → l[j]? = ops[k + j]?) → k + l.length = m → HeadInv md ops m listed →
    lexCut md ops g l.length k listed = true →
    (∀ u, Gr w u → wpQuiet P ops (Gr u) (fun a' => ∀ x, Gr u x → S a' x) l a) →
    wpSoft P md ops (m - 1) (fun listed' a' x => (Region.ready md ops listed' = [m] ∧ Region.lexFrom md ops g (m + 1) (listed'.setIfInBounds m true) = true) ∧ S a' x) l.length listed a w
  | [], k, listed, a, w, _, hk, inv, hB, H => by
    have : k = m := by simpa using hk
    subst this
    simp only [List.length_nil, lexCut, Bool.and_eq_true, decide_eq_true_eq] at hB
    exact fun x hx => ⟨hB, H w (Gr.refl w) x hx⟩
  | o :: l, k, listed, a, w, hl, hk, inv, hB, H => by
    have h0 : ops[k]? = some o := by simpa using (hl 0 (by simp)).symm
    simp only [List.length_cons, lexCut, Bool.and_eq_true] at hB
    obtain ⟨⟨hr, hf⟩, hB'⟩ := hB
    have hkm : k < m := by simp only [List.length_cons] at hk; omega
    have hr' : k ∈ Region.ready md ops listed := by simpa using hr
    have hl' : ∀ j, j < l.length → l[j]? = ops[k + 1 + j]? := fun j hj => by
      have := hl (j + 1) (by simp; omega)
      simpa [Nat.add_assoc, Nat.add_comm 1 j] using this
    have main : ∃ v, YG P ops o v a w ∧ ∀ u, Gr w u → wpQuiet P ops (Gr u) (fun a' => ∀ x, Gr u x → S a' x) l (a.put o.dst v) := quiet_head H
    obtain ⟨v, hy, hK⟩ := main
    have hm1 : m - 1 + 1 = m := by omega
    refine soft_first (m := m - 1) h0 (Region.noSelect_spec hsel)
      (fun listed inv hun j hj => ?_)
      (fun listed' a' x hL j hj => ?_) l.length listed a w (by rw [hm1]; exact inv) (Region.free_spec h0 hf) hr' hy
      (cut_lex hsel hs ht hm0 l (k + 1) _ _ w hl' (by simp only [List.length_cons] at hk; omega) (inv.set hr' hkm) hB' hK)
    · rw [hm1] at inv
      rcases Nat.lt_or_ge (m - 1) j with h | h
      · exact absurd hj (cut_waits hs ht inv _ k rfl hkm hun j (by omega))
      · exact h
    · rw [hL.1.1] at hj
      have : j = m := by simpa using hj
      omega
end

/-- The Bool over a region: cut at operation m; both parts in the order of the text. -/
def cutB (md : Region.Mode) (ops : Array Oper) (m : Nat) : Bool :=
  Region.noSelect ops && decide (0 < m) && decide (m < ops.size) && sinkB' md ops m && tailB md ops m && lexCut md ops (ops.size - (m + 1)) m 0 (Array.replicate ops.size false)

/-- What is asked behind the operation at which a region is cut: the others, each yielding one value in whatever world has grown from here. -/
def CutPost (P : Program) (ops : Array Oper) (Q : Exit → Act → World → Prop) (tl : List Oper) : Exit → Act → World → Prop :=
  fun e a1 w1 => e = .normal ∧ ∀ u, wpQuiet P ops (fun x => ∃ z, x = aft w1 u z) (fun a2 => ∀ x, (∃ z, x = aft w1 u z) → Q .normal a2 x) tl a1

/-- THE LAW, SECOND FORM: the operations ahead of number m yield one value each; number m does what it does; those behind it yield one value each. -/
theorem wp_region_cut {P : Program} {id : Nat} {Q : Exit → Act → World → Prop} {a : Act} {w W0 : World} {l : List Oper} (m : Nat) (hW0 : Below W0.heap.size W0 w) (hm : P.follows .mixedOrders = true) (hB : cutB .any l.toArray m = true)
    (h : ∀ u, wpQuiet P l.toArray (fun x => ∃ z, x = aft W0 u z) (fun a' => ∀ x, (∃ z, x = aft W0 u z) → wpList P l.toArray (CutPost P l.toArray Q (l.drop (m + 1))) ((l.drop m).take 1) a' x) (l.take m) a) :
    (Code.region id l.toArray true).wp P Q a w := by
  simp only [cutB, Bool.and_eq_true, decide_eq_true_eq] at hB
  obtain ⟨⟨⟨⟨⟨hsel, hm0⟩, hn⟩, hs⟩, ht⟩, hlex⟩ := hB
  have hn' : m < l.length := by simpa using hn
  have htl : (l.take m).length = m := by simp; omega
  have hdl : (l.drop (m + 1)).length = l.toArray.size - (m + 1) := by simp
  have hom : l.toArray[m]? = some (l[m]'(by omega)) := by simp
  have hone : (l.drop m).take 1 = [l[m]'(by omega)] := by
    rw [List.drop_eq_getElem_cons (by omega)]
    rfl
  have hgd : Gr w { w with drawn := w.drawn + 1 } := ⟨rfl, rfl, rfl, Nat.le_refl _, fun _ _ => rfl⟩
  have inv0 : HeadInv .any l.toArray m (Array.replicate l.toArray.size false) :=
    ⟨by simp, fun j oj _ hl => (by rw [getD_replicate_false] at hl; cases hl), fun t _ ht => getD_in (by simpa using ht) (getD_replicate_false _ _)⟩
  have H := cut_lex (P := P) (md := .any) (m := m) (g := l.toArray.size - (m + 1)) (S := fun a' x => wpList P l.toArray (CutPost P l.toArray Q (l.drop (m + 1))) [l[m]'(by omega)] a' x) hsel hs ht hm0 (l.take m) 0 _ a { w with drawn := w.drawn + 1 }
    (fun j hj => by
      have hj' : j < m := by rw [htl] at hj; exact hj
      simp [hj']) (by simpa using htl) inv0 (by rw [htl]; exact hlex) (fun u hu => by
      have hu' : Gr W0 u := Gr.trans hW0 (hgd.trans hu)
      have h1 := h u
      rw [class_eq hu'] at h1
      have e1 : ∀ x, (∃ z, x = aft W0 u z) = Gr u x := fun x => congrFun (class_eq hu') x
      simp only [e1, hone] at h1
      exact h1)
  refine wp_region_any hm ?_
  have hA := wpAny_of_soft (P := P) (md := .any) (Q := Q) (g := l.toArray.size - (m + 1) + 1) (fun listed a' x hL => by
    obtain ⟨⟨hrd, hlf⟩, hS⟩ := hL
    refine ⟨fun h0 => (by rw [hrd] at h0; cases h0), fun i hi => ?_⟩
    rw [hrd] at hi
    have him : i = m := by simpa using hi
    subst him
    simp only [wpList] at hS
    have hlet : ¬ LetsOut (CutPost P l.toArray Q (l.drop (i + 1))) := by
      rintro ⟨_, _, he, _⟩
      cases he
    have fin : ∀ a1 w1, CutPost P l.toArray Q (l.drop (i + 1)) .normal a1 w1 → wpAny P .any l.toArray Q (l.toArray.size - (i + 1)) (listed.setIfInBounds i true) a1 w1 := fun a1 w1 hc => by
      have hq := hc.2 w1
      rw [class_eq (Gr.refl w1)] at hq
      have e1 : ∀ x, (∃ z, x = aft w1 w1 z) = Gr w1 x := fun x => congrFun (class_eq (Gr.refl w1)) x
      simp only [e1] at hq
      have := wpAny_of_quiet (P := P) (md := .any) (ops := l.toArray) (C := Gr w1) (Q := fun a2 => ∀ x, Gr w1 x → Q .normal a2 x) (Q' := Q) (fun a2 x hx h => h x hx) (l.drop (i + 1)).length (listed.setIfInBounds i true) a1 w1 (Gr.refl w1)
        (wpAnyQ_lex hsel (l.drop (i + 1)) (i + 1) _ a1 (fun j => by simp [List.getElem?_drop]) (by rw [hdl]; exact hlf) hq)
      rwa [hdl] at this
    unfold wpOp
    simp only [hom]
    split
    · rename_i hw
      simp only [hw, if_true] at hS
      rcases hS with hS | ⟨_, hl⟩
      · exact .inl (wp_change fin (fun _ _ _ h => by cases h.1) (fun h => absurd h hlet) hS)
      · exact absurd hl hlet
    · rename_i hw
      simp only [hw] at hS
      exact fin _ _ hS) _ _ _ _ H
  rw [htl, show m + (l.toArray.size - (m + 1) + 1) = l.toArray.size by simp; omega] at hA
  exact hA

/-- THE LAW, THIRD FORM: every operation yields one value. -/
theorem wp_region_all {P : Program} {id : Nat} {Q : Exit → Act → World → Prop} {a : Act} {w W0 : World} {l : List Oper} (hW0 : Below W0.heap.size W0 w) (hm : P.follows .mixedOrders = true) (hB : Region.lexB .any l.toArray = true)
    (h : wpQuiet P l.toArray (fun x => ∃ z, x = aft W0 w z) (fun a' => ∀ x, (∃ z, x = aft W0 w z) → Q .normal a' x) l a) :
    (Code.region id l.toArray true).wp P Q a w := by
  have hgd : Gr w { w with drawn := w.drawn + 1 } := ⟨rfl, rfl, rfl, Nat.le_refl _, fun _ _ => rfl⟩
  have e : (∃ z, { w with drawn := w.drawn + 1 } = aft W0 w z) = Gr w { w with drawn := w.drawn + 1 } := congrFun (class_eq (show Gr W0 w from hW0)) _
  exact wp_region_quiet (C := fun x => ∃ z, x = aft W0 w z) hm hB (e.symm ▸ hgd) h

end Go.Proofs.Ytljmhenhibhbfaa.Reg

/- A region that draws its order and whose first operation is a move of a slot, waited for by the last ones alone: the move is done first, the others as in the soft law. No program in sight. -/
import Derived.Test.YtljmhenhibhbfaaReg
namespace Go.Proofs.Ytljmhenhibhbfaa.Reg
open Go Go.RowKit

section
variable {P : Program} {ops : Array Oper} {md : Region.Mode}

theorem wpOp_apartQ {Q : Exit → Act → World → Prop} {j : Nat} {oi oj : Oper} {v : Value} (hj : ops[j]? = some oj) (hap : oi.apart ops oj = true) (hsi : ∀ cs b, oi.op ≠ .select cs b) (hsj : ∀ cs b, oj.op ≠ .select cs b)
    (hQ : ∀ c a u w, Q (.panic c) (a.put oi.dst u) w → Q (.panic c) a w) {K : Act → World → Prop} {a : Act} {w : World} (h : wpOp P ops Q j K (a.put oi.dst v) w) :
    wpOp P ops Q j (fun a' w' => (execOp a'.eval oi = execOp a.eval oi ∧ Region.wanted oi (yielded ops a'.tmps) = Region.wanted oi (yielded ops a.tmps)) ∧ K (a'.put oi.dst v) w') a w := by
  obtain ⟨h1, h2, h3⟩ := Oper.apart_spec hap
  have keep : ∀ (b : Act), execOp b.eval oi = execOp a.eval oi → Region.wanted oi (yielded ops b.tmps) = Region.wanted oi (yielded ops a.tmps) → ∀ u,
      execOp (b.put oj.dst u).eval oi = execOp a.eval oi ∧ Region.wanted oi (yielded ops (b.put oj.dst u).tmps) = Region.wanted oi (yielded ops a.tmps) := fun b e1 e2 u =>
    ⟨(execOp_put oi hsi b oj.dst u h3).trans e1, (wanted_put oi b oj.dst u h3).trans e2⟩
  unfold wpOp at *
  simp only [hj] at *
  rw [wanted_put oj a oi.dst v h1] at h
  split
  · rename_i hw
    simp only [hw, if_true] at h
    rcases h with h | ⟨ha, hl⟩
    case inr =>
      refine .inr ⟨?_, hl⟩
      unfold Oper.asks at *
      rw [execOp_put oj hsj a oi.dst v h1] at ha
      exact ha
    refine .inl ?_
    unfold Oper.wp at *
    rw [execOp_put oj hsj a oi.dst v h1] at h
    generalize (execOp a.eval oj).run P w = r at *
    cases r with
    | ok n w' =>
      cases n <;> simp only [Oper.upon] at h ⊢
      case value u => exact ⟨keep a rfl rfl u, by rw [← Act.put_comm a v u h2]; exact h⟩
      case skip => exact ⟨keep a rfl rfl _, by rw [← Act.put_comm a v undef h2]; exact h⟩
      case defer d =>
        refine ⟨keep { a with defers := d :: a.defers } rfl rfl _, ?_⟩
        rw [← Act.put_comm _ v undef h2, ← Act.put_defers]
        exact h
      case enter f args =>
        refine h.mono fun e w'' he => ?_
        cases e with
        | returned u => exact ⟨keep a rfl rfl u, by rw [← Act.put_comm a v u h2]; exact he⟩
        | panicked c => exact hQ _ _ _ _ he
        | outgrown => exact he
      case row row args => exact Rows.mono h fun u w'' he => ⟨keep a rfl rfl u, by rw [← Act.put_comm a v u h2]; exact he⟩
    | halt x w' =>
      cases x <;> simp only [Oper.upon] at h ⊢
      case panic u => exact hQ _ _ _ _ h
  · rename_i hw
    simp only [hw] at h
    exact ⟨keep a rfl rfl _, by rw [← Act.put_comm a v undef h2]; exact h⟩

/-- A move. -/
def IsMove (o : Oper) : Prop := (∃ r, o.op = .move r) ∧ o.guard = none
theorem IsMove.wanted {o : Oper} (h : IsMove o) (y : Nat → Option Bool) : Region.wanted o y = true := by
  unfold Region.wanted
  rw [h.2]
theorem IsMove.op {Q : Exit → Act → World → Prop} {i : Nat} {o : Oper} {v : Value} {a : Act} {w w0 : World} {K : Act → World → Prop} (h : IsMove o) (hi : ops[i]? = some o) (hv : (execOp a.eval o).run P w0 = .ok (.value v) w0) (hK : K (a.put o.dst v) w) :
    wpOp P ops Q i K a w := by
  obtain ⟨⟨r, hr⟩, hg⟩ := h
  unfold wpOp
  simp only [hi]
  rw [if_pos (IsMove.wanted ⟨⟨r, hr⟩, hg⟩ _)]
  refine .inl ?_
  unfold Oper.wp
  unfold execOp at hv ⊢
  simp only [hr] at hv ⊢
  simp only [Sem.run_pure, Result.ok.injEq, Next.value.injEq, and_true] at hv ⊢
  subst hv
  exact hK

theorem wpAny_move {Q : Exit → Act → World → Prop} {i : Nat} {oi : Oper} {v : Value} (hi : ops[i]? = some oi) (hm : IsMove oi) (hsel : ∀ (j : Nat) (o : Oper) cs b, ops[j]? = some o → o.op ≠ .select cs b)
    (hQ : ∀ c a u w, Q (.panic c) (a.put oi.dst u) w → Q (.panic c) a w) (w0 : World) :
    ∀ (f : Nat) (listed : Array Bool) (a : Act) (w : World),
      (∀ j oj, ops[j]? = some oj → j ≠ i → listed.getD j true = false → (∀ e ∈ oj.after, Region.binds md e = true → e.on ≠ i) → oi.apart ops oj = true) →
      i ∈ Region.ready md ops listed → (execOp a.eval oi).run P w0 = .ok (.value v) w0 →
      wpAny P md ops Q f (listed.setIfInBounds i true) (a.put oi.dst v) w → wpAny P md ops Q (f + 1) listed a w := by
  intro f
  induction f with
  | zero =>
    intro listed a w _ hr hv H
    refine ⟨fun h => (by rw [h] at hr; cases hr), fun j hj => ?_⟩
    by_cases hji : j = i
    · subst hji; exact hm.op hi hv H
    · have := ready_mono hj hji
      rw [H.1] at this
      cases this
  | succ f ih =>
    intro listed a w hfree hr hv H
    have hun := (mem_ready.1 hr).1
    refine ⟨fun h => (by rw [h] at hr; cases hr), fun j hj => ?_⟩
    by_cases hji : j = i
    · subst hji; exact hm.op hi hv H
    · have h1 := H.2 j (ready_mono hj hji)
      obtain ⟨hjun, oj, hoj, hall⟩ := mem_ready.1 hj
      have hnot : ∀ e ∈ oj.after, Region.binds md e = true → e.on ≠ i := fun e he hb heq => by
        have h1 := hall e he hb
        rw [heq, getD_both hun] at h1
        cases h1
      have h2 := wpOp_apartQ hoj (hfree j oj hoj hji hjun hnot) (fun cs b => hsel i oi cs b hi) (fun cs b => hsel j oj cs b hoj) hQ h1
      have hfree' : ∀ k ok, ops[k]? = some ok → k ≠ i → (listed.setIfInBounds j true).getD k true = false →
          (∀ e ∈ ok.after, Region.binds md e = true → e.on ≠ i) → oi.apart ops ok = true := fun k ok hk hki hun hno => by
        refine hfree k ok hk hki ?_ hno
        by_cases hjk : j = k
        · subst hjk; exact hjun
        · rw [getD_set_ne true hjk] at hun; exact hun
      refine wpOp_mono (fun a' w' h3 => ?_) h2
      obtain ⟨⟨e1, e2⟩, h4⟩ := h3
      refine ih (listed.setIfInBounds j true) a' w' hfree' (ready_mono hr (Ne.symm hji)) (by rw [e1]; exact hv) ?_
      rw [Array.setIfInBounds_comm _ _ hji]
      exact h4

/-- Each operation but the first one is waited for, up to the tail. -/
def sinkO (md : Region.Mode) (ops : Array Oper) (n : Nat) : Bool :=
  (List.range n).all fun i => decide (i = 0) || (List.range (n + 1)).any fun j => decide (i < j) && Region.waitsFor md ops j i
theorem tail_waitsO {n : Nat} {listed : Array Bool} (hs : sinkO md ops n = true) (hc : Region.chainB md ops n = true) (hn : n < ops.size) (h0 : listed.getD 0 true = true) (inv : HeadInv md ops n listed) :
    ∀ (d i : Nat), n - i = d → i < n → listed.getD i true = false → ∀ t, n ≤ t → t ∉ Region.ready md ops listed := by
  intro d
  induction d using Nat.strongRecOn with
  | _ d ih =>
    intro i hd hi hun t ht hr
    obtain ⟨_, ot, hot, hall⟩ := mem_ready.1 hr
    have htlt : t < ops.size := (Array.getElem?_eq_some_iff.1 hot).1
    by_cases htn : t = n
    · subst htn
      have h1 := List.all_eq_true.1 hs i (List.mem_range.2 hi)
      simp only [Bool.or_eq_true, decide_eq_true_eq] at h1
      rcases h1 with rfl | h1
      · rw [h0] at hun; cases hun
      obtain ⟨j, hj, hj2⟩ := List.any_eq_true.1 h1
      simp only [Bool.and_eq_true, decide_eq_true_eq] at hj2
      obtain ⟨oj, hoj, e, he, hb, hon⟩ := Region.waitsFor_spec hj2.2
      have hjle : j ≤ t := by have := List.mem_range.1 hj; omega
      by_cases hjt : j = t
      · subst hjt
        have : oj = ot := Option.some.inj (hoj.symm.trans hot)
        subst this
        have h2 := hall e he hb
        rw [hon, getD_both hun] at h2
        cases h2
      · cases hl : listed.getD j false with
        | true =>
          have h2 := inv.closed j oj hoj hl e he hb
          rw [hon, getD_both hun] at h2
          cases h2
        | false =>
          have hjs : j < listed.size := by rw [inv.size]; omega
          exact ih (t - j) (by omega) j rfl (by omega) (getD_in hjs hl) t (Nat.le_refl _) hr
    · have h1 := List.all_eq_true.1 hc t (List.mem_range.2 htlt)
      simp only [Bool.or_eq_true, decide_eq_true_eq] at h1
      rcases h1 with h1 | h1
      · omega
      · obtain ⟨o', ho', e, he, hb, hon⟩ := Region.waitsFor_spec h1
        have : o' = ot := Option.some.inj (ho'.symm.trans hot)
        subst this
        have h2 := hall e he hb
        rw [hon, getD_both (inv.tail (t - 1) (by omega) (by omega))] at h2
        cases h2

theorem soft_firstO {m i : Nat} {oi : Oper} {v : Value} {L : Array Bool → Act → World → Prop} (hi : ops[i]? = some oi) (hsel : ∀ (j : Nat) (o : Oper) cs b, ops[j]? = some o → o.op ≠ .select cs b)
    (hR : ∀ listed, listed.getD 0 true = true → HeadInv md ops (m + 1) listed → listed.getD i true = false → ∀ j ∈ Region.ready md ops listed, j ≤ m)
    (hdone : ∀ listed a w, L listed a w → ∀ j ∈ Region.ready md ops listed, m < j) :
    ∀ (f : Nat) (listed : Array Bool) (a : Act) (w : World), listed.getD 0 true = true → HeadInv md ops (m + 1) listed →
      (∀ j oj, ops[j]? = some oj → j ≠ i → listed.getD j true = false → (∀ e ∈ oj.after, Region.binds md e = true → e.on ≠ i) → oi.apart ops oj = true) →
      i ∈ Region.ready md ops listed → YG P ops oi v a w →
      wpSoft P md ops m L f (listed.setIfInBounds i true) (a.put oi.dst v) w → wpSoft P md ops m L (f + 1) listed a w := by
  intro f
  induction f with
  | zero =>
    intro listed a w hz inv _ hr hy H x hx
    have hun := (mem_ready.1 hr).1
    refine ⟨fun h => (by rw [h] at hr; cases hr), fun j hj => ?_⟩
    have hjm : j ≤ m := hR listed hz inv hun j hj
    refine ⟨hjm, ?_⟩
    by_cases hji : j = i
    · subst hji
      exact hy.wpOp hi hx fun y hy' => ⟨hy', wpSoft_grow (hx.trans hy') H⟩
    · have := hdone _ _ _ (H x hx) j (ready_mono hj hji)
      omega
  | succ f ih =>
    intro listed a w hz inv hfree hr hy H x hx
    have hun := (mem_ready.1 hr).1
    refine ⟨fun h => (by rw [h] at hr; cases hr), fun j hj => ?_⟩
    have hjm : j ≤ m := hR listed hz inv hun j hj
    refine ⟨hjm, ?_⟩
    by_cases hji : j = i
    · subst hji
      exact hy.wpOp hi hx fun y hy' => ⟨hy', wpSoft_grow (hx.trans hy') H⟩
    · have h1 := ((H x hx).2 j (ready_mono hj hji)).2
      obtain ⟨hjun, oj, hoj, hall⟩ := mem_ready.1 hj
      have hj0 : j ≠ 0 := fun h => by subst h; rw [hz] at hjun; cases hjun
      have hnot : ∀ e ∈ oj.after, Region.binds md e = true → e.on ≠ i := fun e he hb heq => by
        have h1 := hall e he hb
        rw [heq, getD_both hun] at h1
        cases h1
      have h2 := wpOp_apart hoj (hfree j oj hoj hji hjun hnot) (fun cs b => hsel i oi cs b hi) (fun cs b => hsel j oj cs b hoj) h1
      have hfree' : ∀ k ok, ops[k]? = some ok → k ≠ i → (listed.setIfInBounds j true).getD k true = false →
          (∀ e ∈ ok.after, Region.binds md e = true → e.on ≠ i) → oi.apart ops ok = true := fun k ok hk hki hun hno => by
        refine hfree k ok hk hki ?_ hno
        by_cases hjk : j = k
        · subst hjk; exact hjun
        · rw [getD_set_ne true hjk] at hun; exact hun
      refine wpOp_never (fun a' w' h3 => ?_) h2
      obtain ⟨⟨e1, e2⟩, hg, h4⟩ := h3
      refine ⟨hg, ih (listed.setIfInBounds j true) a' w' (by rw [getD_set_ne true hj0]; exact hz) (inv.set hj (by omega)) hfree' (ready_mono hr (Ne.symm hji)) ((hy.grow (hx.trans hg)).same e1 e2) ?_⟩
      rw [Array.setIfInBounds_comm _ _ hji]
      exact h4

theorem soft_lexO {m g : Nat} {Lq : Act → World → Prop} (hsel : Region.noSelect ops = true) (hs : sinkO md ops (m + 1) = true) (hc : Region.chainB md ops (m + 1) = true) (hn : m + 1 < ops.size) :
    ∀ (l : List Oper) (k : Nat) (listed : Array Bool) (a : Act) (w : World), 0 < k → listed.getD 0 true = true → (∀ j, j < l.length → l[j]? = ops[k + j]?) → k + l.length = m → HeadInv md ops (m + 1) listed →
    Region.lexHead md ops (g + 1) l.length k listed = true →
    (∀ u, Gr w u → wpQuiet P ops (Gr u) (fun a' => ∀ x, Gr u x → wpOp P ops Never m (fun a1 w1 => Gr x w1 ∧ ∀ y, Gr w1 y → Lq a1 y) a' x) l a) →
    wpSoft P md ops m (fun listed' a' x => Region.seqB md ops g (m + 1) listed' = true ∧ Lq a' x) (l.length + 1) listed a w
  | [], k, listed, a, w, _, _, _, hk, inv, hB, H => by
    have : k = m := by simpa using hk
    subst this
    simp only [List.length_nil, Region.lexHead, Region.seqB, Bool.and_eq_true, decide_eq_true_eq] at hB
    intro x hx
    refine ⟨by rw [hB.1]; simp, fun i hi => ?_⟩
    rw [hB.1] at hi
    have hik : i = k := by simpa using hi
    subst hik
    exact ⟨Nat.le_refl _, wpOp_never (fun a1 w1 h => ⟨h.1, fun y hy => ⟨hB.2, h.2 y hy⟩⟩) (H w (Gr.refl w) x hx)⟩
  | o :: l, k, listed, a, w, hk0, hz, hl, hk, inv, hB, H => by
    have h0 : ops[k]? = some o := by simpa using (hl 0 (by simp)).symm
    simp only [List.length_cons, Region.lexHead, Bool.and_eq_true] at hB
    obtain ⟨⟨hr, hf⟩, hB'⟩ := hB
    have hkm : k < m := by simp only [List.length_cons] at hk; omega
    have hr' : k ∈ Region.ready md ops listed := by simpa using hr
    have hl' : ∀ j, j < l.length → l[j]? = ops[k + 1 + j]? := fun j hj => by
      have := hl (j + 1) (by simp; omega)
      simpa [Nat.add_assoc, Nat.add_comm 1 j] using this
    have main := quiet_head H
    obtain ⟨v, hy, hK⟩ := main
    exact soft_firstO h0 (Region.noSelect_spec hsel)
      (fun listed hz inv hun j hj => by
        rcases Nat.lt_or_ge m j with h | h
        · exact absurd hj (tail_waitsO hs hc hn hz inv _ k rfl (by omega) hun j h)
        · exact h)
      (fun listed' a' x hL => seqB_ready hL.1) (l.length + 1) listed a w hz inv (Region.free_spec h0 hf) hr' hy
      (soft_lexO hsel hs hc hn l (k + 1) _ _ w (by omega) (by rw [getD_set_ne true (by omega)]; exact hz) hl' (by simp only [List.length_cons] at hk; omega) (inv.set hr' (by omega)) hB' hK)
end

/-- The Bool over a region whose first operation floats. -/
def softO (md : Region.Mode) (ops : Array Oper) (m : Nat) : Bool :=
  Region.noSelect ops && decide (0 < m) && decide (m + 1 < ops.size) && sinkO md ops (m + 1) && Region.chainB md ops (m + 1) && (Region.ready md ops (Array.replicate ops.size false)).contains 0 &&
    Region.free md ops (Array.replicate ops.size false) 0 && Region.lexHead md ops (ops.size - m) (m - 1) 1 ((Array.replicate ops.size false).setIfInBounds 0 true)

/-- THE LAW: as wp_region_soft, but the first operation is a move that only the tail waits for. -/
theorem wp_region_softO {P : Program} {id : Nat} {Q : Exit → Act → World → Prop} {a : Act} {w W0 : World} {o0 : Oper} {l : List Oper} (m : Nat) (hW0 : Below W0.heap.size W0 w) (hm : P.follows .mixedOrders = true) (hmv : IsMove o0)
    (hQ : ∀ c a u w, Q (.panic c) (a.put o0.dst u) w → Q (.panic c) a w) (hB : softO .any (o0 :: l).toArray m = true)
    (h : ∀ u, wpQuiet P (o0 :: l).toArray (fun x => ∃ z, x = aft W0 u z) (fun a' => ∀ x, (∃ z, x = aft W0 u z) → wpList P (o0 :: l).toArray (SoftPost P (o0 :: l).toArray Q ((o0 :: l).drop (m + 1)) x) (((o0 :: l).drop m).take 1) a' x) ((o0 :: l).take m) a) :
    (Code.region id (o0 :: l).toArray true).wp P Q a w := by
  simp only [softO, Bool.and_eq_true, decide_eq_true_eq] at hB
  obtain ⟨⟨⟨⟨⟨⟨⟨hsel, hm0⟩, hn⟩, hs⟩, hc⟩, hr0⟩, hf0⟩, hlex⟩ := hB
  have hn' : m + 1 < l.length + 1 := by simpa using hn
  have htl : ((o0 :: l).take m).length = m := by simp; omega
  have hsz : (o0 :: l).toArray.size = l.length + 1 := by simp
  have hdl : ((o0 :: l).drop (m + 1)).length = (o0 :: l).toArray.size - (m + 1) := by simp
  have hom : (o0 :: l).toArray[m]? = some ((o0 :: l)[m]'(by simp; omega)) := by
    rw [List.getElem?_toArray, List.getElem?_eq_getElem]
  have hone : ((o0 :: l).drop m).take 1 = [(o0 :: l)[m]'(by simp; omega)] := by
    rw [List.drop_eq_getElem_cons (by simp; omega)]
    rfl
  have hgd : Gr w { w with drawn := w.drawn + 1 } := ⟨rfl, rfl, rfl, Nat.le_refl _, fun _ _ => rfl⟩
  have inv0 : HeadInv .any (o0 :: l).toArray (m + 1) (Array.replicate (o0 :: l).toArray.size false) :=
    ⟨by simp, fun j oj _ hl => (by rw [getD_replicate_false] at hl; cases hl), fun t _ ht => getD_in (by simpa using ht) (getD_replicate_false _ _)⟩
  have hr0' : 0 ∈ Region.ready .any (o0 :: l).toArray (Array.replicate (o0 :: l).toArray.size false) := by simpa using hr0
  have h00 : (o0 :: l).toArray[0]? = some o0 := by simp
  obtain ⟨p, rfl⟩ : ∃ p, m = p + 1 := ⟨m - 1, by omega⟩
  have htp : (o0 :: l).take (p + 1) = o0 :: l.take p := rfl
  have hlp : (l.take p).length = p := by simp; omega
  have H : ∀ u, Gr { w with drawn := w.drawn + 1 } u → wpQuiet P (o0 :: l).toArray (Gr u) (fun a' => ∀ x, Gr u x → wpOp P (o0 :: l).toArray Never (p + 1) (fun a1 w1 => Gr x w1 ∧ ∀ y, Gr w1 y → wpList P (o0 :: l).toArray Q ((o0 :: l).drop (p + 1 + 1)) a1 y) a' x) (o0 :: l.take p) a := fun u hu => by
    have hu' : Gr W0 u := Gr.trans hW0 (hgd.trans hu)
    have h1 := h u
    rw [class_eq hu'] at h1
    have e : (fun a' => ∀ x, (∃ z, x = aft W0 u z) → wpList P (o0 :: l).toArray (SoftPost P (o0 :: l).toArray Q ((o0 :: l).drop (p + 1 + 1)) x) (((o0 :: l).drop (p + 1)).take 1) a' x) =
        fun a' => ∀ x, Gr u x → wpList P (o0 :: l).toArray (SoftPost P (o0 :: l).toArray Q ((o0 :: l).drop (p + 1 + 1)) x) [(o0 :: l)[p + 1]'(by simp; omega)] a' x := by
      funext a'
      have e1 : ∀ x, (∃ z, x = aft W0 u z) = Gr u x := fun x => congrFun (class_eq hu') x
      simp only [e1, hone]
    rw [e, htp] at h1
    exact quiet_change (fun a' h2 x hx => soft_one hom (h2 x hx)) _ _ h1
  obtain ⟨v, hy, hK⟩ := quiet_head H
  have hv : (execOp a.eval o0).run P w = .ok (.value v) w := by
    obtain ⟨⟨r, hr⟩, hg⟩ := hmv
    rcases hy with ⟨_, hq⟩ | ⟨hw, _⟩
    · have := hq _ (Gr.refl _)
      unfold Oper.quietAt at this
      unfold execOp at this ⊢
      simp only [hr] at this ⊢
      simp only [Sem.run_pure, Oper.quietUpon] at this ⊢
      rw [this.2]
    · rw [IsMove.wanted ⟨⟨r, hr⟩, hg⟩] at hw; cases hw
  refine wp_region_any hm ?_
  rw [hsz]
  refine wpAny_move (v := v) h00 hmv (Region.noSelect_spec hsel) hQ w l.length _ a _ (Region.free_spec h00 (by rw [hsz] at hf0; exact hf0)) (by rw [hsz] at hr0'; exact hr0') hv ?_
  have hlex' : Region.lexHead .any (o0 :: l).toArray ((l.length - (p + 1)) + 1) (l.take p).length 1 ((Array.replicate (l.length + 1) false).setIfInBounds 0 true) = true := by
    rw [hlp, show l.length - (p + 1) + 1 = l.length + 1 - (p + 1) by omega]
    rw [hsz] at hlex
    exact hlex
  have hz : ((Array.replicate (l.length + 1) false).setIfInBounds 0 true).getD 0 true = true := by simp
  have S := soft_lexO (P := P) (md := .any) (m := p + 1) (g := l.length - (p + 1)) (Lq := fun a1 y => wpList P (o0 :: l).toArray Q ((o0 :: l).drop (p + 1 + 1)) a1 y) hsel hs hc hn (l.take p) 1 _ (a.put o0.dst v) { w with drawn := w.drawn + 1 } (by omega) hz
    (fun j hj => by
      have hj' : j < p := by rw [hlp] at hj; exact hj
      simp [hj', Nat.add_comm 1 j]) (by rw [hlp]; omega) (by rw [← hsz]; exact inv0.set hr0' (by omega)) hlex' hK
  have hA := wpAny_of_soft (P := P) (md := .any) (Q := Q) (g := l.length - (p + 1)) (fun listed a' x hL => by
    have := wpAny_of_seq (md := .any) (Q' := Q) ((o0 :: l).drop (p + 1 + 1)) (p + 1 + 1) listed a' x (fun j => by rw [List.getElem?_drop, List.getElem?_toArray]) (by
      rw [hdl, hsz, show l.length + 1 - (p + 1 + 1) = l.length - (p + 1) by omega]; exact hL.1) hL.2
    rw [hdl, hsz, show l.length + 1 - (p + 1 + 1) = l.length - (p + 1) by omega] at this
    exact this) _ _ _ _ S
  rw [hlp, show p + 1 + (l.length - (p + 1)) = l.length by omega] at hA
  exact hA
end Go.Proofs.Ytljmhenhibhbfaa.Reg

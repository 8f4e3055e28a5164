/- A region in an order of one's own choice, second form: some operations, which come only when all that was hoisted is done, need not keep anything. No program in sight. -/
import Derived.Test.YtljmhenhibhbfaaRegc
namespace Go.Proofs.Ytljmhenhibhbfaa.Reg
open Go Go.RowKit

section
variable {P : Program} {ops : Array Oper} {md : Region.Mode} {K : Nat → Prop} {ex : Nat → Bool}

/-- What has been done was done behind all that it waits for. -/
def Clo (md : Region.Mode) (ops : Array Oper) (listed : Array Bool) : Prop :=
  ∀ j oj, ops[j]? = some oj → listed.getD j false = true → ∀ e ∈ oj.after, Region.binds md e = true → listed.getD e.on false = true
def cloB (md : Region.Mode) (ops : Array Oper) (listed : Array Bool) : Bool :=
  (List.range ops.size).all fun j => !listed.getD j false || match ops[j]? with
    | some oj => oj.after.all fun e => !Region.binds md e || listed.getD e.on false
    | none => true
theorem clo_of {listed : Array Bool} (h : cloB md ops listed = true) : Clo md ops listed := by
  intro j oj hj hl e he hb
  have hlt : j < ops.size := (Array.getElem?_eq_some_iff.1 hj).1
  have h1 := List.all_eq_true.1 h j (List.mem_range.2 hlt)
  simp only [hl, hj, Bool.not_true, Bool.false_or] at h1
  have h2 := Array.all_eq_true'.1 h1 e he
  simpa [hb] using h2
theorem Clo.set {i : Nat} {listed : Array Bool} (h : Clo md ops listed) (hi : i ∈ Region.ready md ops listed) : Clo md ops (listed.setIfInBounds i true) := by
  obtain ⟨_, oi, hoi, hall⟩ := mem_ready.1 hi
  intro j oj hj hl e he hb
  by_cases hij : i = j
  · subst hij
    have : oj = oi := Option.some.inj (hj.symm.trans hoi)
    subst this
    exact getD_set_true (hall e he hb)
  · rw [getD_set_ne false hij] at hl
    exact getD_set_true (h j oj hj hl e he hb)
/-- One operation comes behind another one, directly or through others. -/
def needs (md : Region.Mode) (ops : Array Oper) : Nat → Nat → Nat → Bool
  | 0, _, _ => false
  | f + 1, j, i => Region.waitsFor md ops j i || match ops[j]? with
    | some oj => oj.after.any fun e => Region.binds md e && needs md ops f e.on i
    | none => false
theorem needs_listed {listed : Array Bool} (hc : Clo md ops listed) : ∀ (f j i : Nat), needs md ops f j i = true → listed.getD j false = true → listed.getD i false = true
  | 0, j, i, h, _ => by cases h
  | f + 1, j, i, h, hl => by
    simp only [needs, Bool.or_eq_true] at h
    rcases h with h | h
    · obtain ⟨oj, hoj, e, he, hb, hon⟩ := Region.waitsFor_spec h
      have := hc j oj hoj hl e he hb
      rwa [hon] at this
    · cases ho : ops[j]? with
      | none => rw [ho] at h; cases h
      | some oj =>
        rw [ho] at h
        obtain ⟨e, he, h2⟩ := Array.any_eq_true'.1 h
        simp only [Bool.and_eq_true] at h2
        exact needs_listed hc f e.on i h2.2 (hc j oj ho hl e he h2.1)
theorem needs_ready {listed : Array Bool} (hc : Clo md ops listed) {f j i : Nat} (h : needs md ops f j i = true) (hi : listed.getD i true = false) : j ∉ Region.ready md ops listed := by
  intro hr
  obtain ⟨_, oj, hoj, hall⟩ := mem_ready.1 hr
  have key : listed.getD i false = true := by
    cases f with
    | zero => cases h
    | succ f =>
      simp only [needs, Bool.or_eq_true] at h
      rcases h with h | h
      · obtain ⟨oj', hoj', e, he, hb, hon⟩ := Region.waitsFor_spec h
        have : oj' = oj := Option.some.inj (hoj'.symm.trans hoj)
        subst this
        have := hall e he hb
        rwa [hon] at this
      · rw [hoj] at h
        obtain ⟨e, he, h2⟩ := Array.any_eq_true'.1 h
        simp only [Bool.and_eq_true] at h2
        exact needs_listed hc f e.on i h2.2 (hall e he h2.1)
  rw [getD_both hi] at key
  cases key

/-- As wpR, but what ex names need not keep anything. -/
def wpE (P : Program) (md : Region.Mode) (ops : Array Oper) (K : Nat → Prop) (ex : Nat → Bool) (Q : Act → World → Prop) : Nat → Array Bool → Act → World → Prop
  | 0, listed, a, w => ∀ x, Gr w x → Region.ready md ops listed = [] ∧ Q a x
  | f + 1, listed, a, w => ∀ x, Gr w x → Region.ready md ops listed ≠ [] ∧ ∀ i ∈ Region.ready md ops listed,
      wpOp P ops Never i (fun a' w' => (ex i = true ∨ Kp K x w') ∧ wpE P md ops K ex Q f (listed.setIfInBounds i true) a' w') a x
theorem wpE_grow {Q : Act → World → Prop} {f : Nat} {listed : Array Bool} {a : Act} {w w' : World} (hg : Gr w w') (h : wpE P md ops K ex Q f listed a w) : wpE P md ops K ex Q f listed a w' := by
  cases f with
  | zero => exact fun x hx => h x (hg.trans hx)
  | succ f => exact fun x hx => h x (hg.trans hx)
theorem wpAny_of_E {Q : Exit → Act → World → Prop} : ∀ (f : Nat) (listed : Array Bool) (a : Act) (w : World), wpE P md ops K ex (Q .normal) f listed a w → wpAny P md ops Q f listed a w
  | 0, listed, a, w, h => h w (Gr.refl w)
  | f + 1, listed, a, w, h => by
    obtain ⟨h1, h2⟩ := h w (Gr.refl w)
    exact ⟨fun h0 => absurd h0 h1, fun i hi => wpOp_never (fun a' w' h' => wpAny_of_E f _ a' w' h'.2) (h2 i hi)⟩

theorem wpE_first {Q : Act → World → Prop} {i : Nat} {oi : Oper} {v : Value} (hi : ops[i]? = some oi) (hsel : ∀ (j : Nat) (o : Oper) cs b, ops[j]? = some o → o.op ≠ .select cs b)
    (hex : ∀ j, j < ops.size → ex j = true → j ≠ i → needs md ops ops.size j i = true) :
    ∀ (f : Nat) (listed : Array Bool) (a : Act) (w : World), Clo md ops listed →
      (∀ j oj, ops[j]? = some oj → j ≠ i → listed.getD j true = false → (∀ e ∈ oj.after, Region.binds md e = true → e.on ≠ i) → oi.apart ops oj = true) →
      i ∈ Region.ready md ops listed → YK P ops K oi v a w →
      wpE P md ops K ex Q f (listed.setIfInBounds i true) (a.put oi.dst v) w → wpE P md ops K ex Q (f + 1) listed a w := by
  intro f
  induction f with
  | zero =>
    intro listed a w _ _ hr hy H x hx
    refine ⟨fun h => (by rw [h] at hr; cases hr), fun j hj => ?_⟩
    by_cases hji : j = i
    · subst hji
      exact (hy.keep (Kp.of_gr hx)).wpOp hi fun y hy' => ⟨.inr (Kp.of_gr hy'), wpE_grow (hx.trans hy') H⟩
    · have := ready_mono hj hji
      rw [(H x hx).1] at this
      cases this
  | succ f ih =>
    intro listed a w hclo hfree hr hy H x hx
    have hun := (mem_ready.1 hr).1
    refine ⟨fun h => (by rw [h] at hr; cases hr), fun j hj => ?_⟩
    by_cases hji : j = i
    · subst hji
      exact (hy.keep (Kp.of_gr hx)).wpOp hi fun y hy' => ⟨.inr (Kp.of_gr hy'), wpE_grow (hx.trans hy') H⟩
    · have h1 := (H x hx).2 j (ready_mono hj hji)
      obtain ⟨hjun, oj, hoj, hall⟩ := mem_ready.1 hj
      have hnex : ¬ ex j = true := fun he => needs_ready hclo (hex j (Array.getElem?_eq_some_iff.1 hoj).1 he hji) hun hj
      have hnot : ∀ e ∈ oj.after, Region.binds md e = true → e.on ≠ i := fun e he hb heq => by
        have h1 := hall e he hb
        rw [heq, getD_both hun] at h1
        cases h1
      have h2 := wpOp_apart hoj (hfree j oj hoj hji hjun hnot) (fun cs b => hsel i oi cs b hi) (fun cs b => hsel j oj cs b hoj) h1
      have hfree' : ∀ k ok, ops[k]? = some ok → k ≠ i → (listed.setIfInBounds j true).getD k true = false →
          (∀ e ∈ ok.after, Region.binds md e = true → e.on ≠ i) → oi.apart ops ok = true := fun k ok hk hki hun hno => by
        refine hfree k ok hk hki ?_ hno
        by_cases hjk : j = k
        · subst hjk; exact hjun
        · rw [getD_set_ne true hjk] at hun; exact hun
      refine wpOp_never (fun a' w' h3 => ?_) h2
      obtain ⟨⟨e1, e2⟩, hg, h4⟩ := h3
      have hkp : Kp K x w' := hg.resolve_left hnex
      refine ⟨hg, ih (listed.setIfInBounds j true) a' w' (hclo.set hj) hfree' (ready_mono hr (Ne.symm hji)) ((hy.keep ((Kp.of_gr hx).trans hkp)).same e1 e2) ?_⟩
      rw [Array.setIfInBounds_comm _ _ hji]
      exact h4

def hoistE (md : Region.Mode) (ops : Array Oper) (ex : Nat → Bool) : List Nat → Array Bool → Bool
  | [], _ => true
  | i :: l, listed => (Region.ready md ops listed).contains i && Region.free md ops listed i && ((List.range ops.size).all fun j => !ex j || j == i || needs md ops ops.size j i) && hoistE md ops ex l (listed.setIfInBounds i true)

theorem wpE_hoist_cls {l : List Oper} {Q : Act → World → Prop} {g : Nat} (hsel : Region.noSelect l.toArray = true) : ∀ (is : List Nat) (listed : Array Bool) (a : Act) (w : World), Clo md l.toArray listed → hoistE md l.toArray ex is listed = true →
    (∀ u, wpQuiet P l.toArray (cls K w u) (fun a' => wpE P md l.toArray K ex Q g (marks is listed) a' w) (pickL l is) a) → wpE P md l.toArray K ex Q (is.length + g) listed a w
  | [], listed, a, w, _, _, h => by
    rw [List.length_nil, Nat.zero_add]
    exact h none
  | i :: is, listed, a, w, hclo, hB, h => by
    simp only [hoistE, Bool.and_eq_true] at hB
    obtain ⟨⟨⟨hr, hf⟩, hx⟩, hB'⟩ := hB
    have hr' : i ∈ Region.ready md l.toArray listed := by simpa using hr
    obtain ⟨_, o, ho, _⟩ := mem_ready.1 hr'
    have ho' : l[i]? = some o := by simpa using ho
    rw [pickL_cons ho'] at h
    obtain ⟨v, hy, hK⟩ := quiet_headK h
    rw [List.length_cons, show is.length + 1 + g = (is.length + g) + 1 by omega]
    refine wpE_first ho (Region.noSelect_spec hsel) (fun j hj he hji => ?_) _ _ _ _ hclo (Region.free_spec ho hf) hr' hy (wpE_hoist_cls hsel is _ _ w (hclo.set hr') hB' hK)
    have h1 := List.all_eq_true.1 hx j (List.mem_range.2 hj)
    simp only [he, Bool.not_true, Bool.false_or, Bool.or_eq_true, beq_iff_eq] at h1
    exact h1.resolve_left hji
end

theorem wpE_hoist {P : Program} {K : Nat → Prop} {ex : Nat → Bool} {l : List Oper} {Q : Act → World → Prop} {f : Nat} {listed : Array Bool} {a : Act} {w : World} (is : List Nat) (g : Nat) (hf : f = is.length + g) (hsel : Region.noSelect l.toArray = true) (hc : cloB .any l.toArray listed = true) (hB : hoistE .any l.toArray ex is listed = true)
    (h : ∀ u, wpQuiet P l.toArray (fun x => ∃ z, x = aftK K w u z) (fun a' => wpE P .any l.toArray K ex Q g (marks is listed) a' w) (pickL l is) a) : wpE P .any l.toArray K ex Q f listed a w := by
  subst hf
  refine wpE_hoist_cls hsel is listed a w (clo_of hc) hB fun u => ?_
  have := h u
  rwa [clsK_eq] at this

def MainE (P : Program) (l : List Oper) (K : Nat → Prop) (ex : Nat → Bool) (Q : Act → World → Prop) (g i : Nat) (listed : Array Bool) (x : World) : Exit → Act → World → Prop :=
  fun e a1 w1 => e = .normal ∧ (ex i = true ∨ Kp K x w1) ∧ wpE P .any l.toArray K ex Q g listed a1 w1
theorem wpE_op {P : Program} {K : Nat → Prop} {ex : Nat → Bool} {l : List Oper} {Q : Act → World → Prop} {g i : Nat} {listed : Array Bool} {a : Act} {x : World} {o : Oper} (ho : l[i]? = some o) (h : wpList P l.toArray (MainE P l K ex Q g i listed x) (pickL l [i]) a x) :
    wpOp P l.toArray Never i (fun a' w' => (ex i = true ∨ Kp K x w') ∧ wpE P .any l.toArray K ex Q g listed a' w') a x := by
  have ho' : l.toArray[i]? = some o := by simpa using ho
  rw [pickL_cons ho] at h
  unfold wpOp
  simp only [ho']
  simp only [wpList, pickL] at h
  have hlet : ¬ LetsOut (MainE P l K ex Q g i listed x) := by
    rintro ⟨_, _, he, _⟩
    cases he
  split
  · rename_i hw
    simp only [hw, if_true] at h
    rcases h with h | ⟨_, hl⟩
    · exact .inl (wp_change (fun _ _ h => h.2) (fun _ _ _ h => by cases h.1) (fun h => absurd h hlet) h)
    · exact absurd hl hlet
  · rename_i hw
    simp only [hw] at h
    exact h.2
theorem wpE_main {P : Program} {K : Nat → Prop} {ex : Nat → Bool} {l : List Oper} {Q : Act → World → Prop} {g : Nat} {listed : Array Bool} {a : Act} {w : World} (i : Nat) (hr : Region.ready .any l.toArray listed = [i])
    (h : ∀ x, Gr w x → wpList P l.toArray (MainE P l K ex Q g i (listed.setIfInBounds i true) x) (pickL l [i]) a x) : wpE P .any l.toArray K ex Q (g + 1) listed a w := by
  intro x hx
  rw [hr]
  refine ⟨by simp, fun j hj => ?_⟩
  have hji : j = i := by simpa using hj
  subst hji
  obtain ⟨_, o, ho, _⟩ := mem_ready.1 (show j ∈ Region.ready .any l.toArray listed by rw [hr]; simp)
  exact wpE_op (by simpa using ho) (h x hx)
theorem wpE_main2 {P : Program} {K : Nat → Prop} {ex : Nat → Bool} {l : List Oper} {Q : Act → World → Prop} {g : Nat} {listed : Array Bool} {a : Act} {w : World} (i j : Nat) (hr : Region.ready .any l.toArray listed = [i, j])
    (h : ∀ x, Gr w x → wpList P l.toArray (MainE P l K ex Q g i (listed.setIfInBounds i true) x) (pickL l [i]) a x)
    (h' : ∀ x, Gr w x → wpList P l.toArray (MainE P l K ex Q g j (listed.setIfInBounds j true) x) (pickL l [j]) a x) : wpE P .any l.toArray K ex Q (g + 1) listed a w := by
  intro x hx
  rw [hr]
  refine ⟨by simp, fun k hk => ?_⟩
  obtain ⟨_, o, ho, _⟩ := mem_ready.1 (show k ∈ Region.ready .any l.toArray listed by rw [hr]; exact hk)
  have hkk : k = i ∨ k = j := by simpa using hk
  rcases hkk with rfl | rfl
  · exact wpE_op (by simpa using ho) (h x hx)
  · exact wpE_op (by simpa using ho) (h' x hx)
theorem wpE_end {P : Program} {K : Nat → Prop} {ex : Nat → Bool} {l : List Oper} {Q : Act → World → Prop} {listed : Array Bool} {a : Act} {w : World} (hr : Region.ready .any l.toArray listed = []) (h : ∀ x, Gr w x → Q a x) : wpE P .any l.toArray K ex Q 0 listed a w :=
  fun x hx => ⟨hr, h x hx⟩
theorem wp_region_E {P : Program} {id : Nat} {Q : Exit → Act → World → Prop} {a : Act} {w : World} {l : List Oper} (K : Nat → Prop) (ex : Nat → Bool) (n : Nat) (hn : n = l.length) (hm : P.follows .mixedOrders = true)
    (h : wpE P .any l.toArray K ex (Q .normal) n (Array.replicate n false) a w) : (Code.region id l.toArray true).wp P Q a w := by
  subst hn
  refine wp_region_any hm ?_
  have hsz : l.toArray.size = l.length := by simp
  rw [hsz]
  have hgd : Gr w { w with drawn := w.drawn + 1 } := ⟨rfl, rfl, rfl, Nat.le_refl _, fun _ _ => rfl⟩
  exact wpAny_of_E _ _ _ _ (wpE_grow hgd h)
end Go.Proofs.Ytljmhenhibhbfaa.Reg

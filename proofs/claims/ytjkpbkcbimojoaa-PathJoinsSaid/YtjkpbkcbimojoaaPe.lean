/- Subpaths as plain lists, and how a path is split into them. No program in sight. -/
import Derived.Test.YtjkpbkcbimojoaaPc
namespace Go.Proofs.Ytjkpbkcbimojoaa
open Go.RowKit

/-- A segment: four points, and how many of them count. -/
structure SegS where
  p0 : Int × Int
  p1 : Int × Int
  p2 : Int × Int
  p3 : Int × Int
  n : Int
/-- A subpath. -/
structure SubS where
  start : Int × Int
  segs : List SegS
  closed : Bool
def segL (s : SegS) : List Int := [s.p0.1, s.p0.2, s.p1.1, s.p1.2, s.p2.1, s.p2.2, s.p3.1, s.p3.2, s.n]
def segV (s : SegS) : List Value := [.int .i64 s.p0.1, .int .i64 s.p0.2, .int .i64 s.p1.1, .int .i64 s.p1.2, .int .i64 s.p2.1, .int .i64 s.p2.2, .int .i64 s.p3.1, .int .i64 s.p3.2, .int .i64 s.n]
def segsV (l : List SegS) : List Value := l.flatMap segV

def ptAt (ps : List (Int × Int)) (k : Nat) : Int × Int := ps.getD k (0, 0)
def lineS (a b : Int × Int) : SegS := ⟨a, b, (0, 0), (0, 0), 2⟩
def curveS (a : Int × Int) (ps : List (Int × Int)) (k : Nat) : SegS := ⟨a, ptAt ps 0, if 2 ≤ k then ptAt ps 1 else (0, 0), if 3 ≤ k then ptAt ps 2 else (0, 0), k + 1⟩
def closeS (a : Int × Int) (s : SubS) : SubS := ⟨s.start, if a = s.start then s.segs else s.segs ++ [lineS a s.start], true⟩
def addS (g : SegS) (s : SubS) : SubS := ⟨s.start, s.segs ++ [g], s.closed⟩
def modLast (f : SubS → SubS) : List SubS → List SubS
  | [] => []
  | [s] => [f s]
  | s :: t :: l => s :: modLast f (t :: l)
theorem modLast_snoc (f : SubS → SubS) (s : SubS) : ∀ l : List SubS, modLast f (l ++ [s]) = l ++ [f s]
  | [] => rfl
  | [a] => rfl
  | a :: b :: l => by
    have h := modLast_snoc f s (b :: l)
    simp only [List.cons_append, modLast] at h ⊢
    rw [h]
theorem modLast_length (f : SubS → SubS) : ∀ l : List SubS, (modLast f l).length = l.length
  | [] => rfl
  | [a] => rfl
  | a :: b :: l => by
    have h := modLast_length f (b :: l)
    simp only [modLast, List.length_cons] at h ⊢
    omega

/-- What is known while a path is taken apart: the subpaths, where it is, the points that are left. -/
structure TakeS where
  subs : List SubS
  pos : Int × Int
  rest : List (Int × Int)
def takeS (t : TakeS) (v : Int) : TakeS :=
  if v = 1 then ⟨t.subs ++ [⟨ptAt t.rest 0, [], false⟩], ptAt t.rest 0, t.rest.drop 1⟩
  else if v = 5 then ⟨modLast (closeS t.pos) t.subs, t.pos, t.rest⟩
  else ⟨modLast (addS (curveS t.pos t.rest (takesS v).toNat)) t.subs, ptAt t.rest ((takesS v).toNat - 1), t.rest.drop (takesS v).toNat⟩
def startS (ps : List (Int × Int)) : TakeS := ⟨[], (0, 0), ps⟩
/-- Behind k verbs. -/
def stateS (vs : List Int) (ps : List (Int × Int)) (k : Nat) : TakeS := (vs.take k).foldl takeS (startS ps)
def splitS (vs : List Int) (ps : List (Int × Int)) : List SubS := if checkS vs ps = 0 then (stateS vs ps vs.length).subs else []

theorem takeS_move (t : TakeS) : takeS t 1 = ⟨t.subs ++ [⟨ptAt t.rest 0, [], false⟩], ptAt t.rest 0, t.rest.drop 1⟩ := rfl
theorem takeS_close (t : TakeS) : takeS t 5 = ⟨modLast (closeS t.pos) t.subs, t.pos, t.rest⟩ := rfl
theorem takeS_line (t : TakeS) : takeS t 2 = ⟨modLast (addS (curveS t.pos t.rest 1)) t.subs, ptAt t.rest 0, t.rest.drop 1⟩ := rfl
theorem takeS_quad (t : TakeS) : takeS t 3 = ⟨modLast (addS (curveS t.pos t.rest 2)) t.subs, ptAt t.rest 1, t.rest.drop 2⟩ := rfl
theorem takeS_cubic (t : TakeS) : takeS t 4 = ⟨modLast (addS (curveS t.pos t.rest 3)) t.subs, ptAt t.rest 2, t.rest.drop 3⟩ := rfl
theorem stateS_zero (vs : List Int) (ps : List (Int × Int)) : stateS vs ps 0 = startS ps := rfl
theorem stateS_succ (vs : List Int) (ps : List (Int × Int)) (k : Nat) (h : k < vs.length) : stateS vs ps (k + 1) = takeS (stateS vs ps k) vs[k] := by
  unfold stateS
  rw [take_snoc vs k h, List.foldl_append]
  rfl

theorem takesS_ok {v : Int} (h : 0 ≤ takesS v) : v = 1 ∨ v = 2 ∨ v = 3 ∨ v = 4 ∨ v = 5 := by
  unfold takesS at h
  repeat' split at h
  all_goals omega
theorem check_ok {vs : List Int} {ps : List (Int × Int)} (h : checkS vs ps = 0) : vs.length ≤ 512 ∧ checkV 5 vs = 0 ∧ totalS vs = ps.length ∧ ps.any farP = false := by
  unfold checkS at h
  by_cases h1 : 512 < vs.length
  · rw [if_pos h1] at h; omega
  rw [if_neg h1] at h
  by_cases h2 : checkV 5 vs = 0
  · rw [if_neg (by omega)] at h
    by_cases h3 : totalS vs = ps.length
    · rw [if_neg (by omega)] at h
      refine ⟨by omega, h2, h3, ?_⟩
      cases hf : ps.any farP
      · rfl
      · rw [hf] at h; simp at h
    · rw [if_pos h3] at h; omega
  · rw [if_pos h2] at h; omega
theorem checkV_all : ∀ {b : Int} {vs : List Int}, checkV b vs = 0 → ∀ v ∈ vs, 0 ≤ takesS v
  | _, [], _, v, hv => by cases hv
  | b, u :: vs, h, v, hv => by
    simp only [checkV] at h
    by_cases h1 : takesS u < 0
    · rw [if_pos h1] at h; omega
    rw [if_neg h1] at h
    by_cases h2 : b = 5 ∧ u ≠ 1
    · rw [if_pos h2] at h; omega
    rw [if_neg h2] at h
    rcases List.mem_cons.1 hv with rfl | hv
    · omega
    · exact checkV_all h v hv
theorem checkV_first {v : Int} {vs : List Int} (h : checkV 5 (v :: vs) = 0) : v = 1 := by
  simp only [checkV] at h
  by_cases h1 : takesS v < 0
  · rw [if_pos h1] at h; omega
  rw [if_neg h1] at h
  by_cases h3 : v = 1
  · exact h3
  · rw [if_pos ⟨trivial, h3⟩] at h; omega
theorem totalS_cons (v : Int) (l : List Int) : totalS (v :: l) = takesS v + totalS l := by simp [totalS]
theorem totalS_nonneg {l : List Int} (h : ∀ v ∈ l, 0 ≤ takesS v) : 0 ≤ totalS l := by
  induction l with
  | nil => simp [totalS]
  | cons v l ih =>
    have e : totalS (v :: l) = takesS v + totalS l := by simp [totalS]
    rw [e]
    have := h v List.mem_cons_self
    have := ih fun u hu => h u (List.mem_cons_of_mem _ hu)
    omega
theorem takeS_rest (t : TakeS) (v : Int) (h : 0 ≤ takesS v) : (takeS t v).rest = t.rest.drop (takesS v).toNat := by
  rcases takesS_ok h with rfl | rfl | rfl | rfl | rfl <;> rfl
theorem takeS_length (t : TakeS) (v : Int) (h : 0 ≤ takesS v) : (takeS t v).subs.length = t.subs.length + (if v = 1 then 1 else 0) := by
  rcases takesS_ok h with rfl | rfl | rfl | rfl | rfl
  · rw [takeS_move]; simp
  · rw [takeS_line]; simp [modLast_length]
  · rw [takeS_quad]; simp [modLast_length]
  · rw [takeS_cubic]; simp [modLast_length]
  · rw [takeS_close]; simp [modLast_length]
theorem stateS_rest (vs : List Int) (ps : List (Int × Int)) (h : ∀ v ∈ vs, 0 ≤ takesS v) : ∀ k, k ≤ vs.length → (stateS vs ps k).rest = ps.drop (totalS (vs.take k)).toNat
  | 0, _ => by simp [stateS_zero, startS, totalS]
  | k + 1, hk => by
    have hk' : k < vs.length := hk
    have h1 := h vs[k] (List.getElem_mem hk')
    have h2 := totalS_nonneg fun v hv => h v (List.mem_of_mem_take (i := k) hv)
    rw [stateS_succ vs ps k hk', takeS_rest _ _ h1, stateS_rest vs ps h k (by omega), take_snoc vs k hk', totalS_snoc, List.drop_drop]
    congr 1
    omega
/-- What is true ahead of each verb of a path that may be. -/
theorem ahead_ok {vs : List Int} {ps : List (Int × Int)} (h : checkS vs ps = 0) (k : Nat) (hk : k < vs.length) :
    0 ≤ takesS vs[k] ∧ (k = 0 → vs[k] = 1) ∧ (takesS vs[k]).toNat ≤ (stateS vs ps k).rest.length ∧ (stateS vs ps k).rest.length ≤ ps.length := by
  obtain ⟨_, h2, h3, _⟩ := check_ok h
  have hall := checkV_all h2
  refine ⟨hall _ (List.getElem_mem hk), ?_, ?_, ?_⟩
  · rintro rfl
    cases vs with
    | nil => simp at hk
    | cons v vs => exact checkV_first h2
  · rw [stateS_rest vs ps hall k (by omega), List.length_drop]
    have e : totalS vs = totalS (vs.take k) + (takesS vs[k] + totalS (vs.drop (k + 1))) := by
      conv => lhs; rw [← List.take_append_drop k vs, totalS_append, drop_cons vs k hk, totalS_cons]
    have h4 := totalS_nonneg fun v hv => hall v (List.mem_of_mem_take (i := k) hv)
    have h5 := totalS_nonneg fun v hv => hall v (List.mem_of_mem_drop (i := k + 1) hv)
    have h6 := hall _ (List.getElem_mem hk)
    omega
  · rw [stateS_rest vs ps hall k (by omega), List.length_drop]
    omega
/-- Behind the first verb there is a last subpath. -/
theorem state_last {vs : List Int} {ps : List (Int × Int)} (h : checkS vs ps = 0) (k : Nat) (h0 : 0 < k) (hk : k ≤ vs.length) : 0 < (stateS vs ps k).subs.length := by
  induction k with
  | zero => omega
  | succ k ih =>
    obtain ⟨a1, a2, _, _⟩ := ahead_ok h k hk
    rw [stateS_succ vs ps k hk, takeS_length _ _ a1]
    by_cases hz : k = 0
    · rw [if_pos (a2 hz)]; omega
    · have := ih (by omega) (by omega); omega
theorem state_count (vs : List Int) (ps : List (Int × Int)) (h : ∀ v ∈ vs, 0 ≤ takesS v) : ∀ k, k ≤ vs.length → (stateS vs ps k).subs.length ≤ k
  | 0, _ => by simp [stateS_zero, startS]
  | k + 1, hk => by
    have h1 := h vs[k] (List.getElem_mem hk)
    have h2 := state_count vs ps h k (by omega)
    rw [stateS_succ vs ps k hk, takeS_length _ _ h1]
    split <;> omega
/-- No subpath has more segments than there were verbs. -/
theorem modLast_mem {f : SubS → SubS} {P Q : SubS → Prop} (h : ∀ s, P s → Q (f s)) (k : ∀ s, P s → Q s) : ∀ {l : List SubS}, (∀ s ∈ l, P s) → ∀ s ∈ modLast f l, Q s
  | [], hl, s, hs => k s (hl s hs)
  | [a], hl, s, hs => by
    rw [List.mem_singleton.1 hs]
    exact h _ (hl a List.mem_cons_self)
  | a :: b :: l, hl, s, hs => by
    rcases List.mem_cons.1 hs with rfl | hs
    · exact k _ (hl _ List.mem_cons_self)
    · exact modLast_mem h k (fun u hu => hl u (List.mem_cons_of_mem _ hu)) s hs
theorem addS_len (g : SegS) (k : Nat) (s : SubS) (h : s.segs.length ≤ k) : (addS g s).segs.length ≤ k + 1 := by simp [addS]; omega
theorem closeS_len (a : Int × Int) (k : Nat) (s : SubS) (h : s.segs.length ≤ k) : (closeS a s).segs.length ≤ k + 1 := by
  unfold closeS
  split <;> simp <;> omega
theorem state_segs (vs : List Int) (ps : List (Int × Int)) (h : ∀ v ∈ vs, 0 ≤ takesS v) : ∀ k, k ≤ vs.length → ∀ s ∈ (stateS vs ps k).subs, s.segs.length ≤ k
  | 0, _ => by simp [stateS_zero, startS]
  | k + 1, hk => by
    have h1 := h vs[k] (List.getElem_mem hk)
    have h2 := state_segs vs ps h k (by omega)
    have h3 : ∀ s : SubS, s.segs.length ≤ k → s.segs.length ≤ k + 1 := fun s hs => by omega
    rw [stateS_succ vs ps k hk]
    rcases takesS_ok h1 with e | e | e | e | e <;> rw [e]
    · rw [takeS_move]
      intro s hs
      rcases List.mem_append.1 hs with hs | hs
      · exact h3 s (h2 s hs)
      · rw [List.mem_singleton.1 hs]; simp
    · rw [takeS_line]
      exact modLast_mem (addS_len _ k) h3 h2
    · rw [takeS_quad]
      exact modLast_mem (addS_len _ k) h3 h2
    · rw [takeS_cubic]
      exact modLast_mem (addS_len _ k) h3 h2
    · rw [takeS_close]
      exact modLast_mem (closeS_len _ k) h3 h2
end Go.Proofs.Ytjkpbkcbimojoaa

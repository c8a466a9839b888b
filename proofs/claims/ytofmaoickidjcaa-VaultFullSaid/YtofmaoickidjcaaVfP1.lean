/- A part of the proof: P1 (for the law Vf). -/
import Derived.Test.YtofmaoickidjcaaVfPureLib
set_option linter.all false
namespace Go.S
open Go Go.Sx
/-! ## numbers -/
def icmp (a b : Int) : Int := if a < b then -1 else if b < a then 1 else 0
theorem icmp_self (a : Int) : icmp a a = 0 := by simp [icmp]
theorem isNaN_eq (a : Int) : cmp_isNaN_int a = some false := by simp [cmp_isNaN_int]
theorem cmpC_eq (a b : Int) : cmp_Compare_int a b = some (icmp a b) := by
  simp only [cmp_Compare_int, isNaN_eq, Option.bind_some, icmp, decide_eq_true_eq, Bool.false_eq_true, if_false]
  split <;> (try split) <;> rfl
def orI : List Int → Int
  | [] => 0
  | x :: r => if x ≠ 0 then x else orI r
theorem cmpOr_eq (l : List Int) (hl : l.length ≤ 1000000000000) : cmp_Or_int l = some (orI l) := by
  unfold cmp_Or_int
  rw [loop_find (u := ()) l (fun x _ => if x ≠ 0 then some x else none) hl]
  · have key : ∀ (l : List Int) (i : Nat), ff (fun x _ => if x ≠ 0 then some x else none) l i = if orI l ≠ 0 then some (orI l) else none := by
      intro l
      induction l with
      | nil => intro i; simp [ff, orI]
      | cons x r ih =>
        intro i
        rw [ff_cons (fun (x : Int) (_ : Nat) => if x ≠ 0 then some x else none) x r i]
        have ho : orI (x :: r) = if x ≠ 0 then x else orI r := rfl
        by_cases hx : x = 0
        · have h' : ¬ x ≠ 0 := by simpa using hx
          rw [ho, if_neg h']; simp only [if_neg h']; exact ih (i + 1)
        · rw [ho, if_pos hx]; simp only [if_pos hx]
    rw [key]
    by_cases h : orI l = 0
    · rw [if_neg (by simpa using h), h]; rfl
    · rw [if_pos h]; rfl
  · intro i x hx
    have hi := (List.getElem?_eq_some_iff.1 hx).1
    simp only [cmp_Or_int_l3, decide_eq_true_eq]
    rw [if_pos (by omega), lget_nat, hx]
    simp only [Option.bind_some]
    by_cases h : x ≠ 0 <;> simp [h]
  · simp [cmp_Or_int_l3]
/-! ## clock -/
theorem clock_node_eq (n : Int) : clock_node n = some (decide (0 ≤ n ∧ n < 8)) := by simp only [clock_node, decide_eq_true_eq]; split <;> simp [*]
theorem entry_node_eq (n : Int) : entry_node n = some (decide (0 ≤ n ∧ n < 8)) := by simp only [entry_node, decide_eq_true_eq]; split <;> simp [*]
theorem plan_node_eq (n : Int) : plan_node n = some (decide (0 ≤ n ∧ n < 8)) := by simp only [plan_node, decide_eq_true_eq]; split <;> simp [*]
theorem take_node_eq (n : Int) : take_node n = some (decide (0 ≤ n ∧ n < 8)) := by simp only [take_node, decide_eq_true_eq]; split <;> simp [*]
theorem ring_part_eq (n : Int) : ring_part n = some (decide (0 ≤ n ∧ n < 16)) := by simp only [ring_part, decide_eq_true_eq]; split <;> simp [*]
/-! ## entries -/
def ecmp (a b : Entry) : Int := if icmp a.Epoch b.Epoch ≠ 0 then icmp a.Epoch b.Epoch else icmp a.Owner b.Owner
theorem ecmp_self (a : Entry) : ecmp a a = 0 := by simp [ecmp, icmp_self]
theorem entry_Compare_eq (a b : Entry) : entry_Compare a b = some (ecmp a b) := by
  simp only [entry_Compare, cmpC_eq, Option.bind_some]
  rw [cmpOr_eq _ (by simp)]
  simp only [Option.bind_some, orI, ecmp]
  by_cases h : icmp a.Epoch b.Epoch ≠ 0
  · simp [h]
  · by_cases h2 : icmp a.Owner b.Owner = 0 <;> simp [h, h2]
def ejoin (a b : Entry) : Entry := if 0 < ecmp b a then b else a
theorem entry_Join_eq (a b : Entry) : entry_Join a b = some (ejoin a b) := by
  simp only [entry_Join, entry_Compare_eq, Option.bind_some, ejoin, decide_eq_true_eq]; split <;> rfl
def EntryOk (e : Entry) : Prop := e = Entry.z ∨ (1 ≤ e.Epoch ∧ e.Epoch ≤ 1000000 ∧ 0 ≤ e.Owner ∧ e.Owner < 8)
instance (e : Entry) : Decidable (EntryOk e) := by unfold EntryOk; infer_instance
theorem entry_May_eq (e : Entry) : entry_May e = some (decide (EntryOk e)) := by
  simp only [entry_May, entry_node_eq, Option.bind_some, decide_eq_true_eq, EntryOk]
  split
  · simp [*]
  · split
    · split <;> simp [*]
    · simp [*]
/-! ## plans -/
theorem plan_full1_eq (n : Int) : plan_full_1 n = some (!decide (0 ≤ n ∧ n < 8)) := by simp [plan_full_1, plan_node_eq]
theorem planIdx_eq (l : List Int) (hl : l.length ≤ 1000000000000) : slices_ContainsFunc_int_int_plan_full_1 l = some (decide (∃ n ∈ l, ¬ (0 ≤ n ∧ n < 8))) := by
  unfold slices_ContainsFunc_int_int_plan_full_1 slices_IndexFunc_int_int_plan_full_1
  rw [loop_find (u := ()) l (fun x i => if 0 ≤ x ∧ x < 8 then none else some (i : Int)) hl]
  · cases hf : ff (fun (x : Int) (i : Nat) => if 0 ≤ x ∧ x < 8 then none else some (i : Int)) l 0 with
    | none =>
      simp only [andThen, slices_IndexFunc_int_int_plan_full_1_j2, Option.bind_some]
      have := ff_none.1 hf
      congr 1
      simp only [Int.reduceNeg, Int.reduceLE, decide_false]
      symm
      rw [decide_eq_false_iff_not]
      rintro ⟨n, hn, h⟩
      obtain ⟨k, hk⟩ := List.getElem?_of_mem hn
      have := this k n hk
      simp [h] at this
    | some r =>
      simp only [andThen, Option.bind_some]
      obtain ⟨k, x, h1, h2, _⟩ := ff_some hf
      split at h2
      · cases h2
      · rename_i hx
        cases h2
        congr 1
        have h : ∃ n ∈ l, ¬ (0 ≤ n ∧ n < 8) := ⟨x, List.mem_of_getElem? h1, hx⟩
        simp only [h, decide_true, decide_eq_true_eq]; omega
  · intro i x hx
    have hi := (List.getElem?_eq_some_iff.1 hx).1
    simp only [slices_IndexFunc_int_int_plan_full_1_l3, decide_eq_true_eq]
    rw [if_pos (by omega), lget_nat, hx]
    simp only [Option.bind_some, plan_full1_eq]
    by_cases h : 0 ≤ x ∧ x < 8
    · simp [h]
    · simp [h]
  · simp [slices_IndexFunc_int_int_plan_full_1_l3]
def PlanOk (p : Plan) : Prop := (p.Targets = [] ∧ p.Version = 0 ∧ p.By = 0) ∨ (p.Targets ≠ [] ∧ 1 ≤ p.Version ∧ p.Version ≤ 1000000 ∧ 0 ≤ p.By ∧ p.By < 8 ∧ p.Targets.length = 16 ∧ ∀ n ∈ p.Targets, 0 ≤ n ∧ n < 8)
theorem plan_full_eq (l : List Int) (hl : l.length ≤ 1000000000000) : plan_full l = some (decide (l.length = 16 ∧ ∀ n ∈ l, 0 ≤ n ∧ n < 8)) := by
  simp only [plan_full, planIdx_eq l hl, Option.bind_some, decide_eq_true_eq]
  by_cases h : l.length = 16
  · rw [if_pos (by omega)]
    congr 1
    rw [← decide_not]
    apply decide_beq
    rw [not_exists]
    exact ⟨fun hh => ⟨h, fun n hn => Decidable.byContradiction fun hx => hh n ⟨hn, hx⟩⟩, fun hh n hn => hn.2 (hh.2 n hn.1)⟩
  · rw [if_neg (by omega)]; simp [h]
instance (p : Plan) : Decidable (PlanOk p) := by unfold PlanOk; infer_instance
theorem plan_May_eq (p : Plan) (hl : p.Targets.length ≤ 1000000000000) : plan_May p = some (decide (PlanOk p)) := by
  simp only [plan_May, plan_full_eq _ hl, plan_node_eq, Option.bind_some, decide_eq_true_eq, plan_May_j1, PlanOk]
  by_cases h : p.Targets = []
  · rw [if_pos (by simp [h])]
    by_cases h2 : p.Version = 0 <;> simp [h, h2]
  · have hn : p.Targets.length ≠ 0 := by simpa using h
    rw [if_neg (by omega)]
    by_cases h1 : 1 ≤ p.Version
    · by_cases h2 : p.Version ≤ 1000000
      · by_cases h3 : 0 ≤ p.By ∧ p.By < 8
        · simp [h, h1, h2, h3]
        · simp only [h1, h2, if_true, h3, decide_false, Bool.false_eq_true, if_false]; congr 1; simp only [h, false_and, false_or, ne_eq, not_false_eq_true, true_and, h1, h2]; symm; rw [decide_eq_false_iff_not]; rintro ⟨a, b, _⟩; exact h3 ⟨a, b⟩
      · simp [h, h1, h2]
    · simp [h, h1]

theorem cloneI_eq (l : List Int) (hl : l.length ≤ 1000000000000) : slices_Clone_int_int l = some l := by unfold slices_Clone_int_int; rw [appsG_ok (by simp; omega)]; rfl
theorem cloneV_eq (l : List Val) (hl : l.length ≤ 1000000000) : slices_Clone_api_Value_api_Value l = some l := by unfold slices_Clone_api_Value_api_Value; rw [appsG_ok (by simp; omega)]; rfl
theorem plan_copied_eq (p : Plan) (hl : p.Targets.length ≤ 1000000000000) : plan_copied p = some p := by simp [plan_copied, cloneI_eq _ hl]
def lcmp : List Int → List Int → Int
  | [], [] => 0
  | [], _ :: _ => -1
  | _ :: _, [] => 1
  | x :: r, y :: s => if icmp x y ≠ 0 then icmp x y else lcmp r s
theorem lcmp_self (l : List Int) : lcmp l l = 0 := by
  induction l with
  | nil => rfl
  | cons x r ih => simp [lcmp, icmp_self, ih]
theorem sCompare_eq (l m : List Int) (hl : l.length ≤ 1000000000000) : slices_Compare_int_int l m = some (lcmp l m) := by
  unfold slices_Compare_int_int
  rw [loop_find (u := ()) l (fun x i => match m[i]? with | none => some 1 | some y => if icmp x y ≠ 0 then some (icmp x y) else none) hl]
  · have key : ∀ (l : List Int) (i : Nat), lcmp l (m.drop i) = match ff (fun (x : Int) (i : Nat) => match m[i]? with | none => some 1 | some y => if icmp x y ≠ 0 then some (icmp x y) else none) l i with
        | some r => r
        | none => if (i + l.length : Int) < m.length then -1 else 0 := by
      intro l
      induction l with
      | nil =>
        intro i
        simp only [ff, List.length_nil]
        cases hm : m.drop i with
        | nil => rw [if_neg (by have := List.drop_eq_nil_iff.1 hm; omega)]; rfl
        | cons y s =>
          have : i < m.length := by
            rcases Nat.lt_or_ge i m.length with h | h
            · exact h
            · rw [List.drop_eq_nil_iff.2 h] at hm; cases hm
          rw [if_pos (by omega)]; rfl
      | cons x r ih =>
        intro i
        rw [ff_cons]
        cases hm : m[i]? with
        | none =>
          have := List.getElem?_eq_none_iff.1 hm
          rw [List.drop_eq_nil_iff.2 this]; rfl
        | some y =>
          obtain ⟨hi, hy⟩ := List.getElem?_eq_some_iff.1 hm
          rw [List.drop_eq_getElem_cons hi, hy]
          show (if icmp x y ≠ 0 then icmp x y else lcmp r (m.drop (i + 1))) = _
          by_cases hc : icmp x y ≠ 0
          · simp only [if_pos hc]
          · simp only [if_neg hc]
            rw [ih (i + 1)]
            simp only [List.length_cons]
            congr 1
            have : ((i + 1 : Nat) : Int) + (r.length : Int) = (i : Int) + ((r.length + 1 : Nat) : Int) := by omega
            rw [this]
    have := key l 0
    rw [List.drop_zero] at this
    rw [this]
    cases ff _ l 0 with
    | some r => rfl
    | none => simp only [andThen, slices_Compare_int_int_j2, decide_eq_true_eq]; split <;> split <;> first | rfl | omega
  · intro i x hx
    have hi := (List.getElem?_eq_some_iff.1 hx).1
    simp only [slices_Compare_int_int_l3, decide_eq_true_eq]
    rw [if_pos (by omega), lget_nat, hx]
    simp only [Option.bind_some]
    cases hm : m[i]? with
    | none => have := List.getElem?_eq_none_iff.1 hm; rw [if_pos (by omega)]
    | some y =>
      have := (List.getElem?_eq_some_iff.1 hm).1
      rw [if_neg (by omega), lget_nat, hm]
      simp only [Option.bind_some, cmpC_eq]
      split <;> rfl
  · simp [slices_Compare_int_int_l3]
def pcmp (p q : Plan) : Int := orI [icmp p.Version q.Version, icmp p.By q.By, icmp p.Targets.length q.Targets.length, lcmp p.Targets q.Targets]
theorem plan_Compare_eq (p q : Plan) (hl : p.Targets.length ≤ 1000000000000) : plan_Compare p q = some (pcmp p q) := by
  simp only [plan_Compare, cmpC_eq, sCompare_eq _ _ hl, Option.bind_some]
  rw [cmpOr_eq _ (by simp)]; rfl
theorem pcmp_self (p : Plan) : pcmp p p = 0 := by simp [pcmp, orI, icmp_self, lcmp_self]
def pjoin (p q : Plan) : Plan := if 0 < pcmp q p then q else p
theorem plan_Join_eq (p q : Plan) (hl : p.Targets.length ≤ 1000000000000) (hq : q.Targets.length ≤ 1000000000000) : plan_Join p q = some (pjoin p q) := by
  simp only [plan_Join, plan_Compare_eq _ _ hq, plan_copied_eq _ hl, plan_copied_eq _ hq, Option.bind_some, pjoin, decide_eq_true_eq]; split <;> rfl
theorem pjoin_self (p : Plan) : pjoin p p = p := by simp [pjoin]
theorem plan_Same_eq (p q : Plan) (hl : p.Targets.length ≤ 1000000000000) : plan_Same p q = some (decide (pcmp p q = 0)) := by simp [plan_Same, plan_Compare_eq _ _ hl]
/-! ## rings -/
theorem ring_May1_eq (e : Entry) : ring_May_1 e = some (!decide (EntryOk e)) := by simp [ring_May_1, entry_May_eq]
theorem ringIdx_eq (l : List Entry) (hl : l.length ≤ 1000000000000) : slices_ContainsFunc_api_Entry_api_Entry_ring_May_1 l = some (decide (∃ e ∈ l, ¬ EntryOk e)) := by
  unfold slices_ContainsFunc_api_Entry_api_Entry_ring_May_1 slices_IndexFunc_api_Entry_api_Entry_ring_May_1
  rw [loop_find (u := ()) l (fun x i => if EntryOk x then none else some (i : Int)) hl]
  · cases hf : ff (fun (x : Entry) (i : Nat) => if EntryOk x then none else some (i : Int)) l 0 with
    | none =>
      simp only [andThen, slices_IndexFunc_api_Entry_api_Entry_ring_May_1_j2, Option.bind_some]
      have := ff_none.1 hf
      congr 1
      simp only [Int.reduceNeg, Int.reduceLE, decide_false]
      symm
      rw [decide_eq_false_iff_not]
      rintro ⟨n, hn, h⟩
      obtain ⟨k, hk⟩ := List.getElem?_of_mem hn
      have := this k n hk
      simp [h] at this
    | some r =>
      simp only [andThen, Option.bind_some]
      obtain ⟨k, x, h1, h2, _⟩ := ff_some hf
      split at h2
      · cases h2
      · rename_i hx
        cases h2
        congr 1
        have h : ∃ n ∈ l, ¬ EntryOk n := ⟨x, List.mem_of_getElem? h1, hx⟩
        simp only [h, decide_true, decide_eq_true_eq]; omega
  · intro i x hx
    have hi := (List.getElem?_eq_some_iff.1 hx).1
    simp only [slices_IndexFunc_api_Entry_api_Entry_ring_May_1_l3, decide_eq_true_eq]
    rw [if_pos (by omega), lget_nat, hx]
    simp only [Option.bind_some, ring_May1_eq]
    by_cases h : EntryOk x
    · simp [h]
    · simp [h]
  · simp [slices_IndexFunc_api_Entry_api_Entry_ring_May_1_l3]
def RingOk (r : Ring) : Prop := (∀ (i : Nat) (h : i < 8), (0 : Int) ≤ r.Status[i] ∧ r.Status[i] ≤ (4 : Int)) ∧ PlanOk r.Plan ∧ ∀ (i : Nat) (h : i < 16), EntryOk r.Parts[i]
instance (r : Ring) : Decidable (RingOk r) := by unfold RingOk; infer_instance
theorem ring_May_eq (r : Ring) (hl : r.Plan.Targets.length ≤ 1000000000000) : ring_May r = some (decide (RingOk r)) := by
  unfold ring_May
  rw [loop_find (u := ()) r.Status.toList (fun x _ => if 0 ≤ x ∧ x ≤ 4 then none else some false) (by simp)]
  · cases hf : ff (fun (x : Int) (_ : Nat) => if 0 ≤ x ∧ x ≤ 4 then none else some false) r.Status.toList 0 with
    | some b =>
      obtain ⟨k, x, h1, h2, _⟩ := ff_some hf
      split at h2
      · cases h2
      · rename_i hx
        cases h2
        simp only [andThen]
        congr 1; symm
        rw [decide_eq_false_iff_not]
        rintro ⟨h, _⟩
        obtain ⟨hk, rfl⟩ := vmem _ h1
        exact hx (h k hk)
    | none =>
      have hall : ∀ (i : Nat) (h : i < 8), (0 : Int) ≤ r.Status[i] ∧ r.Status[i] ≤ (4 : Int) := fun i h => by
        have := ff_none.1 hf i _ (vget r.Status i h)
        split at this
        · assumption
        · cases this
      simp only [andThen, ring_May_j2, plan_May_eq _ hl, Option.bind_some, decide_eq_true_eq]
      rw [ringIdx_eq _ (by simp)]
      simp only [Option.bind_some]
      by_cases hp : PlanOk r.Plan
      · rw [if_pos hp]
        congr 1
        rw [← decide_not]
        apply decide_beq
        constructor
        · intro h
          refine ⟨hall, hp, fun i hi => Decidable.byContradiction fun hx => h ⟨_, List.mem_of_getElem? (vget r.Parts i hi), hx⟩⟩
        · rintro ⟨_, _, h⟩ ⟨e, he, hx⟩
          obtain ⟨k, hk⟩ := List.getElem?_of_mem he
          obtain ⟨hk', rfl⟩ := vmem _ hk
          exact hx (h k hk')
      · rw [if_neg hp]; congr 1; symm; rw [decide_eq_false_iff_not]; exact fun h => hp h.2.1
  · intro i x hx
    obtain ⟨hi, rfl⟩ := vmem _ hx
    simp only [ring_May_l3, decide_eq_true_eq]
    rw [if_pos (by omega), aget_nat _ _ hi]
    simp only [Option.bind_some]
    by_cases h1 : r.Status[i] < 0
    · rw [if_pos h1, if_neg (by omega)]
    · rw [if_neg h1]
      by_cases h2 : 4 < r.Status[i]
      · rw [if_pos h2, if_neg (by omega)]
      · rw [if_neg h2, if_pos (by omega)]
  · simp [ring_May_l3]
theorem ring_Same_eq (r s : Ring) (hl : r.Plan.Targets.length ≤ 1000000000000) : ring_Same r s = some (decide (r.Status = s.Status ∧ r.Parts = s.Parts ∧ pcmp r.Plan s.Plan = 0)) := by
  simp only [ring_Same, plan_Same_eq _ _ hl, Option.bind_some, decide_eq_true_eq]
  split
  · split
    · simp [*]
    · simp [*]
  · simp [*]
def rjoin (r s : Ring) : Ring := { Status := Vector.ofFn fun i : Fin 8 => max r.Status[i] s.Status[i], Plan := pjoin r.Plan s.Plan, Parts := Vector.ofFn fun i : Fin 16 => ejoin r.Parts[i] s.Parts[i] }
theorem ring_Join_eq (r s : Ring) (hl : r.Plan.Targets.length ≤ 1000000000000) (hs : s.Plan.Targets.length ≤ 1000000000000) : ring_Join r s = some (rjoin r s) := by
  simp only [ring_Join, plan_Join_eq _ _ hl hs, Option.bind_some]
  rw [loopN_eq (e0 := ({ Status := (rjoin r s).Status, Plan := pjoin r.Plan s.Plan, Parts := Ring.z.Parts } : Ring)) (fun i st => st = ({ Status := Vector.ofFn fun j : Fin 8 => if j.1 < i then max r.Status[j] s.Status[j] else 0, Plan := pjoin r.Plan s.Plan, Parts := Ring.z.Parts }, (i : Int))) 8 ?_ (FUEL_big (by omega)) ?_ ?_]
  · simp only [Option.bind_some, ring_Join_j2]
    rw [loopN_eq (e0 := rjoin r s) (fun i st => st = ({ Status := (rjoin r s).Status, Plan := pjoin r.Plan s.Plan, Parts := Vector.ofFn fun j : Fin 16 => if j.1 < i then ejoin r.Parts[j] s.Parts[j] else Entry.z }, (i : Int))) 16 ?_ (FUEL_big (by omega)) ?_ ?_]
    · simp [ring_Join_j4]
    · simp only [Prod.mk.injEq, Ring.mk.injEq, true_and, Int.natCast_zero, and_true]
      ext1; rename_i i hi; simp [Ring.z]
    · rintro i st hi rfl
      left
      simp only [ring_Join_l5, decide_eq_true_eq]
      rw [if_pos (by omega), aget_nat _ _ hi, aget_nat _ _ hi]
      simp only [Option.bind_some, entry_Join_eq]
      rw [aset_nat _ _ _ hi]
      refine ⟨_, rfl, ?_⟩
      simp only [Prod.mk.injEq, Ring.mk.injEq, true_and]
      refine ⟨?_, w64_nat i (by omega)⟩
      ext1; rename_i j hj
      simp only [Vector.getElem_set, Vector.getElem_ofFn]
      by_cases e : i = j
      · subst e; simp
      · have : (j < i + 1) = (j < i) := by simp; omega
        simp [e, this]
    · rintro st rfl
      simp only [ring_Join_l5, decide_eq_true_eq]
      rw [if_neg (by omega)]
      simp only [Option.some.injEq, Sum.inr.injEq, rjoin, Ring.mk.injEq, true_and]
      ext1; rename_i j hj; simp [hj]
  · simp only [Prod.mk.injEq, Ring.mk.injEq, true_and, Int.natCast_zero, and_true]
    ext1; rename_i i hi; simp [Ring.z]
  · rintro i st hi rfl
    left
    simp only [ring_Join_l6, decide_eq_true_eq]
    rw [if_pos (by omega), aget_nat _ _ hi, aget_nat _ _ hi]
    simp only [Option.bind_some]
    rw [aset_nat _ _ _ hi]
    refine ⟨_, rfl, ?_⟩
    simp only [Prod.mk.injEq, Ring.mk.injEq, true_and, and_true]
    refine ⟨?_, w64_nat i (by omega)⟩
    ext1; rename_i j hj
    simp only [Vector.getElem_set, Vector.getElem_ofFn]
    by_cases e : i = j
    · subst e; simp
    · have : (j < i + 1) = (j < i) := by simp; omega
      simp [e, this]
  · rintro st rfl
    simp only [ring_Join_l6, decide_eq_true_eq]
    rw [if_neg (by omega)]
    simp only [Option.some.injEq, Sum.inr.injEq, rjoin, Ring.mk.injEq, true_and, and_true]
    ext1; rename_i j hj; simp [hj]
theorem rjoin_self (r : Ring) : rjoin r r = r := by
  cases r with
  | mk st pl pt =>
    simp only [rjoin, Ring.mk.injEq, pjoin_self, true_and]
    constructor
    · ext1; simp
    · ext1; simp [ejoin]
def rowner (r : Ring) (p : Int) : Int := if h : 0 ≤ p ∧ p.toNat < 16 then (if r.Parts[p.toNat].Epoch = 0 ∨ ¬ EntryOk r.Parts[p.toNat] then -1 else r.Parts[p.toNat].Owner) else -1
theorem ring_Owner_eq (r : Ring) (p : Int) : ring_Owner r p = some (rowner r p) := by
  simp only [ring_Owner, ring_part_eq, Option.bind_some]
  by_cases h : 0 ≤ p ∧ p < 16
  · have h' : p.toNat < 16 := by omega
    simp only [h, and_self, decide_true, Bool.not_true, Bool.false_eq_true, if_false, aget_int _ _ h.1 h', Option.bind_some, entry_May_eq, decide_eq_true_eq, rowner]
    rw [dif_pos ⟨trivial, h'⟩]
    by_cases h1 : r.Parts[p.toNat].Epoch = 0
    · simp [h1]
    · by_cases h2 : EntryOk r.Parts[p.toNat] <;> simp [h1, h2]
  · simp only [h, decide_false, Bool.not_false, if_true, rowner]
    rw [dif_neg (by omega)]
end Go.S

/- A part of the proof: P4 (for the law Vf). -/
import Derived.Test.YtofmaoickidjcaaVfP2
set_option linter.all false
namespace Go.S
open Go Go.Sx
/-! ## dots -/
def dlt (a b : Dot) : Prop := a.Node < b.Node ∨ (a.Node = b.Node ∧ a.N < b.N)
instance (a b : Dot) : Decidable (dlt a b) := by unfold dlt; infer_instance
def dcmp (a b : Dot) : Int := orI [icmp a.Node b.Node, icmp a.N b.N]
theorem dcmp_cases (a b : Dot) : (dlt a b ∧ dcmp a b = -1) ∨ (a = b ∧ dcmp a b = 0) ∨ (dlt b a ∧ dcmp a b = 1) := by
  obtain ⟨a1, a2⟩ := a
  obtain ⟨b1, b2⟩ := b
  simp only [dlt, dcmp, orI, icmp, Dot.mk.injEq]
  rcases Int.lt_trichotomy a1 b1 with h | rfl | h
  · left; simp [h]
  · rcases Int.lt_trichotomy a2 b2 with h | rfl | h
    · left; simp [h]
    · right; left; simp
    · right; right; simp [h, show ¬ a2 < b2 by omega]
  · right; right; simp [h, show ¬ a1 < b1 by omega]
theorem dlt_irr (a : Dot) : ¬ dlt a a := by simp [dlt]
theorem dlt_tr {a b c : Dot} (h : dlt a b) (h' : dlt b c) : dlt a c := by unfold dlt at *; omega
theorem dlt_asym {a b : Dot} (h : dlt a b) : ¬ dlt b a := fun h' => dlt_irr a (dlt_tr h h')
theorem dcmp_lt (a b : Dot) : dcmp a b < 0 ↔ dlt a b := by
  rcases dcmp_cases a b with ⟨h, e⟩ | ⟨rfl, e⟩ | ⟨h, e⟩ <;> rw [e]
  · simp [h]
  · simp [dlt_irr]
  · simp [dlt_asym h]
theorem dcmp_zero (a b : Dot) : dcmp a b = 0 ↔ a = b := by
  rcases dcmp_cases a b with ⟨h, e⟩ | ⟨rfl, e⟩ | ⟨h, e⟩ <;> rw [e]
  · simp; rintro rfl; exact dlt_irr _ h
  · simp
  · simp; rintro rfl; exact dlt_irr _ h
theorem dlt_or (a b : Dot) : dlt a b ∨ a = b ∨ dlt b a := by
  rcases dcmp_cases a b with ⟨h, _⟩ | ⟨h, _⟩ | ⟨h, _⟩ <;> simp [h]
theorem clock_Compare_eq (a b : Dot) : clock_Compare a b = some (dcmp a b) := by
  simp only [clock_Compare, cmpC_eq, Option.bind_some]
  rw [cmpOr_eq _ (by simp)]; rfl
/-! ## clocks -/
abbrev Clk := Vector Int 8
def cat (c : Clk) (i : Int) : Int := if h : 0 ≤ i ∧ i < 8 then c[i.toNat]'(by omega) else 0
def chas (c : Clk) (d : Dot) : Prop := (0 ≤ d.Node ∧ d.Node < 8) ∧ 1 ≤ d.N ∧ d.N ≤ cat c d.Node
instance (c : Clk) (d : Dot) : Decidable (chas c d) := by unfold chas; infer_instance
theorem clock_Has_eq (c : Clk) (d : Dot) : clock_Has c d = some (decide (chas c d)) := by
  simp only [clock_Has, clock_node_eq, Option.bind_some, decide_eq_true_eq]
  by_cases h : 0 ≤ d.Node ∧ d.Node < 8
  · rw [if_pos h]
    by_cases h1 : 1 ≤ d.N
    · rw [if_pos h1, aget_int _ _ h.1 (by omega), Option.bind_some]
      congr 1; apply decide_beq; simp [chas, h, h1, cat]
    · rw [if_neg h1]; congr 1; symm; rw [decide_eq_false_iff_not]; exact fun x => h1 x.2.1
  · rw [if_neg h]; congr 1; symm; rw [decide_eq_false_iff_not]; exact fun x => h x.1
def cjoin (a b : Clk) : Clk := Vector.ofFn fun i => max a[i] b[i]
theorem cat_cjoin (a b : Clk) (i : Int) (h : 0 ≤ i ∧ i < 8) : cat (cjoin a b) i = max (cat a i) (cat b i) := by
  simp [cat, h, cjoin]
theorem clock_Join_eq (a b : Clk) : clock_Join a b = some (cjoin a b) := by
  unfold clock_Join
  rw [loopN_eq (e0 := cjoin a b) (fun i st => st.2 = (i : Int) ∧ i ≤ 8 ∧ ∀ j (hj : j < 8), st.1[j] = if j < i then max a[j] b[j] else a[j]) 8 ⟨rfl, by omega, by simp⟩ (FUEL_big (by omega))]
  · rfl
  · rintro i ⟨c, _⟩ hi ⟨rfl, _, hc⟩
    left
    simp only [clock_Join_l3, decide_eq_true_eq]
    rw [if_pos (by omega), aget_nat _ _ hi, Option.bind_some, aget_nat _ _ hi, Option.bind_some, aset_nat _ _ _ hi, Option.bind_some]
    refine ⟨_, rfl, w64_nat i (by omega), by omega, fun j hj => ?_⟩
    show (c.set i (max c[i] b[i]) hi)[j] = _
    rw [Vector.getElem_set]
    have h1 := hc j hj
    have h2 := hc i hi
    simp only at h1 h2
    split
    · subst_vars; rw [h2]; simp
    · rw [h1]
      by_cases h3 : j < i
      · rw [if_pos h3, if_pos (by omega)]
      · rw [if_neg h3, if_neg (by omega)]
  · rintro ⟨c, _⟩ ⟨rfl, _, hc⟩
    simp only [clock_Join_l3, decide_eq_true_eq]
    rw [if_neg (by omega)]
    congr 2
    ext j hj
    have := hc j hj
    simp only at this
    rw [this]; simp [cjoin, hj]
def cwith (c : Clk) (d : Dot) : Clk := if h : 0 ≤ d.Node ∧ d.Node < 8 then c.set d.Node.toNat (max (c[d.Node.toNat]'(by omega)) d.N) (by omega) else c
theorem clock_With_eq (c : Clk) (d : Dot) : clock_With c d = some (cwith c d) := by
  simp only [clock_With, clock_node_eq, Option.bind_some, decide_eq_true_eq, cwith]
  by_cases h : 0 ≤ d.Node ∧ d.Node < 8
  · rw [if_pos h, dif_pos h, aget_int _ _ h.1 (by omega), Option.bind_some, aset_int _ _ _ h.1 (by omega)]; rfl
  · rw [if_neg h, dif_neg h]
theorem cat_cwith (c : Clk) (d : Dot) (i : Int) (h : 0 ≤ i ∧ i < 8) : cat (cwith c d) i = if i = d.Node then max (cat c i) d.N else cat c i := by
  unfold cwith
  by_cases hd : 0 ≤ d.Node ∧ d.Node < 8
  · rw [dif_pos hd]
    simp only [cat, dif_pos h, Vector.getElem_set]
    by_cases e : i = d.Node
    · subst e; simp
    · rw [if_neg (by omega), if_neg e]
  · rw [dif_neg hd, if_neg (by rintro rfl; exact hd h)]
def cok (c : Clk) : Prop := ∀ (i : Nat) (h : i < 8), 0 ≤ c[i] ∧ c[i] ≤ 1000000
instance (c : Clk) : Decidable (cok c) := by unfold cok; infer_instance
theorem cok_cat {c : Clk} (h : cok c) (i : Int) : 0 ≤ cat c i ∧ cat c i ≤ 1000000 := by
  unfold cat
  split
  · exact h _ _
  · omega
theorem cok_of {c : Clk} (h : ∀ i : Int, 0 ≤ i ∧ i < 8 → 0 ≤ cat c i ∧ cat c i ≤ 1000000) : cok c := fun i hi => by
  have := h (i : Int) (by omega)
  simpa [cat, hi, show (i : Int) < 8 by omega] using this
theorem clock_May_eq (c : Clk) : clock_May c = some (decide (cok c)) := by
  unfold clock_May
  rw [loop_find (f := clock_May_l3 c) (u := ()) c.toList (fun x _ => if 0 ≤ x ∧ x ≤ 1000000 then none else some false) (by simp)]
  · cases hf : ff (fun (x : Int) (_ : Nat) => if 0 ≤ x ∧ x ≤ 1000000 then none else some false) c.toList 0 with
    | some b =>
      obtain ⟨k, x, h1, h2, _⟩ := ff_some hf
      obtain ⟨hk, rfl⟩ := vmem c h1
      try simp only at h2
      split at h2
      · cases h2
      · rename_i hn
        cases h2
        simp only [andThen]
        congr 1; symm; rw [decide_eq_false_iff_not]
        exact fun h => hn (h k hk)
    | none =>
      have := ff_none.1 hf
      simp only [andThen, clock_May_j2]
      congr 1; symm; rw [decide_eq_true_iff]
      intro i hi
      have h1 := this i c[i] (vget c i hi)
      try simp only at h1
      split at h1
      · assumption
      · cases h1
  · intro i x hx
    obtain ⟨hi, rfl⟩ := vmem c hx
    simp only [clock_May_l3, decide_eq_true_eq]
    rw [if_pos (by omega), aget_nat _ _ hi, Option.bind_some]
    by_cases h1 : c[i] < 0
    · rw [if_pos h1, if_neg (by omega)]
    · rw [if_neg h1]
      by_cases h2 : 1000000 < c[i]
      · rw [if_pos h2, if_neg (by omega)]
      · rw [if_neg h2, if_pos (by omega)]
  · simp [clock_May_l3]
/-! ## bags -/
def vok (k : Clk) (v : Val) : Prop := chas k v.Dot ∧ v.Data.size ≤ 64
instance (k : Clk) (v : Val) : Decidable (vok k v) := by unfold vok; infer_instance
theorem bag_may_eq (v : Val) (k : Clk) : bag_may v k = some (decide (vok k v)) := by
  simp only [bag_may, clock_Has_eq, Option.bind_some, decide_eq_true_eq]
  by_cases h : chas k v.Dot
  · rw [if_pos h]; congr 1; apply decide_beq; simp only [vok, h, true_and]; omega
  · rw [if_neg h]; congr 1; symm; rw [decide_eq_false_iff_not]; exact fun x => h x.1
def vsort (l : List Val) : Prop := l.Pairwise (fun a b => dlt a.Dot b.Dot)
instance (l : List Val) : Decidable (vsort l) := by unfold vsort; infer_instance
theorem vsort_adj {l : List Val} : vsort l ↔ ∀ i a b, l[i]? = some a → l[i + 1]? = some b → dlt a.Dot b.Dot := by
  induction l with
  | nil => simp [vsort]
  | cons x r ih =>
    unfold vsort at ih ⊢
    rw [List.pairwise_cons, ih]
    constructor
    · rintro ⟨h1, h2⟩ i a b ha hb
      cases i with
      | zero => simp at ha; subst ha; exact h1 b (List.mem_of_getElem? (by simpa using hb))
      | succ i => exact h2 i a b (by simpa using ha) (by simpa using hb)
    · intro h
      have h2 : ∀ i a b, r[i]? = some a → r[i + 1]? = some b → dlt a.Dot b.Dot := fun i a b ha hb => h (i + 1) a b (by simpa using ha) (by simpa using hb)
      refine ⟨?_, h2⟩
      intro y hy
      cases r with
      | nil => cases hy
      | cons z r' =>
        have hz := h 0 x z (by simp) (by simp)
        rcases List.mem_cons.1 hy with rfl | hy
        · exact hz
        · have := (List.pairwise_cons.1 (ih.2 h2)).1 y hy
          exact dlt_tr hz this
def BagOk (b : Bag) : Prop := cok b.Known ∧ b.Values.length ≤ 32 ∧ (∀ v ∈ b.Values, vok b.Known v) ∧ vsort b.Values
instance (b : Bag) : Decidable (BagOk b) := by unfold BagOk; infer_instance
theorem bag_May_eq (b : Bag) (hl : b.Values.length ≤ 1000000000000) : bag_May b = some (decide (BagOk b)) := by
  classical
  unfold bag_May
  simp only [clock_May_eq, Option.bind_some]
  by_cases hc : cok b.Known
  · simp only [hc, decide_true, Bool.not_true, Bool.false_eq_true, if_false, Option.bind_some, bag_May_j1, decide_eq_true_eq]
    by_cases h32 : (32 : Int) < (b.Values.length : Int)
    · rw [if_pos h32]; congr 1; symm; rw [decide_eq_false_iff_not]; intro h; have := h.2.1; omega
    · rw [if_neg h32]
      rw [loop_find (f := bag_May_l4 b) (u := ()) b.Values (fun x i => if vok b.Known x ∧ (∀ a, 0 < i → b.Values[i - 1]? = some a → dlt a.Dot x.Dot) then none else some false) hl]
      · cases hf : ff (fun (x : Val) (i : Nat) => if vok b.Known x ∧ (∀ a, 0 < i → b.Values[i - 1]? = some a → dlt a.Dot x.Dot) then none else some false) b.Values 0 with
        | some r =>
          obtain ⟨k, x, h1, h2, _⟩ := ff_some hf
          rw [Nat.zero_add] at h2
          try simp only at h2
          split at h2
          · cases h2
          · rename_i hn
            cases h2
            simp only [andThen]
            congr 1; symm; rw [decide_eq_false_iff_not]
            rintro ⟨_, _, h3, h4⟩
            refine hn ⟨h3 x (List.mem_of_getElem? h1), fun a hk ha => ?_⟩
            exact vsort_adj.1 h4 (k - 1) a x ha (by rw [show k - 1 + 1 = k by omega]; exact h1)
        | none =>
          have := ff_none.1 hf
          simp only [andThen, bag_May_j3]
          congr 1; symm; rw [decide_eq_true_iff]
          have key : ∀ k x, b.Values[k]? = some x → vok b.Known x ∧ (∀ a, 0 < k → b.Values[k - 1]? = some a → dlt a.Dot x.Dot) := by
            intro k x hx
            have h1 := this k x hx
            rw [Nat.zero_add] at h1
            try simp only at h1
            split at h1
            · assumption
            · cases h1
          refine ⟨hc, by omega, fun v hv => ?_, vsort_adj.2 fun i a x ha hx => ?_⟩
          · obtain ⟨k, hk⟩ := List.getElem?_of_mem hv
            exact (key k v hk).1
          · exact (key (i + 1) x hx).2 a (by omega) ha
      · intro i x hx
        have hi := (List.getElem?_eq_some_iff.1 hx).1
        simp only [bag_May_l4, decide_eq_true_eq]
        rw [if_pos (by omega), lget_nat, hx, Option.bind_some, bag_may_eq, Option.bind_some]
        by_cases hv : vok b.Known x
        · simp only [hv, decide_true, Bool.not_true, Bool.false_eq_true, if_false, true_and]
          by_cases h0 : (0 : Int) < (i : Int)
          · rw [if_pos h0, w64_small (by omega), show ((i : Int) - 1) = ((i - 1 : Nat) : Int) by omega, lget_nat, List.getElem?_eq_getElem (by omega), Option.bind_some, clock_Compare_eq, Option.bind_some]
            by_cases hd : dlt (b.Values[i - 1]'(by omega)).Dot x.Dot
            · rw [if_neg (by have := (dcmp_lt _ _).2 hd; omega), if_pos (by intro a _ ha; rw [← Option.some.inj ha]; exact hd)]
            · rw [if_pos (by have := mt (dcmp_lt _ _).1 hd; omega), if_neg (by intro h; exact hd (h _ (by omega) rfl))]
          · rw [if_neg h0, if_pos (by intro a h; omega)]
        · simp [hv]
      · simp [bag_May_l4]
  · simp only [hc, decide_false, Bool.not_false, if_true, Option.bind_some, bag_May_j1]
    congr 1; symm; rw [decide_eq_false_iff_not]; exact fun h => hc h.1
/-- where a dot stands, or would stand -/
theorem bag_find_eq (l : List Val) (d : Dot) (hl : l.length ≤ 1000000000) (hs : vsort l) : ∃ p : Nat, p ≤ l.length ∧ bag_find l d = some ((p : Int), decide (∃ v ∈ l, v.Dot = d)) ∧ (∀ v ∈ l.take p, dlt v.Dot d) ∧ (∀ v ∈ l.drop p, ¬ dlt v.Dot d) := by
  have hsj : ∀ (i j : Nat) (a b : Val), i < j → l[i]? = some a → l[j]? = some b → dlt a.Dot b.Dot := by
    intro i j a b hij ha hb
    obtain ⟨hi, rfl⟩ := List.getElem?_eq_some_iff.1 ha
    obtain ⟨hj, rfl⟩ := List.getElem?_eq_some_iff.1 hb
    exact List.pairwise_iff_getElem.1 hs i j hi hj hij
  obtain ⟨e, he, p, rfl, hp, hlo, hhi⟩ := loopN_ind (f := slices_BinarySearchFunc_api_Value_api_Value_api_Dot_bag_find_1_l3 l d) (s0 := ((0 : Int), (l.length : Int)))
    (fun i st => ∃ lo hi : Nat, st = ((lo : Int), (hi : Int)) ∧ lo ≤ hi ∧ hi ≤ l.length ∧ hi - lo ≤ l.length - i ∧ (∀ j v, j < lo → l[j]? = some v → dlt v.Dot d) ∧ (∀ j v, hi ≤ j → l[j]? = some v → ¬ dlt v.Dot d))
    (fun e => ∃ p : Nat, e = (p : Int) ∧ p ≤ l.length ∧ (∀ j v, j < p → l[j]? = some v → dlt v.Dot d) ∧ (∀ j v, p ≤ j → l[j]? = some v → ¬ dlt v.Dot d)) l.length
    ⟨0, l.length, rfl, by omega, by omega, by omega, by omega, fun j v hj hv => by rw [List.getElem?_eq_none hj] at hv; cases hv⟩ (FUEL_big (by omega)) (by
      rintro i _ hi ⟨lo, hi', rfl, h1, h2, h3, h4, h5⟩
      simp only [slices_BinarySearchFunc_api_Value_api_Value_api_Dot_bag_find_1_l3, decide_eq_true_eq]
      by_cases hlt : (lo : Int) < (hi' : Int)
      · left
        rw [if_pos hlt]
        have hm : IntKind.i64.wrap (shrI .u64 (IntKind.u64.wrap (w64 ((lo : Int) + (hi' : Int)))) 1) = (((lo + hi') / 2 : Nat) : Int) := by
          rw [w64_small (by omega)]
          have hu : IntKind.u64.wrap ((lo : Int) + (hi' : Int)) = ((lo + hi' : Nat) : Int) := by
            have h : IntKind.u64.wrap ((lo : Int) + (hi' : Int)) = ((lo : Int) + (hi' : Int)) % 18446744073709551616 := by
              unfold IntKind.wrap; simp [IntKind.bits, IntKind.signed]
            rw [h]; omega
          have hsh : shrI .u64 (((lo + hi' : Nat) : Int)) 1 = (((lo + hi') / 2 : Nat) : Int) := by
            unfold shrI
            simp [IntKind.bits, Int.fdiv_eq_ediv]
          rw [hu, hsh, IntWalk.i64_in _ (by omega)]
        rw [hm]
        have hmid : (lo + hi') / 2 < l.length := by omega
        rw [lget_nat, List.getElem?_eq_getElem hmid, Option.bind_some]
        simp only [bag_find_1, clock_Compare_eq, Option.bind_some]
        by_cases hc : dcmp (l[(lo + hi') / 2]).Dot d < 0
        · rw [if_pos hc]
          refine ⟨_, rfl, (lo + hi') / 2 + 1, hi', ?_, by omega, h2, by omega, ?_, h5⟩
          · rw [w64_nat _ (by omega)]
          · intro j v hj hv
            have hd := (dcmp_lt _ _).1 hc
            by_cases hjm : j = (lo + hi') / 2
            · subst hjm; rw [List.getElem?_eq_getElem hmid] at hv; rw [← Option.some.inj hv]; exact hd
            · exact dlt_tr (hsj j _ v _ (by omega) hv (List.getElem?_eq_getElem hmid)) hd
        · rw [if_neg hc]
          refine ⟨_, rfl, lo, (lo + hi') / 2, rfl, by omega, by omega, by omega, h4, ?_⟩
          intro j v hj hv hd
          have hnd := mt (dcmp_lt _ _).2 hc
          by_cases hjm : j = (lo + hi') / 2
          · subst hjm; rw [List.getElem?_eq_getElem hmid] at hv; rw [← Option.some.inj hv] at hd; exact hnd hd
          · exact hnd (dlt_tr (hsj _ j _ v (by omega) (List.getElem?_eq_getElem hmid) hv) hd)
      · right
        rw [if_neg hlt]
        obtain rfl : lo = hi' := by omega
        exact ⟨_, rfl, lo, rfl, h2, h4, h5⟩) (by
      rintro _ ⟨lo, hi', rfl, h1, h2, h3, h4, h5⟩
      simp only [slices_BinarySearchFunc_api_Value_api_Value_api_Dot_bag_find_1_l3, decide_eq_true_eq]
      rw [if_neg (by omega)]
      obtain rfl : lo = hi' := by omega
      exact ⟨_, rfl, lo, rfl, h2, h4, h5⟩)
  refine ⟨p, hp, ?_, ?_, ?_⟩
  · simp only [bag_find, slices_BinarySearchFunc_api_Value_api_Value_api_Dot_bag_find_1, he, Option.bind_some, slices_BinarySearchFunc_api_Value_api_Value_api_Dot_bag_find_1_j2, decide_eq_true_eq]
    by_cases hpl : (p : Int) < (l.length : Int)
    · rw [if_pos hpl, lget_nat, List.getElem?_eq_getElem (by omega), Option.bind_some]
      simp only [bag_find_1, clock_Compare_eq, Option.bind_some, dcmp_zero]
      congr 2
      apply decide_beq
      constructor
      · intro h; exact ⟨_, List.getElem_mem (by omega), h⟩
      · rintro ⟨v, hv, rfl⟩
        obtain ⟨j, hj⟩ := List.getElem?_of_mem hv
        rcases Nat.lt_trichotomy j p with hjp | rfl | hjp
        · exact absurd (hlo j v hjp hj) (dlt_irr _)
        · rw [List.getElem?_eq_getElem (by omega)] at hj; rw [Option.some.inj hj]
        · exact absurd (hsj p j _ v hjp (List.getElem?_eq_getElem (by omega)) hj) (hhi p _ (Nat.le_refl _) (List.getElem?_eq_getElem (by omega)))
    · rw [if_neg hpl]
      simp only [Option.bind_some]
      congr 2
      symm; rw [decide_eq_false_iff_not]
      rintro ⟨v, hv, rfl⟩
      obtain ⟨j, hj⟩ := List.getElem?_of_mem hv
      exact dlt_irr _ (hlo j v (by have := (List.getElem?_eq_some_iff.1 hj).1; omega) hj)
  · intro v hv
    obtain ⟨j, hj⟩ := List.getElem?_of_mem hv
    rw [List.getElem?_take] at hj
    split at hj
    · rename_i h; exact hlo j v h hj
    · cases hj
  · intro v hv
    obtain ⟨j, hj⟩ := List.getElem?_of_mem hv
    rw [List.getElem?_drop] at hj
    exact hhi _ v (by omega) hj
end Go.S

/- A part of the proof: P5 (for the law Vf). -/
import Derived.Test.YtofmaoickidjcaaVfP4
set_option linter.all false
namespace Go.S
open Go Go.Sx
/-! ## a bag that is put to -/
def insV (l : List Val) (v : Val) : List Val := l.filter (fun w => decide (dlt w.Dot v.Dot)) ++ v :: l.filter (fun w => !decide (dlt w.Dot v.Dot))
theorem insV_of {l : List Val} {v : Val} {p : Nat} (h1 : ∀ w ∈ l.take p, dlt w.Dot v.Dot) (h2 : ∀ w ∈ l.drop p, ¬ dlt w.Dot v.Dot) : l.take p ++ v :: l.drop p = insV l v := by
  have e1 : l.filter (fun w => decide (dlt w.Dot v.Dot)) = l.take p := by
    conv => lhs; rw [← List.take_append_drop p l]
    rw [List.filter_append, List.filter_eq_self.2 (fun w hw => by simpa using h1 w hw), List.filter_eq_nil_iff.2 (fun w hw => by simpa using h2 w hw), List.append_nil]
  have e2 : l.filter (fun w => !decide (dlt w.Dot v.Dot)) = l.drop p := by
    conv => lhs; rw [← List.take_append_drop p l]
    rw [List.filter_append, List.filter_eq_nil_iff.2 (fun w hw => by simpa using h1 w hw), List.filter_eq_self.2 (fun w hw => by simpa using h2 w hw), List.nil_append]
  unfold insV; rw [e1, e2]
theorem insV_sort {l : List Val} {v : Val} (hs : vsort l) (hn : ∀ w ∈ l, w.Dot ≠ v.Dot) : vsort (insV l v) := by
  unfold vsort insV at *
  rw [List.pairwise_append]
  refine ⟨hs.filter _, ?_, ?_⟩
  · rw [List.pairwise_cons]
    refine ⟨fun w hw => ?_, hs.filter _⟩
    obtain ⟨h1, h2⟩ := List.mem_filter.1 hw
    have h2' : ¬ dlt w.Dot v.Dot := by simpa using h2
    rcases dlt_or w.Dot v.Dot with h | h | h
    · exact absurd h h2'
    · exact absurd h (hn w h1)
    · exact h
  · intro a ha b hb
    have h1 : dlt a.Dot v.Dot := by simpa using (List.mem_filter.1 ha).2
    rcases List.mem_cons.1 hb with rfl | hb
    · exact h1
    · obtain ⟨hbm, h2⟩ := List.mem_filter.1 hb
      have h2' : ¬ dlt b.Dot v.Dot := by simpa using h2
      rcases dlt_or b.Dot v.Dot with h | h | h
      · exact absurd h h2'
      · rw [h]; exact h1
      · exact dlt_tr h1 h
theorem insV_mem {l : List Val} {v w : Val} : w ∈ insV l v ↔ w = v ∨ w ∈ l := by
  unfold insV
  simp only [List.mem_append, List.mem_cons, List.mem_filter]
  by_cases h : dlt w.Dot v.Dot <;> simp [h]
  · exact or_comm
theorem insV_len (l : List Val) (v : Val) : (insV l v).length = l.length + 1 := by
  unfold insV
  have : ∀ l : List Val, (l.filter (fun w => decide (dlt w.Dot v.Dot))).length + (l.filter (fun w => !decide (dlt w.Dot v.Dot))).length = l.length := by
    intro l
    induction l with
    | nil => rfl
    | cons x r ih => by_cases h : dlt x.Dot v.Dot <;> simp [h] <;> omega
  have := this l
  simp; omega
def dok (d : Dot) : Prop := (0 ≤ d.Node ∧ d.Node < 8) ∧ 1 ≤ d.N ∧ d.N ≤ 1000000
instance (d : Dot) : Decidable (dok d) := by unfold dok; infer_instance
def newer (l : List Val) (k : Clk) : List Val := l.filter (fun v => !decide (chas k v.Dot))
def bput (b : Bag) (known : Clk) (d : Dot) (data : ByteArray) : Bag := ⟨cwith (cjoin b.Known known) d, insV (newer b.Values known) ⟨d, data⟩⟩
def putMay (b : Bag) (known : Clk) (d : Dot) (data : ByteArray) : Prop := cok known ∧ dok d ∧ ¬ chas b.Known d ∧ data.size ≤ 64
instance (b : Bag) (known : Clk) (d : Dot) (data : ByteArray) : Decidable (putMay b known d data) := by unfold putMay; infer_instance
theorem filter_take {α : Type} (p : α → Bool) (l : List α) (i : Nat) (h : i < l.length) : (l.take (i + 1)).filter p = (l.take i).filter p ++ (if p l[i] = true then [l[i]] else []) := by
  rw [List.take_succ_eq_append_getElem h, List.filter_append]
  congr 1
  by_cases hp : p l[i] = true <;> simp [hp]
theorem newer_len (l : List Val) (k : Clk) : (newer l k).length ≤ l.length := List.length_filter_le _ _
theorem Put_loop (b : Bag) (known : Clk) (B : Bag) (hl : b.Values.length ≤ 1000000) : loopN (bag_Put_l7 b known) FUEL ({ B with Values := [] }, [], 0) = some ({ B with Values := newer b.Values known }, newer b.Values known) := by
  refine loopN_eq (fun i st => st = ({ B with Values := (b.Values.take i).filter (fun v => !decide (chas known v.Dot)) }, (b.Values.take i).filter (fun v => !decide (chas known v.Dot)), (i : Int)) ∧ i ≤ b.Values.length) b.Values.length ⟨by simp, by omega⟩ (FUEL_big (by omega)) ?_ ?_
  · rintro i _ hi ⟨rfl, _⟩
    left
    simp only [bag_Put_l7, decide_eq_true_eq]
    rw [if_pos (by omega), lget_nat, List.getElem?_eq_getElem hi, Option.bind_some, clock_Has_eq, Option.bind_some, filter_take _ _ _ hi]
    by_cases h : chas known (b.Values[i]).Dot
    · refine ⟨_, ?_, rfl, by omega⟩
      simp [h, w64_nat i (by omega)]
    · refine ⟨_, ?_, rfl, by omega⟩
      have hle : ((b.Values.take i).filter (fun v => !decide (chas known v.Dot))).length ≤ 1000000 := Nat.le_trans (List.length_filter_le _ _) (by rw [List.length_take]; omega)
      simp [h, w64_nat i (by omega)]
      rw [appG_ok (by omega)]; rfl
  · rintro _ ⟨rfl, _⟩
    simp only [bag_Put_l7, decide_eq_true_eq]
    rw [if_neg (by omega), List.take_length]; rfl
theorem bag_Put_eq (b : Bag) (known : Clk) (d : Dot) (data : ByteArray) (hb : BagOk b) :
    bag_Put b known d data = some (if putMay b known d data then (if 32 < (newer b.Values known).length + 1 then (Bag.z, 5) else (bput b known d data, 0)) else (Bag.z, 1)) := by
  have h32 := hb.2.1
  have hn := newer_len b.Values known
  have hsn : vsort (newer b.Values known) := List.Pairwise.filter _ hb.2.2.2
  have h1 : bag_Put b known d data = bag_Put_j1 b known d data (decide (dok d)) := by
    simp only [bag_Put, decide_eq_true_eq, dok]
    by_cases h1 : 0 ≤ d.Node
    · rw [if_pos h1]
      by_cases h2 : d.Node < 8
      · rw [if_pos h2]
        by_cases h3 : 1 ≤ d.N
        · rw [if_pos h3]; simp [h1, h2, h3]
        · rw [if_neg h3]; simp [h3]
      · rw [if_neg h2]; simp [h2]
    · rw [if_neg h1]; simp [h1]
  have h2 : bag_Put_j1 b known d data (decide (dok d)) = bag_Put_j2 b known d data (!decide (putMay b known d data)) := by
    simp only [bag_Put_j1, bag_May_eq b (by omega), hb, decide_true, Option.bind_some, Bool.not_true, Bool.false_eq_true, if_false, clock_May_eq, clock_Has_eq, putMay]
    by_cases h1 : cok known
    · by_cases h2 : dok d
      · by_cases h3 : chas b.Known d
        · simp [h1, h2, h3]
        · simp only [h1, h2, h3, decide_true, decide_false, Bool.not_true, Bool.false_eq_true, if_false, Option.bind_some, not_false_eq_true, true_and]
          congr 1
          by_cases h4 : data.size ≤ 64
          · simp [h4]; omega
          · simp [h4]; omega
      · simp [h1, h2]
    · simp [h1]
  rw [h1, h2]
  by_cases hm : putMay b known d data
  · simp only [hm, decide_true, Bool.not_true, if_true, bag_Put_j2, Bool.false_eq_true, if_false, clock_Join_eq, clock_With_eq, Option.bind_some, bag_Put_j3]
    have hloop := Put_loop b known (⟨cwith (cjoin b.Known known) d, []⟩ : Bag) (by omega)
    rw [show ({ Bag.z with Known := cwith (cjoin b.Known known) d } : Bag) = (⟨cwith (cjoin b.Known known) d, []⟩ : Bag) from rfl, hloop, Option.bind_some]
    obtain ⟨p, hp, hf, hlo, hhi⟩ := bag_find_eq (newer b.Values known) d (by omega) hsn
    have hins : insG (newer b.Values known) (p : Int) ⟨d, data⟩ = some (insV (newer b.Values known) ⟨d, data⟩) := by
      rw [insG_ok (by omega)]
      congr 1
      exact insV_of hlo hhi
    simp only [bag_Put_j6, hf, Option.bind_some, hins, decide_eq_true_eq, insV_len]
    by_cases h33 : 32 < (newer b.Values known).length + 1
    · rw [if_pos (by omega), if_pos h33]
    · rw [if_neg (by omega), if_neg h33]; rfl
  · simp only [hm, decide_false, Bool.not_false, if_false, bag_Put_j2, if_true]
theorem chas_mono {k k' : Clk} {d : Dot} (h : chas k d) (hk : ∀ i, 0 ≤ i ∧ i < 8 → cat k i ≤ cat k' i) : chas k' d := ⟨h.1, h.2.1, Int.le_trans h.2.2 (hk _ h.1)⟩
theorem bput_ok {b : Bag} {known : Clk} {d : Dot} {data : ByteArray} (hb : BagOk b) (hm : putMay b known d data) (hl : ¬ 32 < (newer b.Values known).length + 1) : BagOk (bput b known d data) := by
  obtain ⟨h1, h2, h3, h4⟩ := hm
  have hmono : ∀ i, 0 ≤ i ∧ i < 8 → cat b.Known i ≤ cat (cwith (cjoin b.Known known) d) i := by
    intro i hi
    rw [cat_cwith _ _ _ hi, cat_cjoin _ _ _ hi]
    split <;> omega
  refine ⟨cok_of fun i hi => ?_, ?_, fun v hv => ?_, ?_⟩
  · show 0 ≤ cat (cwith (cjoin b.Known known) d) i ∧ cat (cwith (cjoin b.Known known) d) i ≤ 1000000
    rw [cat_cwith _ _ _ hi, cat_cjoin _ _ _ hi]
    have k1 := cok_cat hb.1 i
    have k2 := cok_cat h1 i
    have k3 := h2.2
    split <;> omega
  · show (insV _ _).length ≤ 32
    rw [insV_len]; omega
  · show vok (cwith (cjoin b.Known known) d) v
    rcases insV_mem.1 hv with rfl | hv
    · refine ⟨⟨h2.1, h2.2.1, ?_⟩, h4⟩
      show d.N ≤ cat (cwith (cjoin b.Known known) d) d.Node
      rw [cat_cwith _ _ _ h2.1, if_pos rfl]; omega
    · obtain ⟨k1, k2⟩ := hb.2.2.1 v (List.mem_filter.1 hv).1
      exact ⟨chas_mono k1 hmono, k2⟩
  · refine insV_sort (List.Pairwise.filter _ hb.2.2.2) fun w hw => ?_
    rintro rfl
    exact h3 (hb.2.2.1 w (List.mem_filter.1 hw).1).1
theorem BagOk_z : BagOk Bag.z := by
  refine ⟨?_, by simp [Bag.z], by simp [Bag.z], by simp [Bag.z, vsort]⟩
  intro i hi; simp [Bag.z]
end Go.S

/- A part of the proof: P9 (for the law Vf). -/
import Derived.Test.YtofmaoickidjcaaVfP7
set_option linter.all false
namespace Go.S
open Go Go.Sx
/-! ## bags that are joined -/
def vin (l : List Val) (d : Dot) : Bool := l.any (fun w => decide (w.Dot = d))
theorem vin_iff {l : List Val} {d : Dot} : vin l d = true ↔ ∃ w ∈ l, w.Dot = d := by simp [vin]
theorem vin_dec (l : List Val) (d : Dot) (i : Decidable (∃ v ∈ l, v.Dot = d)) : @decide (∃ v ∈ l, v.Dot = d) i = vin l d := by
  rw [Bool.eq_iff_iff, decide_eq_true_eq, vin_iff]
def bstay (a b : Bag) : List Val := a.Values.filter (fun v => vin b.Values v.Dot || !decide (chas b.Known v.Dot))
theorem find_eq (l : List Val) (d : Dot) (hl : l.length ≤ 1000000000) (hs : vsort l) : ∃ p : Nat, p ≤ l.length ∧ bag_find l d = some ((p : Int), vin l d) ∧ (∀ v ∈ l.take p, dlt v.Dot d) ∧ (∀ v ∈ l.drop p, ¬ dlt v.Dot d) := by
  obtain ⟨p, h1, h2, h3⟩ := bag_find_eq l d hl hs
  exact ⟨p, h1, by rw [h2, vin_dec], h3⟩
theorem stays_eq (a b : Bag) (ha : a.Values.length ≤ 1000000) (hb : BagOk b) : bag_stays a b = some (bstay a b) := by
  have hbl := hb.2.1
  have hloop : loopN (bag_stays_l4 a b) FUEL ([], 0) = some (bstay a b) := by
    refine loopN_eq (fun i st => st = ((a.Values.take i).filter (fun v => vin b.Values v.Dot || !decide (chas b.Known v.Dot)), (i : Int)) ∧ i ≤ a.Values.length) a.Values.length ⟨by simp, by omega⟩ (FUEL_big (by omega)) ?_ ?_
    · rintro i _ hi ⟨rfl, _⟩
      left
      have hle : ((a.Values.take i).filter (fun v => vin b.Values v.Dot || !decide (chas b.Known v.Dot))).length ≤ 1000000 := Nat.le_trans (List.length_filter_le _ _) (by rw [List.length_take]; omega)
      simp only [bag_stays_l4, decide_eq_true_eq]
      rw [if_pos (by omega), lget_nat, List.getElem?_eq_getElem hi, Option.bind_some, filter_take _ _ _ hi]
      obtain ⟨p, _, hf, _⟩ := find_eq b.Values (a.Values[i]).Dot (by omega) hb.2.2.2
      rw [hf, Option.bind_some]
      simp only
      by_cases h : vin b.Values (a.Values[i]).Dot = true
      · rw [if_pos h, appG_ok (by omega)]
        refine ⟨_, rfl, ?_, by omega⟩
        simp [h, w64_nat i (by omega)]
      · rw [if_neg h, clock_Has_eq, Option.bind_some]
        have h' : vin b.Values (a.Values[i]).Dot = false := by simpa using h
        by_cases hc : chas b.Known (a.Values[i]).Dot
        · refine ⟨_, by simp [hc]; rfl, ?_, by omega⟩
          simp [h', hc, w64_nat i (by omega)]
        · refine ⟨_, by simp [hc]; rw [appG_ok (by omega)]; rfl, ?_, by omega⟩
          simp [h', hc, w64_nat i (by omega)]
    · rintro _ ⟨rfl, _⟩
      simp only [bag_stays_l4, decide_eq_true_eq]
      rw [if_neg (by omega), List.take_length]; rfl
  simp only [bag_stays, hloop, Option.bind_some, bag_stays_j3]
def jstep (acc : List Val) (v : Val) : List Val := if vin acc v.Dot then acc else insV acc v
theorem jstep_sort {acc : List Val} (h : vsort acc) (v : Val) : vsort (jstep acc v) := by
  unfold jstep; split
  · exact h
  · rename_i hn
    refine insV_sort h fun w hw e => hn ?_
    exact vin_iff.2 ⟨w, hw, e⟩
theorem jstep_len (acc : List Val) (v : Val) : (jstep acc v).length ≤ acc.length + 1 := by
  unfold jstep; split
  · omega
  · rw [insV_len]; omega
theorem jfold_len : ∀ (l acc : List Val), (l.foldl jstep acc).length ≤ acc.length + l.length := by
  intro l
  induction l with
  | nil => intro acc; simp
  | cons v r ih => intro acc; have := ih (jstep acc v); have := jstep_len acc v; simp; omega
theorem jfold_sort : ∀ (l : List Val) {acc : List Val}, vsort acc → vsort (l.foldl jstep acc) := by
  intro l
  induction l with
  | nil => intro acc h; exact h
  | cons v r ih => intro acc h; exact ih (jstep_sort h v)
theorem jfold_mem : ∀ (l : List Val) {acc : List Val} {w : Val}, w ∈ l.foldl jstep acc → w ∈ acc ∨ w ∈ l := by
  intro l
  induction l with
  | nil => intro acc w h; exact .inl h
  | cons v r ih =>
    intro acc w h
    rcases ih h with h | h
    · unfold jstep at h
      split at h
      · exact .inl h
      · rcases insV_mem.1 h with rfl | h
        · exact .inr List.mem_cons_self
        · exact .inl h
    · exact .inr (List.mem_cons_of_mem _ h)
def bjoin (a b : Bag) : Bag := ⟨cjoin a.Known b.Known, (bstay b a).foldl jstep (bstay a b)⟩
theorem bstay_sort {a : Bag} (h : BagOk a) (b : Bag) : vsort (bstay a b) := List.Pairwise.filter _ h.2.2.2
theorem bstay_len (a b : Bag) : (bstay a b).length ≤ a.Values.length := List.length_filter_le _ _
theorem Join_eq (a b : Bag) (hal : a.Values.length ≤ 1000000) (hbl : b.Values.length ≤ 1000000) : bag_Join a b = some (if BagOk a ∧ BagOk b then (if 32 < (bjoin a b).Values.length then (Bag.z, 5) else (bjoin a b, 0)) else (Bag.z, 1)) := by
  have h1 : bag_Join a b = bag_Join_j1 a b (!decide (BagOk a ∧ BagOk b)) := by
    simp only [bag_Join, bag_May_eq a (by omega), bag_May_eq b (by omega), Option.bind_some]
    by_cases h1 : BagOk a <;> by_cases h2 : BagOk b <;> simp [h1, h2]
  rw [h1]
  by_cases h : BagOk a ∧ BagOk b
  · rw [if_pos h]
    obtain ⟨ha, hb⟩ := h
    have hs1 := bstay_len a b
    have hs2 := bstay_len b a
    have ha32 := ha.2.1
    have hb32 := hb.2.1
    simp only [ha, hb, and_self, decide_true, Bool.not_true, bag_Join_j1, Bool.false_eq_true, if_false, clock_Join_eq, Option.bind_some, stays_eq a b hal hb, bag_Join_j2, stays_eq b a hbl ha]
    have hloop : loopN (bag_Join_l5 (bstay b a)) FUEL (bstay a b, ⟨cjoin a.Known b.Known, bstay a b⟩, 0) = some ((bjoin a b).Values, bjoin a b) := by
      refine loopN_eq (fun i st => st = (((bstay b a).take i).foldl jstep (bstay a b), ⟨cjoin a.Known b.Known, ((bstay b a).take i).foldl jstep (bstay a b)⟩, (i : Int)) ∧ i ≤ (bstay b a).length) (bstay b a).length ⟨by simp, by omega⟩ (FUEL_big (by omega)) ?_ ?_
      · rintro i _ hi ⟨rfl, _⟩
        left
        have hso := jfold_sort ((bstay b a).take i) (bstay_sort ha b)
        have hle := jfold_len ((bstay b a).take i) (bstay a b)
        rw [List.length_take] at hle
        simp only [bag_Join_l5, decide_eq_true_eq]
        rw [if_pos (by omega), lget_nat, List.getElem?_eq_getElem hi, Option.bind_some, List.take_succ_eq_append_getElem hi, List.foldl_append, List.foldl_cons, List.foldl_nil]
        obtain ⟨p, hp, hf, hlo, hhi⟩ := find_eq (((bstay b a).take i).foldl jstep (bstay a b)) ((bstay b a)[i]).Dot (by omega) hso
        rw [hf, Option.bind_some]
        by_cases hv : vin (((bstay b a).take i).foldl jstep (bstay a b)) ((bstay b a)[i]).Dot = true
        · refine ⟨_, by simp [hv]; rfl, ?_, by omega⟩
          simp [jstep, hv, w64_nat i (by omega)]
        · have hv' : vin (((bstay b a).take i).foldl jstep (bstay a b)) ((bstay b a)[i]).Dot = false := by simpa using hv
          refine ⟨_, by simp only [hv', Bool.not_false, if_true]; rw [insG_ok (by omega), Option.bind_some, show ((p : Int)).toNat = p by omega, insV_of hlo hhi], ?_, by omega⟩
          simp [jstep, hv', w64_nat i (by omega)]
      · rintro _ ⟨rfl, _⟩
        simp only [bag_Join_l5, decide_eq_true_eq]
        rw [if_neg (by omega), List.take_length]; rfl
    rw [show ({ Known := cjoin a.Known b.Known, Values := bstay a b } : Bag) = ⟨cjoin a.Known b.Known, bstay a b⟩ from rfl, hloop, Option.bind_some]
    simp only [bag_Join_j4, decide_eq_true_eq]
    by_cases h33 : 32 < (bjoin a b).Values.length
    · rw [if_pos (by omega), if_pos h33]
    · rw [if_neg (by omega), if_neg h33]
  · rw [if_neg h]; simp only [h, decide_false, Bool.not_false, bag_Join_j1, if_true]
theorem bjoin_ok {a b : Bag} (ha : BagOk a) (hb : BagOk b) (hl : ¬ 32 < (bjoin a b).Values.length) : BagOk (bjoin a b) := by
  refine ⟨cok_of fun i hi => ?_, by omega, fun v hv => ?_, jfold_sort _ (bstay_sort ha b)⟩
  · show 0 ≤ cat (cjoin a.Known b.Known) i ∧ cat (cjoin a.Known b.Known) i ≤ 1000000
    rw [cat_cjoin _ _ _ hi]
    have := cok_cat ha.1 i
    have := cok_cat hb.1 i
    omega
  · show vok (cjoin a.Known b.Known) v
    rcases jfold_mem _ hv with h | h
    · obtain ⟨k1, k2⟩ := ha.2.2.1 v (List.mem_filter.1 h).1
      exact ⟨chas_mono k1 (fun i hi => by rw [cat_cjoin _ _ _ hi]; omega), k2⟩
    · obtain ⟨k1, k2⟩ := hb.2.2.1 v (List.mem_filter.1 h).1
      exact ⟨chas_mono k1 (fun i hi => by rw [cat_cjoin _ _ _ hi]; omega), k2⟩
def bbelow (a b : Bag) : Prop := BagOk a ∧ BagOk b ∧ ¬ 32 < (bjoin a b).Values.length ∧ bjoin a b = b
instance (a b : Bag) : Decidable (bbelow a b) := by unfold bbelow; infer_instance
theorem Below_eq (a b : Bag) (hal : a.Values.length ≤ 1000000) (hbl : b.Values.length ≤ 1000000) : bag_Below a b = some (decide (bbelow a b)) := by
  simp only [bag_Below, Join_eq a b hal hbl, Option.bind_some, decide_eq_true_eq]
  by_cases h : BagOk a ∧ BagOk b
  · rw [if_pos h]
    by_cases h33 : 32 < (bjoin a b).Values.length
    · rw [if_pos h33]; simp [bbelow, h33]
    · rw [if_neg h33]
      simp only [if_true]
      rw [bag_Same_eq _ _ (by omega)]
      simp [bbelow, h, h33]
  · rw [if_neg h]
    simp only [show ¬ ((1 : Int) = 0) by decide, if_false]
    congr 1; symm; rw [decide_eq_false_iff_not]
    exact fun hb => h ⟨hb.1, hb.2.1⟩
/-! ## Merge -/
def vmerge (v : vault_Vault) (key : ByteArray) (b : Bag) : Int × vault_Vault :=
  if ¬ (KeyOk key ∧ BagOk b) then (1, v) else
  if mget v.bags key = none ∧ 200 ≤ v.bags.length then (5, v) else
  if 32 < (bjoin ((mget v.bags key).getD Bag.z) b).Values.length then (5, v) else
  if bbelow b ((mget v.bags key).getD Bag.z) then (0, v) else
  if lfull v then (5, v) else
  (0, { v with l := lput v { Deed.z with Kind := 3, N := v.dots, Key := key, Bag := bjoin ((mget v.bags key).getD Bag.z) b }, bags := mput v.bags key (bjoin ((mget v.bags key).getD Bag.z) b) })
theorem Merge_eq {v : vault_Vault} (h : VOk v) (key : ByteArray) (b : Bag) (hl : b.Values.length ≤ 1000000) : vault_Vault_Merge v key b = some (vmerge v key b) := by
  have h1 : vault_Vault_Merge v key b = vault_Vault_Merge_j2 v key b (!decide (KeyOk key ∧ BagOk b)) := by
    simp only [vault_Vault_Merge, spot_May_eq, Option.bind_some, bag_May_eq b (by omega)]
    by_cases c1 : KeyOk key <;> by_cases c2 : BagOk b <;> simp [c1, c2]
  rw [h1]
  unfold vmerge
  by_cases c1 : KeyOk key ∧ BagOk b
  · rw [if_neg (not_not_intro c1)]
    simp only [c1, and_self, decide_true, Bool.not_true, vault_Vault_Merge_j2, Bool.false_eq_true, if_false, full_eq, Option.bind_some]
    by_cases c3 : mget v.bags key = none ∧ 200 ≤ v.bags.length
    · rw [if_pos c3]; simp only [c3, and_self, decide_true, if_true]
    · rw [if_neg c3]
      have hb := h.few key
      have hb32 := hb.2.1
      have hd := h.dots
      simp only [c3, decide_false, Bool.false_eq_true, if_false]
      rw [Join_eq _ _ (by omega) hl, if_pos ⟨hb, c1.2⟩]
      by_cases c5 : 32 < (bjoin ((mget v.bags key).getD Bag.z) b).Values.length
      · rw [if_pos c5, if_pos c5]; simp [vault_Vault_Merge_j3]
      · rw [if_neg c5, if_neg c5]
        simp only [Option.bind_some, ne_eq, not_true_eq_false, decide_false, Bool.false_eq_true, if_false]
        rw [Below_eq _ _ hl (by omega)]
        by_cases c7 : bbelow b ((mget v.bags key).getD Bag.z)
        · rw [if_pos c7]; simp [vault_Vault_Merge_j3, c7]
        · rw [if_neg c7]
          have hok := bjoin_ok hb c1.2 c5
          have hm : bag_May (bjoin ((mget v.bags key).getD Bag.z) b) = some true := by rw [bag_May_eq _ (by omega)]; simp [hok]
          have hr := h.room
          have hln := h.len
          simp only [Option.bind_some, c7, decide_false, vault_Vault_Merge_j3, Bool.false_eq_true, if_false]
          by_cases c6 : lfull v
          · rw [if_pos c6]
            simp only [vault_Vault_write]
            rw [Write_no v.l _ (May_bag _ _ _ c1.1 (by omega) hm (by omega)) c6 hr.2]
            simp
          · rw [if_neg c6]
            unfold lfull at c6
            rw [write_bag v v.dots key _ c1.1 (by omega) hm (by omega) (by omega)]
            simp only [Option.bind_some]
            rw [show max v.dots v.dots = v.dots by omega]; rfl
  · rw [if_pos c1]; simp only [c1, decide_false, Bool.not_false, vault_Vault_Merge_j2, if_true]
theorem vmerge_ok {v : vault_Vault} (h : VOk v) (key : ByteArray) (b : Bag) : VOk (vmerge v key b).2 := by
  unfold vmerge
  split
  · exact h
  rename_i c1
  split
  · exact h
  split
  · exact h
  rename_i c5
  split
  · exact h
  split
  · exact h
  rename_i c6
  have c1' := Classical.not_not.1 c1
  have hok := bjoin_ok (h.few key) c1'.2 c5
  refine ⟨mput_nod h.nod _ _, fun q hq => ?_, fun q hq => ?_, h.dots, h.room, ?_⟩
  · rcases (mput_mem h.nod).1 hq with rfl | ⟨hq, _⟩
    · exact c1'.1
    · exact h.keys q hq
  · rcases (mput_mem h.nod).1 hq with rfl | ⟨hq, _⟩
    · exact hok
    · exact h.bags q hq
  · have := h.len
    unfold lfull at c6
    show ((v.l.l ++ [_]).length : Int) ≤ v.l.room_
    simp; omega
end Go.S

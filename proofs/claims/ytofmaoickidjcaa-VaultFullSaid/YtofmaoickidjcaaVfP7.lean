/- A part of the proof: P7 (for the law Vf). -/
import Derived.Test.YtofmaoickidjcaaVfP6
set_option linter.all false
namespace Go.S
open Go Go.Sx
/-! ## the vault's keys -/
def pkeys (m : List (ByteArray × Bag)) (p : Int) : List ByteArray := sortL ((m.map (·.1)).filter (fun k => decide (spotO k = p)))
theorem foldl_keys (p : Int) : ∀ (π acc : List ByteArray), π.foldl (fun s k => if spotO k = p then s ++ [k] else s) acc = acc ++ π.filter (fun k => decide (spotO k = p)) := by
  intro π
  induction π with
  | nil => intro acc; simp
  | cons k r ih =>
    intro acc
    simp only [List.foldl_cons, ih]
    by_cases h : spotO k = p <;> simp [h]
theorem foldR_keys (p : Int) : ∀ (π acc : List ByteArray), acc.length + π.length ≤ 100000 → foldR (vault_Vault_Keys_l1 p) π acc = some (.inl (acc ++ π.filter (fun k => decide (spotO k = p)))) := by
  intro π
  induction π with
  | nil => intro acc _; simp [foldR]
  | cons k r ih =>
    intro acc hl
    simp only [List.length_cons] at hl
    simp only [foldR, vault_Vault_Keys_l1, spot_Of_some, Option.bind_some, decide_eq_true_eq]
    by_cases h : spotO k = p
    · rw [if_pos h, appG_ok (by omega), Option.bind_some]
      simp only
      rw [ih _ (by simp; omega)]; simp [h]
    · rw [if_neg h]
      simp only
      rw [ih _ (by omega)]; simp [h]
theorem Keys_eq (v : vault_Vault) (p : Int) (hl : v.bags.length ≤ 100000) : vault_Vault_Keys v p = some (if p < 0 then [] else pkeys v.bags p) := by
  unfold vault_Vault_Keys
  simp only [decide_eq_true_eq]
  by_cases h : p < 0
  · rw [if_pos h, if_pos h]
  · rw [if_neg h, if_neg h]
    refine ordFree_eq fun π hπ => ?_
    have hlen : π.length ≤ 100000 := by rw [hπ.length_eq]; simpa using hl
    rw [foldR_keys p π [] (by simpa using hlen)]
    simp only [andThen_inl, vault_Vault_Keys_x1, List.nil_append]
    have hf := List.length_filter_le (fun k => decide (spotO k = p)) π
    rw [show sortG (π.filter (fun k => decide (spotO k = p))) = some (sortL (π.filter (fun k => decide (spotO k = p)))) from if_pos (by omega), Option.bind_some]
    congr 1
    exact sortL_congr (hπ.filter _)
theorem pkeys_mem {m : List (ByteArray × Bag)} {p : Int} {k : ByteArray} : k ∈ pkeys m p ↔ k ∈ m.map (·.1) ∧ spotO k = p := by
  unfold pkeys
  rw [(sortL_perm _).mem_iff, List.mem_filter]; simp
theorem pkeys_nod {m : List (ByteArray × Bag)} (hn : mnod m) (p : Int) : (pkeys m p).Nodup := by
  unfold pkeys
  rw [(sortL_perm _).nodup_iff]
  exact List.Nodup.sublist List.filter_sublist hn
theorem pkeys_len {m : List (ByteArray × Bag)} {p : Int} : (pkeys m p).length = (m.filter (fun q => decide (spotO q.1 = p))).length := by
  unfold pkeys
  rw [(sortL_perm _).length_eq, List.filter_map, List.length_map]; rfl
theorem pkeys_rise {m : List (ByteArray × Bag)} (hn : mnod m) (p : Int) : (pkeys m p).Pairwise (fun a b => bb a < bb b) := by
  have h1 : (pkeys m p).Pairwise (fun a b => bb a ≤ bb b) := sortL_sorted _
  have h2 : (pkeys m p).Pairwise (fun a b => a ≠ b) := pkeys_nod hn p
  refine (h1.and h2).imp ?_
  rintro a b ⟨h, hne⟩
  apply List.not_le.1
  intro h'
  exact hne (bb_inj (List.le_antisymm h h'))
/-! ## a part's keys go -/
theorem counts1_eq (k : ByteArray) (b : Bag) (d : Deed) : vault_Vault_counts_1 k b d = some (decide (spotO k = d.Part)) := by simp [vault_Vault_counts_1, spot_Of_some]
theorem foldR_del (d : Deed) : ∀ (π : List ByteArray) (m : List (ByteArray × Bag)), mnod m → foldR (maps_DeleteFunc_map_string_api_Bag_string_api_Bag_vault_Vault_counts_1_l1 d) π m = some (.inl (m.filter (fun q => !(π.any (fun k => decide (q.1 = k)) && decide (spotO q.1 = d.Part))))) := by
  intro π
  induction π with
  | nil => intro m _; simp only [foldR, List.any_nil, Bool.false_and, Bool.not_false]; rw [List.filter_eq_self.2 (fun _ _ => rfl)]
  | cons k r ih =>
    intro m hn
    simp only [foldR, maps_DeleteFunc_map_string_api_Bag_string_api_Bag_vault_Vault_counts_1_l1, counts1_eq, Option.bind_some, decide_eq_true_eq]
    by_cases h : spotO k = d.Part
    · rw [if_pos h]
      simp only
      rw [ih _ (by rw [mdel_eq hn]; exact mfilter_nod hn _), mdel_eq hn, List.filter_filter]
      congr 2
      apply List.filter_congr
      intro q _
      by_cases hk : q.1 = k
      · simp [hk, h]
      · simp [hk]
    · rw [if_neg h]
      simp only
      rw [ih _ hn]
      congr 2
      apply List.filter_congr
      intro q _
      by_cases hk : q.1 = k
      · simp [hk, h]
      · simp [hk]
def mdrop (m : List (ByteArray × Bag)) (p : Int) : List (ByteArray × Bag) := m.filter (fun q => !decide (spotO q.1 = p))
theorem DeleteFunc_eq (m : List (ByteArray × Bag)) (d : Deed) (hn : mnod m) : maps_DeleteFunc_map_string_api_Bag_string_api_Bag_vault_Vault_counts_1 m d = some (mdrop m d.Part) := by
  unfold maps_DeleteFunc_map_string_api_Bag_string_api_Bag_vault_Vault_counts_1
  refine ordFree_eq fun π hπ => ?_
  rw [foldR_del d π m hn]
  simp only [andThen_inl, maps_DeleteFunc_map_string_api_Bag_string_api_Bag_vault_Vault_counts_1_x1]
  congr 1
  apply List.filter_congr
  intro q hq
  have : π.any (fun k => decide (q.1 = k)) = true := List.any_eq_true.2 ⟨q.1, (hπ.mem_iff).2 (List.mem_map.2 ⟨q, hq, rfl⟩), by simp⟩
  simp [this]
/-! ## what a vault is -/
structure VOk (v : vault_Vault) : Prop where
  nod : mnod v.bags
  keys : ∀ q ∈ v.bags, KeyOk q.1
  bags : ∀ q ∈ v.bags, BagOk q.2
  dots : 0 ≤ v.dots ∧ v.dots ≤ 1000000
  room : 0 ≤ v.l.room_ ∧ v.l.room_ ≤ 3000
  len : (v.l.l.length : Int) ≤ v.l.room_
theorem VOk.few {v : vault_Vault} (h : VOk v) (k : ByteArray) : BagOk ((mget v.bags k).getD Bag.z) := by
  cases hg : mget v.bags k with
  | none => exact BagOk_z
  | some b => exact h.bags _ (mget_mem hg)
theorem Write_no (l : ledger_Ledger) (d : Deed) (hm : ledger_May d = some true) (hr : (l.l.length : Int) = l.room_) (h3 : l.room_ ≤ 3000) : ledger_Ledger_Write l d = some (5, l) := by
  simp only [ledger_Ledger_Write, hm, Option.bind_some, Bool.not_true, Bool.false_eq_true, if_false, ledger_Ledger_Room, decide_eq_true_eq]
  rw [if_pos (by rw [w64_small (by omega)]; omega)]
def lfull (v : vault_Vault) : Prop := (v.l.l.length : Int) = v.l.room_
instance (v : vault_Vault) : Decidable (lfull v) := by unfold lfull; infer_instance
def lput (v : vault_Vault) (d : Deed) : ledger_Ledger := { v.l with l := v.l.l ++ [d] }
def vput (v : vault_Vault) (node : Int) (key : ByteArray) (known : Clk) (data : ByteArray) : Dot × Int × vault_Vault :=
  if ¬ ((0 ≤ node ∧ node < 8) ∧ KeyOk key) then (Dot.z, 1, v) else
  if v.dots = 1000000 then (Dot.z, 6, v) else
  if mget v.bags key = none ∧ 200 ≤ v.bags.length then (Dot.z, 5, v) else
  if ¬ putMay ((mget v.bags key).getD Bag.z) known ⟨node, v.dots + 1⟩ data then (Dot.z, 1, v) else
  if 32 < (newer ((mget v.bags key).getD Bag.z).Values known).length + 1 then (Dot.z, 5, v) else
  if lfull v then (Dot.z, 5, v) else
  (⟨node, v.dots + 1⟩, 0, { v with l := lput v { Deed.z with Kind := 3, N := v.dots + 1, Key := key, Bag := bput ((mget v.bags key).getD Bag.z) known ⟨node, v.dots + 1⟩ data }, dots := v.dots + 1, bags := mput v.bags key (bput ((mget v.bags key).getD Bag.z) known ⟨node, v.dots + 1⟩ data) })
theorem full_eq (v : vault_Vault) (k : ByteArray) : vault_Vault_full v k = some (decide (mget v.bags k = none ∧ 200 ≤ v.bags.length)) := by
  simp only [vault_Vault_full]
  cases hg : mget v.bags k with
  | none => simp only [Option.isSome_none, Bool.not_false, if_true]; congr 1; apply decide_beq; simp; omega
  | some b => simp
theorem Put_eq {v : vault_Vault} (h : VOk v) (node : Int) (key : ByteArray) (known : Clk) (data : ByteArray) : vault_Vault_Put v node key known data = some (vput v node key known data) := by
  have h1 : vault_Vault_Put v node key known data = vault_Vault_Put_j2 v key known node data (!decide ((0 ≤ node ∧ node < 8) ∧ KeyOk key)) := by
    simp only [vault_Vault_Put, decide_eq_true_eq, spot_May_eq, Option.bind_some]
    by_cases c1 : node < 0
    · rw [if_pos c1]; simp [show ¬ (0 ≤ node) by omega]
    · rw [if_neg c1]
      by_cases c2 : 8 ≤ node
      · rw [if_pos c2]; simp [show ¬ (node < 8) by omega]
      · rw [if_neg c2]; simp [show 0 ≤ node by omega, show node < 8 by omega]
  rw [h1]
  unfold vput
  by_cases c1 : (0 ≤ node ∧ node < 8) ∧ KeyOk key
  · rw [if_neg (not_not_intro c1)]
    simp only [c1, and_self, decide_true, Bool.not_true, vault_Vault_Put_j2, Bool.false_eq_true, if_false, decide_eq_true_eq]
    by_cases c2 : v.dots = 1000000
    · rw [if_pos c2, if_pos c2]
    · rw [if_neg c2, if_neg c2, full_eq, Option.bind_some]
      by_cases c3 : mget v.bags key = none ∧ 200 ≤ v.bags.length
      · rw [if_pos c3]; simp only [c3, and_self, decide_true, if_true]
      · rw [if_neg c3]
        have hb := h.few key
        have hd := h.dots
        simp only [c3, decide_false, Bool.false_eq_true, if_false, w64_small (show -1000000000000 ≤ v.dots + 1 ∧ v.dots + 1 ≤ 1000000000000 by omega)]
        rw [bag_Put_eq _ _ _ _ hb]
        by_cases c4 : putMay ((mget v.bags key).getD Bag.z) known ⟨node, v.dots + 1⟩ data
        · rw [if_pos c4, if_neg (not_not_intro c4)]
          by_cases c5 : 32 < (newer ((mget v.bags key).getD Bag.z).Values known).length + 1
          · rw [if_pos c5, if_pos c5]; simp [vault_Vault_Put_j3]
          · rw [if_neg c5, if_neg c5]
            have hok := bput_ok hb c4 c5
            have hlen : (bput ((mget v.bags key).getD Bag.z) known ⟨node, v.dots + 1⟩ data).Values.length ≤ 32 := hok.2.1
            have hm : bag_May (bput ((mget v.bags key).getD Bag.z) known ⟨node, v.dots + 1⟩ data) = some true := by rw [bag_May_eq _ (by omega)]; simp [hok]
            simp only [Option.bind_some, vault_Vault_Put_j3, decide_true, if_true, w64_small (show -1000000000000 ≤ v.dots + 1 ∧ v.dots + 1 ≤ 1000000000000 by omega)]
            have hr := h.room
            have hln := h.len
            by_cases c6 : lfull v
            · rw [if_pos c6]
              simp only [vault_Vault_write]
              rw [Write_no v.l _ (May_bag _ _ _ c1.2 (by omega) hm (by omega)) c6 hr.2]
              simp
            · rw [if_neg c6]
              unfold lfull at c6
              rw [write_bag v (v.dots + 1) key _ c1.2 (by omega) hm (by omega) (by omega)]
              simp only [Option.bind_some, ne_eq, not_true_eq_false, decide_false, Bool.false_eq_true, if_false]
              rw [show max v.dots (v.dots + 1) = v.dots + 1 by omega]; rfl
        · rw [if_neg c4, if_pos c4]; simp [vault_Vault_Put_j3]
  · rw [if_pos c1]; simp only [c1, decide_false, Bool.not_false, vault_Vault_Put_j2, if_true]
theorem vput_ok {v : vault_Vault} (h : VOk v) (node : Int) (key : ByteArray) (known : Clk) (data : ByteArray) : VOk (vput v node key known data).2.2 := by
  unfold vput
  split
  · exact h
  rename_i c1
  split
  · exact h
  rename_i c2
  split
  · exact h
  split
  · exact h
  rename_i c4
  split
  · exact h
  rename_i c5
  split
  · exact h
  rename_i c6
  have hok := bput_ok (h.few key) (Classical.not_not.1 c4) c5
  have c1' := Classical.not_not.1 c1
  refine ⟨mput_nod h.nod _ _, fun q hq => ?_, fun q hq => ?_, ?_, h.room, ?_⟩
  · rcases (mput_mem h.nod).1 hq with rfl | ⟨hq, _⟩
    · exact c1'.2
    · exact h.keys q hq
  · rcases (mput_mem h.nod).1 hq with rfl | ⟨hq, _⟩
    · exact hok
    · exact h.bags q hq
  · have := h.dots
    show 0 ≤ v.dots + 1 ∧ v.dots + 1 ≤ 1000000
    omega
  · have := h.len
    unfold lfull at c6
    show ((v.l.l ++ [_]).length : Int) ≤ v.l.room_
    simp; omega
/-! ## Drop -/
theorem May_drop (p : Int) (hp : 0 ≤ p ∧ p < 16) : ledger_May ({ Deed.z with Kind := 4, Part := p }) = some true := by
  have hn : ledger_named ({ Deed.z with Kind := 4, Part := p }) = some ({ Deed.z with Kind := 4, Part := p }) := rfl
  simp only [ledger_May, hn, Option.bind_some]
  rw [ledger_Same_self _ (by simp [Deed.z, Bag.z]) (by simp [Deed.z, Ring.z, Plan.z])]
  simp only [Option.bind_some, Bool.not_true, Bool.false_eq_true, if_false, decide_eq_true_eq, show ¬ ((4 : Int) = 1) by decide, show ¬ ((4 : Int) = 2) by decide, show ¬ ((4 : Int) = 3) by decide, if_true, ledger_within]
  rw [if_pos hp.1]
  simp; omega
def vdrop (v : vault_Vault) (p : Int) : Int × vault_Vault :=
  if ¬ (0 ≤ p ∧ p < 16) then (1, v) else
  if pkeys v.bags p = [] then (0, v) else
  if lfull v then (5, v) else (0, { v with l := lput v { Deed.z with Kind := 4, Part := p }, bags := mdrop v.bags p })
theorem Drop_eq {v : vault_Vault} (h : VOk v) (hl : v.bags.length ≤ 100000) (p : Int) : vault_Vault_Drop v p = some (vdrop v p) := by
  have h1 : vault_Vault_Drop v p = vault_Vault_Drop_j2 v p (!decide (0 ≤ p ∧ p < 16)) := by
    simp only [vault_Vault_Drop, decide_eq_true_eq]
    by_cases c1 : p < 0
    · rw [if_pos c1]; simp [show ¬ (0 ≤ p) by omega]
    · rw [if_neg c1]; simp only [Option.bind_some]; congr 1
      by_cases c2 : 16 ≤ p
      · simp [show ¬ p < 16 by omega, c2]
      · simp [show p < 16 by omega, c2, show 0 ≤ p by omega]
  rw [h1]
  unfold vdrop
  by_cases c1 : 0 ≤ p ∧ p < 16
  · rw [if_neg (not_not_intro c1)]
    simp only [c1, and_self, decide_true, Bool.not_true, vault_Vault_Drop_j2, Bool.false_eq_true, if_false, Keys_eq v p hl, Option.bind_some, decide_eq_true_eq]
    rw [if_neg (by omega : ¬ p < 0)]
    by_cases c2 : pkeys v.bags p = []
    · rw [if_pos c2, if_pos (by simp [c2])]
    · rw [if_neg c2, if_neg (by simpa using c2)]
      have hr := h.room
      have hln := h.len
      by_cases c6 : lfull v
      · rw [if_pos c6]
        simp only [vault_Vault_write]
        rw [Write_no v.l _ (May_drop p c1) c6 hr.2]
        simp
      · rw [if_neg c6]
        unfold lfull at c6
        simp only [vault_Vault_write]
        rw [Write_ok v.l _ (by simp [Deed.z, Bag.z]) (by simp [Deed.z, Ring.z, Plan.z]) (May_drop p c1) (by omega)]
        simp only [Option.bind_some, decide_true, if_true, vault_Vault_counts, show ¬ ((4 : Int) = 1) by decide, show ¬ ((4 : Int) = 2) by decide, show ¬ ((4 : Int) = 3) by decide, decide_false, Bool.false_eq_true, if_false, DeleteFunc_eq _ _ h.nod]
        rfl
  · rw [if_pos c1]; simp only [c1, decide_false, Bool.not_false, vault_Vault_Drop_j2, if_true]
theorem vdrop_ok {v : vault_Vault} (h : VOk v) (p : Int) : VOk (vdrop v p).2 := by
  unfold vdrop
  split
  · exact h
  split
  · exact h
  split
  · exact h
  rename_i c6
  refine ⟨mfilter_nod h.nod _, fun q hq => h.keys q (List.mem_filter.1 hq).1, fun q hq => h.bags q (List.mem_filter.1 hq).1, h.dots, h.room, ?_⟩
  have := h.len
  unfold lfull at c6
  show ((v.l.l ++ [_]).length : Int) ≤ v.l.room_
  simp; omega
end Go.S

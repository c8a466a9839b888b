/- A part of the proof: P8 (for the law Vf). -/
import Derived.Test.YtofmaoickidjcaaVfP7
set_option linter.all false
namespace Go.S
open Go Go.Sx
theorem awake18 : law18_awake = some true := by kernel_rfl
theorem New_eq (n : Int) (h : 0 ≤ n ∧ n ≤ 3000) : ledger_New n = some { ledger_Ledger.z with room_ := n } := by
  simp only [ledger_New]; congr 2; omega
def v0 (n : Int) : vault_Vault := { vault_Vault.z with l := { ledger_Ledger.z with room_ := n } }
theorem Open_new (n : Int) : vault_Open { ledger_Ledger.z with room_ := n } = some (v0 n, { ledger_Ledger.z with room_ := n }) := by
  have h1 : ledger_Ledger_All { ledger_Ledger.z with room_ := n } = some [] := by
    unfold ledger_Ledger_All
    rw [loopN_eq (e0 := []) (fun i st => st = ([], 0)) 0 rfl (FUEL_big (by omega)) (by intro i s hi; omega) (by rintro _ rfl; simp [ledger_Ledger_All_l4, ledger_Ledger.z])]
    rfl
  unfold vault_Open
  rw [h1, Option.bind_some]
  rw [loopN_eq (e0 := ({ ledger_Ledger.z with room_ := n }, [], [], vault_Vault.z)) (fun i st => st = ({ ledger_Ledger.z with room_ := n }, [], [], vault_Vault.z, 0)) 0 rfl (FUEL_big (by omega)) (by intro i s hi; omega) (by rintro _ rfl; simp [vault_Open_l3, ledger_Ledger.z])]
  rfl
theorem v0_ok (n : Int) (h : 0 ≤ n ∧ n ≤ 3000) : VOk (v0 n) :=
  ⟨List.nodup_nil, (fun _ h => by cases h), (fun _ h => by cases h), by simp [v0, vault_Vault.z], h, by simp [v0, ledger_Ledger.z]; omega⟩
/-- what a Put does -/
theorem vput_cases (v : vault_Vault) (node : Int) (key : ByteArray) (known : Clk) (data : ByteArray) :
    ((vput v node key known data).2.1 ≠ 0 ∧ (vput v node key known data).2.2 = v) ∨
    ((vput v node key known data).2.1 = 0 ∧ KeyOk key ∧ ∃ b d, (vput v node key known data).2.2 = { v with l := lput v d, dots := v.dots + 1, bags := mput v.bags key b }) := by
  unfold vput
  split
  · exact .inl ⟨by simp, rfl⟩
  rename_i c1
  split
  · exact .inl ⟨by simp, rfl⟩
  split
  · exact .inl ⟨by simp, rfl⟩
  split
  · exact .inl ⟨by simp, rfl⟩
  split
  · exact .inl ⟨by simp, rfl⟩
  split
  · exact .inl ⟨by simp, rfl⟩
  · exact .inr ⟨rfl, (Classical.not_not.1 c1).2, _, _, rfl⟩
/-! ## how many keys -/
def tot (m : List (ByteArray × Bag)) (p : Int) : Nat := (m.filter (fun q => decide (0 ≤ spotO q.1 ∧ spotO q.1 < p))).length
theorem filter_split {α : Type} (l : List α) (p q r : α → Bool) (h : ∀ x ∈ l, (if p x then 1 else 0) = (if q x then 1 else 0) + (if r x then 1 else 0)) : (l.filter p).length = (l.filter q).length + (l.filter r).length := by
  induction l with
  | nil => rfl
  | cons x t ih =>
    have h1 := ih (fun y hy => h y (List.mem_cons_of_mem _ hy))
    have h2 := h x (List.mem_cons_self)
    by_cases hp : p x = true <;> by_cases hq : q x = true <;> by_cases hr : r x = true <;> simp [hp, hq, hr] at h2 ⊢ <;> omega
theorem tot_succ (m : List (ByteArray × Bag)) (p : Int) (hp : 0 ≤ p) : tot m (p + 1) = tot m p + (pkeys m p).length := by
  unfold tot
  rw [pkeys_len]
  apply filter_split
  intro x _
  by_cases h : spotO x.1 = p
  · simp [h, hp]; omega
  · by_cases h2 : 0 ≤ spotO x.1 ∧ spotO x.1 < p
    · rw [if_pos (by simp; omega), if_pos (by simp; omega), if_neg (by simpa using h)]
    · rw [if_neg (by simp; omega), if_neg (by simp; omega), if_neg (by simpa using h)]
theorem tot_zero (m : List (ByteArray × Bag)) : tot m 0 = 0 := by
  unfold tot
  rw [List.filter_eq_nil_iff.2 (fun q _ => by simp)]; rfl
theorem tot_all {m : List (ByteArray × Bag)} (h : ∀ q ∈ m, KeyOk q.1) : tot m 16 = m.length := by
  unfold tot
  rw [List.filter_eq_self.2 (fun q hq => by simpa using spotO_range q.1 (h q hq))]
theorem tot_le (m : List (ByteArray × Bag)) (p : Int) : tot m p ≤ m.length := List.length_filter_le _ _
theorem mdrop_len (m : List (ByteArray × Bag)) (p : Int) : m.length = (mdrop m p).length + (pkeys m p).length := by
  rw [pkeys_len]
  have := filter_split m (fun _ => true) (fun q => !decide (spotO q.1 = p)) (fun q => decide (spotO q.1 = p)) (by
    intro x _
    by_cases h : spotO x.1 = p <;> simp [h])
  rw [List.filter_eq_self.2 (fun _ _ => rfl)] at this
  exact this
theorem pkeys_mdrop (m : List (ByteArray × Bag)) (p : Int) : pkeys (mdrop m p) p = [] := by
  apply List.eq_nil_iff_forall_not_mem.2
  intro k hk
  obtain ⟨h1, h2⟩ := pkeys_mem.1 hk
  obtain ⟨q, hq, rfl⟩ := List.mem_map.1 h1
  have := (List.mem_filter.1 hq).2
  simp [h2] at this
theorem pkeys_le (m : List (ByteArray × Bag)) (p : Int) : (pkeys m p).length ≤ m.length := by rw [pkeys_len]; exact List.length_filter_le _ _
/-! ## VaultKeys -/
structure KI (i : Nat) (v : vault_Vault) (inm : List (ByteArray × Int)) : Prop where
  ok : VOk v
  nod : mnod inm
  room : v.l.room_ = 200
  len : v.l.l.length ≤ i
  blen : v.bags.length ≤ i
  klen : inm.length = v.bags.length
  same : ∀ k, mget inm k = if (mget v.bags k).isSome then some 1 else none
theorem KI.step {i : Nat} {v : vault_Vault} {inm : List (ByteArray × Int)} (h : KI i v inm) (k : ByteArray) {b : Bag} {d : Deed} {v' : vault_Vault} (hv : VOk v') (e : v' = { v with l := lput v d, dots := v.dots + 1, bags := mput v.bags k b }) : KI (i + 1) v' (mput inm k 1) := by
  subst e
  have hs : (mget inm k).isSome = (mget v.bags k).isSome := by rw [h.same k]; split <;> simp [*]
  refine ⟨hv, mput_nod h.nod _ _, h.room, ?_, ?_, ?_, ?_⟩
  · have := h.len; simp [lput]; omega
  · have := h.blen
    show (mput v.bags k b).length ≤ i + 1
    rw [mput_len]; split <;> omega
  · show (mput inm k 1).length = (mput v.bags k b).length
    rw [mput_len, mput_len, hs, h.klen]
  · intro k'
    show mget (mput inm k 1) k' = if (mget (mput v.bags k b) k').isSome then some 1 else none
    rw [mget_mput h.nod, mget_mput h.ok.nod]
    by_cases hk : k' = k
    · simp [hk]
    · simp [hk, h.same k']
theorem KI.stay {i : Nat} {v : vault_Vault} {inm : List (ByteArray × Int)} (h : KI i v inm) : KI (i + 1) v inm := ⟨h.ok, h.nod, h.room, Nat.le_succ_of_le h.len, Nat.le_succ_of_le h.blen, h.klen, h.same⟩
theorem keys_loop {v : vault_Vault} {inm : List (ByteArray × Int)} {i : Nat} (h : KI i v inm) (hi : i ≤ 40) (p : Int) (hp : 0 ≤ p ∧ p < 16) :
    loopN (law18_VaultKeys_l51 (pkeys v.bags p) inm p) FUEL 0 = some (.inl (pkeys v.bags p, ((pkeys v.bags p).length : Int), decide (((pkeys v.bags p).length : Int) < ((pkeys v.bags p).length : Int)))) := by
  have hle := pkeys_le v.bags p
  have hb := h.blen
  rw [loop_find (f := law18_VaultKeys_l51 (pkeys v.bags p) inm p) (u := (pkeys v.bags p, ((pkeys v.bags p).length : Int), decide (((pkeys v.bags p).length : Int) < ((pkeys v.bags p).length : Int)))) (pkeys v.bags p) (fun _ _ => none) (by omega)]
  · rw [ff_none.2 (fun _ _ _ => rfl)]
  · intro j x hx
    have hj := (List.getElem?_eq_some_iff.1 hx).1
    have hxm := pkeys_mem.1 (List.mem_of_getElem? hx)
    simp only [law18_VaultKeys_l51, decide_eq_true_eq]
    rw [if_pos (by omega), lget_nat, hx, Option.bind_some]
    have hin : mget inm x = some 1 := by
      rw [h.same x]
      obtain ⟨q, hq, rfl⟩ := List.mem_map.1 hxm.1
      rw [mget_of h.ok.nod (v := q.2) hq]; rfl
    rw [hin]
    simp only [Option.getD_some, ne_eq, not_true_eq_false, if_false, spot_Of_some, Option.bind_some, hxm.2]
    by_cases h0 : (0 : Int) < (j : Int)
    · rw [if_pos h0, w64_small (by omega), show ((j : Int) - 1) = ((j - 1 : Nat) : Int) by omega, lget_nat, List.getElem?_eq_getElem (by omega), Option.bind_some, sleB_eq]
      have hr := List.pairwise_iff_getElem.1 (pkeys_rise h.ok.nod p) (j - 1) j (by omega) hj (by omega)
      rw [(List.getElem?_eq_some_iff.1 hx).2] at hr
      rw [if_neg]
      simp only [decide_eq_true_eq]
      exact List.not_le.2 hr
    · rw [if_neg h0]
  · simp only [law18_VaultKeys_l51, decide_eq_true_eq]
    rw [if_neg (by omega)]
theorem tot_loop {v : vault_Vault} {inm : List (ByteArray × Int)} {i : Nat} (h : KI i v inm) (hi : i ≤ 40) :
    loopN (law18_VaultKeys_l44 v v.l v.l.l v.bags inm) FUEL (0, 0) = some (.inl (v.bags.length : Int)) := by
  have hb := h.blen
  refine loopN_eq (fun j st => st = ((tot v.bags (j : Int) : Int), (j : Int)) ∧ j ≤ 16) 16 ⟨by rw [show (((0 : Nat) : Int)) = 0 from rfl, tot_zero]; rfl, by omega⟩ (FUEL_big (by omega)) ?_ ?_
  · rintro j _ hj ⟨rfl, _⟩
    left
    simp only [law18_VaultKeys_l44, decide_eq_true_eq]
    rw [if_pos (by omega)]
    rw [show ({ v with l := { v.l with l := v.l.l }, bags := v.bags } : vault_Vault) = v from rfl, Keys_eq v _ (by omega), if_neg (by omega), Option.bind_some, keys_loop h hi _ (by omega)]
    have h1 := tot_le v.bags (j : Int)
    have h2 := pkeys_le v.bags (j : Int)
    refine ⟨_, rfl, ?_, by omega⟩
    rw [show ((((j + 1 : Nat)) : Int)) = (j : Int) + 1 by omega, tot_succ _ _ (by omega), w64_small (by omega), w64_small (by omega)]
    simp
  · rintro _ ⟨rfl, _⟩
    simp only [law18_VaultKeys_l44, decide_eq_true_eq]
    rw [if_neg (by omega)]
    rw [show (((16 : Nat) : Int)) = 16 from rfl, tot_all h.ok.keys]
theorem rest_loop {v : vault_Vault} (h : VOk v) (hb : v.bags.length ≤ 1000) :
    loopN (law18_VaultKeys_l29 v v.l v.l.l v.bags) FUEL (0, 0) = some (v.bags.length : Int) := by
  refine loopN_eq (fun j st => st = ((tot v.bags (j : Int) : Int), (j : Int)) ∧ j ≤ 16) 16 ⟨by rw [show (((0 : Nat) : Int)) = 0 from rfl, tot_zero]; rfl, by omega⟩ (FUEL_big (by omega)) ?_ ?_
  · rintro j _ hj ⟨rfl, _⟩
    left
    simp only [law18_VaultKeys_l29, decide_eq_true_eq]
    rw [if_pos (by omega)]
    rw [show ({ v with l := { v.l with l := v.l.l }, bags := v.bags } : vault_Vault) = v from rfl, Keys_eq v _ (by omega), if_neg (by omega), Option.bind_some]
    have h1 := tot_le v.bags (j : Int)
    have h2 := pkeys_le v.bags (j : Int)
    refine ⟨_, rfl, ?_, by omega⟩
    rw [show ((((j + 1 : Nat)) : Int)) = (j : Int) + 1 by omega, tot_succ _ _ (by omega), w64_small (by omega), w64_small (by omega)]
    simp
  · rintro _ ⟨rfl, _⟩
    simp only [law18_VaultKeys_l29, decide_eq_true_eq]
    rw [if_neg (by omega)]
    rw [show (((16 : Nat) : Int)) = 16 from rfl, tot_all h.keys]
theorem VaultKeys_end {v : vault_Vault} {inm : List (ByteArray × Int)} {i : Nat} (h : KI i v inm) (hi : i ≤ 40) (part : Int) : law18_VaultKeys_j2 part v.l v.l.l v v.bags inm = some true := by
  have hb := h.blen
  have hp := mod_bound part 16 (by omega)
  unfold law18_VaultKeys_j2
  rw [tot_loop h hi, andThen_inl]
  simp only [law18_VaultKeys_j25]
  generalize IntKind.i64.wrap (Int.tmod (IntKind.u64.wrap part) 16) = p at *
  rw [show ({ v with l := { v.l with l := v.l.l }, bags := v.bags } : vault_Vault) = v from rfl, Keys_eq v _ (by omega), if_neg (by omega), Option.bind_some, Drop_eq h.ok (by omega)]
  obtain ⟨v', hv', h1, h2⟩ : ∃ v', vdrop v p = (0, v') ∧ v'.bags = mdrop v.bags p ∧ VOk v' := by
    have hok := vdrop_ok h.ok p
    unfold vdrop at hok ⊢
    rw [if_neg (not_not_intro hp)] at hok ⊢
    by_cases c2 : pkeys v.bags p = []
    · rw [if_pos c2] at hok ⊢
      refine ⟨v, rfl, ?_, hok⟩
      have hl := mdrop_len v.bags p
      rw [c2] at hl
      symm
      unfold mdrop at hl ⊢
      exact List.filter_eq_self.2 (List.length_filter_eq_length_iff.1 (by simpa using hl.symm))
    · rw [if_neg c2] at hok ⊢
      have c6 : ¬ lfull v := by unfold lfull; have := h.len; have := h.room; omega
      rw [if_neg c6] at hok ⊢
      exact ⟨_, rfl, rfl, hok⟩
  rw [hv']
  have hl := mdrop_len v.bags p
  have hbl : v'.bags.length ≤ 1000 := by rw [h1]; omega
  simp only [Option.bind_some, ne_eq, not_true_eq_false, decide_false, Bool.false_eq_true, if_false, Keys_eq v' p (by omega)]
  rw [if_neg (by omega), h1, pkeys_mdrop]
  simp only [Option.bind_some, List.length_nil, Int.natCast_zero, not_true_eq_false, decide_false, law18_VaultKeys_j26, Bool.false_eq_true, if_false]
  have hr := rest_loop h2 hbl
  rw [h1] at hr
  have hr' : loopN (law18_VaultKeys_l29 v' v'.l v'.l.l (mdrop v.bags p)) FUEL (0, 0) = some ((mdrop v.bags p).length : Int) := hr
  rw [hr', Option.bind_some]
  simp only [law18_VaultKeys_j28, decide_eq_true_eq, h.klen, if_true]
  rw [if_pos (by rw [w64_small (by omega)]; omega)]
  rw [show ({ v' with l := { v'.l with l := v'.l.l }, bags := mdrop v.bags p } : vault_Vault) = v' by rw [← h1], Drop_eq h2 (by omega)]
  simp [vdrop, awake18]
theorem VaultKeys_law (l : List ByteArray) (part : Int) : law18_VaultKeys l part = some true := by
  unfold law18_VaultKeys
  simp only [decide_eq_true_eq]
  by_cases h40 : (40 : Int) < (l.length : Int)
  · rw [if_pos h40, awake18]; rfl
  rw [if_neg h40, New_eq 200 (by omega), Option.bind_some, Open_new, Option.bind_some]
  obtain ⟨e, he, hpost⟩ := loopN_ind (f := law18_VaultKeys_l52 l) (s0 := ({ ledger_Ledger.z with room_ := 200 }, ({ ledger_Ledger.z with room_ := 200 } : ledger_Ledger).l, v0 200, (v0 200).bags, [], (0 : Int)))
    (fun i st => ∃ v inm, st = (v.l, v.l.l, v, v.bags, inm, (i : Int)) ∧ i ≤ l.length ∧ KI i v inm)
    (fun e => e = .inr true ∨ ∃ v inm i, e = .inl (v.l, v.l.l, v, v.bags, inm) ∧ KI i v inm ∧ i ≤ 40) l.length
    ⟨v0 200, [], rfl, by omega, ⟨v0_ok 200 (by omega), List.nodup_nil, rfl, by simp [v0, ledger_Ledger.z], by simp [v0, vault_Vault.z], rfl, fun k => by simp [v0, vault_Vault.z, mget]⟩⟩ (FUEL_big (by omega)) (by
      rintro i _ hi ⟨v, inm, rfl, _, hI⟩
      simp only [law18_VaultKeys_l52, decide_eq_true_eq]
      rw [if_pos (by omega), lget_nat, List.getElem?_eq_getElem hi, Option.bind_some]
      by_cases h100 : (100 : Int) < ((l[i]).size : Int)
      · right
        rw [if_pos h100, awake18]
        exact ⟨_, rfl, .inl rfl⟩
      · left
        rw [if_neg h100, show ({ v with l := { v.l with l := v.l.l }, bags := v.bags } : vault_Vault) = v from rfl, Put_eq hI.ok, Option.bind_some]
        have hok := vput_ok hI.ok 0 l[i] (Vector.replicate 8 (0 : Int)) (⟨#[120]⟩ : ByteArray)
        have hc := vput_cases v 0 l[i] (Vector.replicate 8 (0 : Int)) (⟨#[120]⟩ : ByteArray)
        rcases hq : vput v 0 l[i] (Vector.replicate 8 (0 : Int)) (⟨#[120]⟩ : ByteArray) with ⟨d, e, v'⟩
        rw [hq] at hok hc
        rcases hc with ⟨h1, h2⟩ | ⟨h1, _, b, dd, h2⟩
        · simp only at h1 h2
          subst h2
          rw [if_neg h1]
          exact ⟨_, rfl, _, inm, by rw [w64_nat i (by omega)], by omega, hI.stay⟩
        · simp only at h1 h2 hok
          rw [if_pos h1]
          exact ⟨_, rfl, v', _, by rw [w64_nat i (by omega)], by omega, hI.step _ hok h2⟩) (by
      rintro _ ⟨v, inm, rfl, _, hI⟩
      simp only [law18_VaultKeys_l52, decide_eq_true_eq]
      rw [if_neg (by omega)]
      exact ⟨_, rfl, .inr ⟨v, inm, _, rfl, hI, by omega⟩⟩)
  rw [he]
  rcases hpost with rfl | ⟨v, inm, i, rfl, hI, hi⟩
  · rfl
  · exact VaultKeys_end hI hi part
theorem VaultKeys_true (l : List ByteArray) (part : Int) (_ : ∀ x ∈ l, x.size ≤ maxLen) (_ : (Lit.int .i64 part).wf = true) : law18_VaultKeys l part = some true := VaultKeys_law l part
end Go.S

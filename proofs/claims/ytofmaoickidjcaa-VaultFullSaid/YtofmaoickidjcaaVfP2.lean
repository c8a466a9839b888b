/- A part of the proof: P2 (for the law Vf). -/
import Derived.Test.YtofmaoickidjcaaVfP1
set_option linter.all false
namespace Go.S
open Go Go.Sx
/-! ## spots -/
theorem u64_nonneg (x : Int) : 0 ≤ IntKind.u64.wrap x := by
  have h : IntKind.u64.wrap x = x % 18446744073709551616 := by
    unfold IntKind.wrap; simp [IntKind.bits, IntKind.signed]
  rw [h]; omega
theorem u64_lt (x : Int) : IntKind.u64.wrap x < 18446744073709551616 := by
  have h : IntKind.u64.wrap x = x % 18446744073709551616 := by
    unfold IntKind.wrap; simp [IntKind.bits, IntKind.signed]
  rw [h]; omega
theorem mod_bound (a n : Int) (h : 1 ≤ n ∧ n ≤ 1000) : 0 ≤ IntKind.i64.wrap (Int.tmod (IntKind.u64.wrap a) n) ∧ IntKind.i64.wrap (Int.tmod (IntKind.u64.wrap a) n) < n := by
  have h0 := u64_nonneg a
  have h1 : Int.tmod (IntKind.u64.wrap a) n = (IntKind.u64.wrap a) % n := Int.tmod_eq_emod_of_nonneg h0
  have h2 := Int.emod_nonneg (IntKind.u64.wrap a) (by omega : n ≠ 0)
  have h3 := Int.emod_lt_of_pos (IntKind.u64.wrap a) (by omega : 0 < n)
  rw [h1, IntWalk.i64_in _ (by omega)]
  exact ⟨h2, h3⟩
def KeyOk (a : ByteArray) : Prop := 1 ≤ a.size ∧ a.size ≤ 32
instance (a : ByteArray) : Decidable (KeyOk a) := by unfold KeyOk; infer_instance
theorem spot_May_eq (a : ByteArray) : spot_May a = some (decide (KeyOk a)) := by
  simp only [spot_May, decide_eq_true_eq]
  split
  · congr 1; apply decide_beq; unfold KeyOk; omega
  · congr 1; symm; rw [decide_eq_false_iff_not]; unfold KeyOk; omega
theorem MayKey_eq (a : ByteArray) : ref7_MayKey a = some (decide (KeyOk a)) := spot_May_eq a
theorem xor_nonneg (a b : Int) : 0 ≤ xorI .u64 a b := u64_nonneg _
theorem spot_Hash_eq (a : ByteArray) (h : a.size ≤ 1000000000000) : ∃ x, spot_Hash a = some x ∧ 0 ≤ x := by
  unfold spot_Hash
  obtain ⟨e, he, _⟩ := loopN_ind (f := spot_Hash_l3 a) (s0 := ((14695981039346656037 : Int), (0 : Int))) (fun i st => st.2 = (i : Int)) (fun _ => True) a.size rfl (FUEL_big h) (by
    rintro i ⟨x, _⟩ hi rfl
    left
    simp only [spot_Hash_l3, decide_eq_true_eq]
    rw [if_pos (by omega)]
    have hs : sget a (i : Int) = some (a[i]'hi).toNat := by unfold sget; rw [dif_pos ⟨by omega, by simpa using hi⟩]; simp
    rw [hs]
    exact ⟨_, rfl, w64_nat i (by omega)⟩) (by
    rintro ⟨x, _⟩ rfl
    simp only [spot_Hash_l3, decide_eq_true_eq]
    rw [if_neg (by omega)]
    exact ⟨_, rfl, trivial⟩)
  rw [he]
  exact ⟨_, rfl, xor_nonneg _ _⟩
theorem spot_Of_eq (a : ByteArray) (h : KeyOk a) : ∃ p, spot_Of a = some p ∧ 0 ≤ p ∧ p < 16 := by
  obtain ⟨x, hx, h0⟩ := spot_Hash_eq a (by have := h.2; omega)
  simp only [spot_Of, spot_May_eq, h, decide_true, Bool.not_true, Option.bind_some, Bool.false_eq_true, if_false, hx]
  refine ⟨_, rfl, ?_⟩
  have h1 : Int.tmod x 16 = x % 16 := Int.tmod_eq_emod_of_nonneg h0
  rw [h1, IntWalk.i64_in _ (by omega)]
  omega
theorem spot_Of_no (a : ByteArray) (h : ¬ KeyOk a) : spot_Of a = some (-1) := by
  simp [spot_Of, spot_May_eq, h]
theorem Spot_eq (a : ByteArray) : ref7_Spot a = spot_Of a := rfl
/-! ## bags alike -/
theorem sEqual_eq (l m : List Val) (hl : l.length ≤ 1000000000000) : slices_Equal_api_Value_api_Value l m = some (decide (l = m)) := by
  unfold slices_Equal_api_Value_api_Value
  simp only [decide_eq_true_eq]
  by_cases hlen : l.length = m.length
  · rw [if_neg (by omega)]
    rw [loop_find (u := ()) l (fun x i => if m[i]? = some x then none else some false) hl]
    · cases hf : ff (fun (x : Val) (i : Nat) => if m[i]? = some x then none else some false) l 0 with
      | some b =>
        obtain ⟨k, x, h1, h2, _⟩ := ff_some hf
        rw [Nat.zero_add] at h2
        split at h2
        · cases h2
        · rename_i hx
          cases h2
          simp only [andThen]
          congr 1; symm; rw [decide_eq_false_iff_not]
          rintro rfl; exact hx h1
      | none =>
        have := ff_none.1 hf
        simp only [andThen, slices_Equal_api_Value_api_Value_j2]
        congr 1; symm; rw [decide_eq_true_iff]
        apply List.ext_getElem?
        intro i
        by_cases hi : i < l.length
        · have h1 := this i l[i] (List.getElem?_eq_getElem hi)
          rw [Nat.zero_add] at h1
          split at h1
          · rename_i h2; rw [h2, List.getElem?_eq_getElem hi]
          · cases h1
        · rw [List.getElem?_eq_none (by omega), List.getElem?_eq_none (by omega)]
    · intro i x hx
      have hi := (List.getElem?_eq_some_iff.1 hx).1
      have hm : m[i]? = some (m[i]'(by omega)) := List.getElem?_eq_getElem (by omega)
      simp only [slices_Equal_api_Value_api_Value_l3, decide_eq_true_eq]
      rw [if_pos (by omega), lget_nat, lget_nat, hx, hm]
      simp only [Option.bind_some, Option.some.injEq]
      by_cases h : x = m[i]'(by omega)
      · simp [h]
      · have h' : ¬ m[i]'(by omega) = x := fun e => h e.symm
        simp [h, h']
    · simp [slices_Equal_api_Value_api_Value_l3]
  · rw [if_pos (by omega)]
    congr 1; symm; rw [decide_eq_false_iff_not]
    rintro rfl; exact hlen rfl
theorem bag_Same_eq (a b : Bag) (hl : a.Values.length ≤ 1000000000000) : bag_Same a b = some (decide (a = b)) := by
  simp only [bag_Same, sEqual_eq _ _ hl, Option.bind_some, decide_eq_true_eq]
  cases a; cases b
  simp only [Bag.mk.injEq]
  split <;> simp [*]
theorem vault_copied_eq (b : Bag) (hl : b.Values.length ≤ 1000000000) : vault_copied b = some b := by simp [vault_copied, cloneV_eq _ hl]
/-! ## ledgers -/
theorem ledger_copied_eq (d : Deed) (h1 : d.Bag.Values.length ≤ 1000000000) (h2 : d.Ring.Plan.Targets.length ≤ 1000000000000) : ledger_copied d = some d := by
  simp [ledger_copied, cloneV_eq _ h1, cloneI_eq _ h2]
theorem ledger_Same_self (d : Deed) (h1 : d.Bag.Values.length ≤ 1000000000) (h2 : d.Ring.Plan.Targets.length ≤ 1000000000000) : ledger_Same d d = some true := by
  simp [ledger_Same, bag_Same_eq d.Bag d.Bag (by omega), ring_Same_eq d.Ring d.Ring h2, pcmp_self]
theorem Write_ok (l : ledger_Ledger) (d : Deed) (h1 : d.Bag.Values.length ≤ 1000000000) (h2 : d.Ring.Plan.Targets.length ≤ 1000000000000) (hm : ledger_May d = some true)
    (hr : l.room_ ≤ 100000 ∧ l.l.length < l.room_) : ledger_Ledger_Write l d = some (0, { l with l := l.l ++ [d] }) := by
  simp only [ledger_Ledger_Write, hm, Option.bind_some, Bool.not_true, Bool.false_eq_true, if_false, ledger_Ledger_Room, decide_eq_true_eq]
  rw [if_neg (by rw [w64_small (by omega)]; omega), ledger_copied_eq d h1 h2, Option.bind_some, appG_ok (by omega)]
  rfl
theorem May_ring (r : Ring) (hl : r.Plan.Targets.length ≤ 1000000000000) (h : RingOk r) : ledger_May ({ Deed.z with Kind := 2, Ring := r }) = some true := by
  have hn : ledger_named ({ Deed.z with Kind := 2, Ring := r }) = some ({ Deed.z with Kind := 2, Ring := r }) := rfl
  simp only [ledger_May, hn, Option.bind_some]
  rw [ledger_Same_self _ (by simp [Deed.z, Bag.z]) hl]
  simp only [Option.bind_some, Bool.not_true, Bool.false_eq_true, if_false, decide_eq_true_eq, show ¬ ((2 : Int) = 1) by decide, if_true, ring_May_eq r hl, h, decide_true]
theorem May_bag (n : Int) (k : ByteArray) (b : Bag) (hk : KeyOk k) (hb : b.Values.length ≤ 1000000000) (h : bag_May b = some true) (hn : 0 ≤ n ∧ n ≤ 1000000) : ledger_May ({ Deed.z with Kind := 3, N := n, Key := k, Bag := b }) = some true := by
  have hn' : ledger_named ({ Deed.z with Kind := 3, N := n, Key := k, Bag := b }) = some ({ Deed.z with Kind := 3, N := n, Key := k, Bag := b }) := rfl
  obtain ⟨k1, k2⟩ := hk
  simp only [ledger_May, hn', Option.bind_some]
  rw [ledger_Same_self _ hb (by simp [Deed.z, Ring.z, Plan.z])]
  simp only [Option.bind_some, Bool.not_true, Bool.false_eq_true, if_false, decide_eq_true_eq, show ¬ ((3 : Int) = 1) by decide, show ¬ ((3 : Int) = 2) by decide, if_true, ledger_within, w64_small (show -1000000000000 ≤ (k.size : Int) - 1 ∧ (k.size : Int) - 1 ≤ 1000000000000 by omega)]
  rw [if_pos (by omega)]
  simp only [Option.bind_some, decide_eq_true_eq]
  rw [if_pos (by omega), h]
  simp only [Option.bind_some, if_true]
  rw [if_pos hn.1]
  simp [hn.2]
/-! ## vaults -/
theorem SetRing_ok (v : vault_Vault) (r : Ring) (hl : r.Plan.Targets.length ≤ 1000000000000) (h : RingOk r) (hr : v.l.room_ ≤ 100000 ∧ v.l.l.length < v.l.room_) :
    vault_Vault_SetRing v r = some (0, { v with l := { v.l with l := v.l.l ++ [{ Deed.z with Kind := 2, Ring := r }] }, ring := r, rings := w64 (v.rings + 1) }) := by
  simp only [vault_Vault_SetRing, vault_Vault_write]
  rw [Write_ok v.l _ (by simp [Deed.z, Bag.z]) hl (May_ring r hl h) hr]
  simp [vault_Vault_counts, ring_Join_eq r r hl hl, rjoin_self]
theorem Ring_ok (v : vault_Vault) (hl : v.ring.Plan.Targets.length ≤ 1000000000000) (h : v.rings ≠ 0) : vault_Vault_Ring v = some (v.ring, true) := by
  simp [vault_Vault_Ring, h, ring_Join_eq v.ring v.ring hl hl, rjoin_self]
theorem placed_eq (m : Msg) : take_placed m = some (decide ((0 ≤ m.From ∧ m.From < 8) ∧ (0 ≤ m.To ∧ m.To < 8) ∧ 0 ≤ m.Part ∧ m.Part < 16)) := by
  simp only [take_placed, take_node_eq, Option.bind_some, decide_eq_true_eq]
  by_cases h1 : 0 ≤ m.From ∧ m.From < 8
  · rw [if_pos h1]
    by_cases h2 : 0 ≤ m.To ∧ m.To < 8
    · rw [if_pos h2]
      by_cases h3 : 0 ≤ m.Part
      · simp [h1, h2, h3]
      · simp [h3]
    · rw [if_neg h2]; congr 1; symm; rw [decide_eq_false_iff_not]; exact fun h => h2 h.2.1
  · rw [if_neg h1]; congr 1; symm; rw [decide_eq_false_iff_not]; exact fun h => h1 h.1
theorem take_May_eq (m : Msg) (r : Ring) (hk : m.Kind = 5 ∨ m.Kind = 7) (hf : 0 ≤ m.From ∧ m.From < 8) (ht : 0 ≤ m.To ∧ m.To < 8) (hp : 0 ≤ m.Part ∧ m.Part.toNat < 16) (hne : m.From ≠ m.To) (hl : r.Plan.Targets.length ≤ 1000000000000) (hr : RingOk r) :
    take_May m r = some (decide (r.Parts[m.Part.toNat].Epoch < m.Epoch ∨ (m.Epoch = r.Parts[m.Part.toNat].Epoch ∧ rowner r m.Part = m.From))) := by
  have hpl : take_placed m = some true := by rw [placed_eq]; congr 1; simp only [hf, ht, hp, true_and, and_self, decide_eq_true_eq]; omega
  have hj : take_May m r = take_May_j1 r m := by
    unfold take_May
    simp only [hpl, Option.bind_some, Bool.not_true, Bool.false_eq_true, if_false, decide_eq_true_eq, hne, ring_May_eq r hl, hr, decide_true]
    rcases hk with h | h <;> simp [h, andThen]
  rw [hj]
  simp only [take_May_j1, aget_int _ _ hp.1 hp.2, Option.bind_some, decide_eq_true_eq, ring_Owner_eq]
  by_cases h1 : r.Parts[m.Part.toNat].Epoch < m.Epoch
  · simp [h1]
  · rw [if_neg h1]
    by_cases h2 : m.Epoch = r.Parts[m.Part.toNat].Epoch
    · rw [if_pos h2]; simp [h1, h2]
    · rw [if_neg h2]; simp [h1, h2]
theorem Sync_eq (v : vault_Vault) : vault_Vault_Sync v = some (w64 ((v.l.l.length : Int) - v.l.sure), { v with l := { v.l with sure := (v.l.l.length : Int) } }) := rfl
theorem write_bag (v : vault_Vault) (n : Int) (k : ByteArray) (b : Bag) (hk : KeyOk k) (hb : b.Values.length ≤ 1000000000) (h : bag_May b = some true) (hn : 0 ≤ n ∧ n ≤ 1000000) (hr : v.l.room_ ≤ 100000 ∧ v.l.l.length < v.l.room_) :
    vault_Vault_write v ({ Deed.z with Kind := 3, N := n, Key := k, Bag := b }) = some (0, { v with l := { v.l with l := v.l.l ++ [{ Deed.z with Kind := 3, N := n, Key := k, Bag := b }] }, dots := max v.dots n, bags := mput v.bags k b }) := by
  simp only [vault_Vault_write]
  rw [Write_ok v.l _ hb (by simp [Deed.z, Ring.z, Plan.z]) (May_bag n k b hk hb h hn) hr]
  simp [vault_Vault_counts, vault_copied_eq b hb]
end Go.S

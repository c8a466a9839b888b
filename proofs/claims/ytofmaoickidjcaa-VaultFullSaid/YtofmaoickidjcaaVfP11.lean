/- A part of the proof: P11 (for the law Vf). -/
import Derived.Test.YtofmaoickidjcaaVfP10
set_option linter.all false
namespace Go.S
open Go Go.Sx
def kn1 : Bag := { Bag.z with Known := (⟨#[1, 0, 0, 0, 0, 0, 0, 0], rfl⟩ : Vector Int 8) }
def kn5 : Bag := { Bag.z with Known := (⟨#[0, 5, 0, 0, 0, 0, 0, 0], rfl⟩ : Vector Int 8) }
theorem kn1_ok : BagOk kn1 := by decide +kernel
theorem kn5_ok : BagOk kn5 := by decide +kernel
theorem more_loop {v : vault_Vault} (h : FI 200 v) (hd : v.dots = 200) (a : Int) : loopN (law18_VaultFull_l9 a) FUEL (v.l, v.l.l, v, v.bags, 0) = some (.inl (v.l, v.l.l, v, v.bags)) := by
  have hm := mod_bound a 5 (by omega)
  unfold law18_VaultFull_l9
  generalize IntKind.i64.wrap (Int.tmod (IntKind.u64.wrap a) 5) = q at *
  refine loopN_eq (fun i st => st = (v.l, v.l.l, v, v.bags, (i : Int)) ∧ (i : Int) ≤ q) q.toNat ⟨rfl, by omega⟩ (FUEL_big (by omega)) ?_ ?_
  · rintro i _ hi ⟨rfl, _⟩
    left
    have hnone := h.none (k := nm (200 + i)) (fun j hj e => by have := nm_inj (by omega) (by omega) e; omega)
    have hp : vput v 0 (nm (200 + i)) zc ⟨#[120]⟩ = (Dot.z, 5, v) := by
      unfold vput
      rw [if_neg (not_not_intro ⟨by omega, nm_ok _⟩)]
      rw [if_neg (by omega), if_pos ⟨hnone, by rw [h.len]; omega⟩]
    have hmm : vmerge v (nm (200 + i)) kn1 = (5, v) := by
      unfold vmerge
      rw [if_neg (not_not_intro ⟨nm_ok _, kn1_ok⟩), if_pos ⟨hnone, by rw [h.len]; omega⟩]
    simp only [decide_eq_true_eq]
    rw [if_pos (by omega), w64_small (by omega), show (200 : Int) + (i : Int) = ((200 + i : Nat) : Int) by omega, named_eq _ (by omega), Option.bind_some, show ({ v with l := { v.l with l := v.l.l }, bags := v.bags } : vault_Vault) = v from rfl, Put_eq h.ok, Option.bind_some]
    rw [show (Vector.replicate 8 (0 : Int)) = zc from rfl, hp]
    simp only
    rw [show ({ Bag.z with Known := (⟨#[1, 0, 0, 0, 0, 0, 0, 0], rfl⟩ : Vector Int 8) } : Bag) = kn1 from rfl, Merge_eq h.ok _ _ (by decide), Option.bind_some, hmm]
    simp only [ne_eq, not_true_eq_false, if_false, vault_Vault_Bag, hnone, Option.getD_none]
    rw [vault_copied_eq _ (by decide)]
    refine ⟨_, rfl, ?_, by omega⟩
    rw [w64_nat i (by omega)]
  · rintro _ ⟨rfl, _⟩
    simp only [decide_eq_true_eq]
    rw [if_neg (by omega)]
structure GI (v : vault_Vault) : Prop where
  ok : VOk v
  room : v.l.room_ = 3000
  keys : v.bags.map (·.1) = nms 200
  dots : v.dots = 201
  len : v.l.l.length ≤ 202
theorem GI.blen {v : vault_Vault} (h : GI v) : v.bags.length = 200 := by
  have := congrArg List.length h.keys
  simpa [nms] using this
theorem first_loop {v : vault_Vault} (h : GI v) : ∃ p : Nat, p < 16 ∧ loopN (law18_VaultFull_l8 v v.l v.l.l v.bags) FUEL 0 = some (p : Int) ∧ pkeys v.bags (p : Int) ≠ [] := by
  obtain ⟨e, he, p, rfl, hp, hne⟩ := loopN_ind (f := law18_VaultFull_l8 v v.l v.l.l v.bags) (s0 := (0 : Int)) (fun i st => st = (i : Int) ∧ i ≤ 15 ∧ ∀ j : Nat, j < i → pkeys v.bags (j : Int) = [])
    (fun e => ∃ p : Nat, e = (p : Int) ∧ p < 16 ∧ pkeys v.bags (p : Int) ≠ []) 15 ⟨rfl, by omega, fun j hj => by omega⟩ (FUEL_big (by omega)) (by
      rintro i _ hi ⟨rfl, _, hj⟩
      simp only [law18_VaultFull_l8, decide_eq_true_eq]
      rw [show ({ v with l := { v.l with l := v.l.l }, bags := v.bags } : vault_Vault) = v from rfl, Keys_eq v _ (by rw [h.blen]; omega), if_neg (by omega), Option.bind_some]
      by_cases hk : pkeys v.bags (i : Int) = []
      · left
        rw [if_pos (by simp [hk]), if_pos (by omega)]
        refine ⟨_, rfl, w64_nat i (by omega), by omega, fun j hjj => ?_⟩
        by_cases hji : j = i
        · rw [hji]; exact hk
        · exact hj j (by omega)
      · right
        rw [if_neg (by simpa using hk)]
        exact ⟨_, rfl, i, rfl, by omega, hk⟩) (by
      rintro _ ⟨rfl, _, hj⟩
      simp only [law18_VaultFull_l8, decide_eq_true_eq]
      rw [show ({ v with l := { v.l with l := v.l.l }, bags := v.bags } : vault_Vault) = v from rfl, Keys_eq v _ (by rw [h.blen]; omega), if_neg (by omega), Option.bind_some]
      have hk : ¬ pkeys v.bags ((15 : Nat) : Int) = [] := by
        intro hk
        have key : ∀ n : Nat, n ≤ 16 → tot v.bags (n : Int) = 0 := by
          intro n
          induction n with
          | zero => intro _; exact tot_zero _
          | succ n ih =>
            intro hn
            rw [show (((n + 1 : Nat)) : Int) = (n : Int) + 1 by omega, tot_succ _ _ (by omega), ih (by omega)]
            by_cases h15 : n = 15
            · subst h15; rw [hk]; rfl
            · rw [hj n (by omega)]; rfl
        have h1 := key 16 (by omega)
        have h2 := tot_all h.ok.keys
        have h3 := h.blen
        have h4 : tot v.bags 16 = 0 := h1
        omega
      rw [if_neg (by simpa using hk)]
      exact ⟨_, rfl, 15, rfl, by omega, hk⟩)
  exact ⟨p, hp, he, hne⟩
def fresh : ByteArray := ⟨#[102, 114, 101, 115, 104]⟩
theorem fresh_ok : KeyOk fresh := by decide
theorem fresh_nm (j : Nat) : nm j ≠ fresh := by
  intro e
  have := congrArg ByteArray.size e
  rw [nm_size] at this
  exact absurd this (by decide)
theorem full_end {v : vault_Vault} (h : GI v) : law18_VaultFull_j5 v.l v.l.l v v.bags = some true := by
  obtain ⟨p, hp, hl, hne⟩ := first_loop h
  simp only [law18_VaultFull_j5, hl, Option.bind_some, law18_VaultFull_j7]
  rw [show ({ v with l := { v.l with l := v.l.l }, bags := v.bags } : vault_Vault) = v from rfl, Keys_eq v _ (by rw [h.blen]; omega), if_neg (by omega), Option.bind_some, Put_eq h.ok, Option.bind_some]
  rw [show (Vector.replicate 8 (0 : Int)) = zc from rfl, show ((⟨#[102, 114, 101, 115, 104]⟩ : ByteArray)) = fresh from rfl]
  have hnone : mget v.bags fresh = none := by
    rw [mget_none]
    intro q hq e
    have : q.1 ∈ nms 200 := h.keys ▸ List.mem_map.2 ⟨q, hq, rfl⟩
    obtain ⟨j, _, he⟩ := nms_mem.1 this
    exact fresh_nm j (he.trans e)
  have hp1 : vput v 0 fresh zc ⟨#[120]⟩ = (Dot.z, 5, v) := by
    unfold vput
    rw [if_neg (not_not_intro ⟨by omega, fresh_ok⟩), if_neg (by rw [h.dots]; omega), if_pos ⟨hnone, by rw [h.blen]; omega⟩]
  rw [hp1]
  simp only
  rw [Drop_eq h.ok (by rw [h.blen]; omega), Option.bind_some]
  have hlf : ¬ lfull v := by unfold lfull; have := h.room; have := h.len; omega
  have hd : vdrop v (p : Int) = (0, { v with l := lput v { Deed.z with Kind := 4, Part := (p : Int) }, bags := mdrop v.bags (p : Int) }) := by
    unfold vdrop
    rw [if_neg (not_not_intro (by omega)), if_neg hne, if_neg hlf]
  have hok := vdrop_ok h.ok (p : Int)
  rw [hd] at hok ⊢
  simp only at hok ⊢
  rw [Put_eq hok, Option.bind_some]
  have hml := mdrop_len v.bags (p : Int)
  have hpl : 0 < (pkeys v.bags (p : Int)).length := List.length_pos_iff.2 hne
  have hbl := h.blen
  have hn2 : mget (mdrop v.bags (p : Int)) fresh = none := by
    rw [mget_none] at hnone ⊢
    intro q hq
    exact hnone q (List.mem_filter.1 hq).1
  have hgo := vput_go hok fresh ⟨#[120]⟩ fresh_ok (fun _ => by show (mdrop v.bags (p : Int)).length < 200; omega) (by show v.dots < _; rw [h.dots]; omega) (by unfold lfull lput; simp only [List.length_append, List.length_singleton]; have := h.room; have := h.len; omega) (by decide)
    (by show cat ((mget (mdrop v.bags (p : Int)) fresh).getD Bag.z).Known 0 ≤ v.dots; rw [hn2, h.dots]; show cat Bag.z.Known 0 ≤ _; rw [Bag_z_small.1]; omega) (by show ((mget (mdrop v.bags (p : Int)) fresh).getD Bag.z).Values.length ≤ 31; rw [hn2]; decide)
  rw [hgo]
  simp only [decide_eq_true_eq, if_true, awake18, Option.bind_some]
  rw [if_pos (by omega)]
theorem full_mid {v : vault_Vault} (h : FI 200 v) (hd : v.dots = 200) (hl : v.l.l.length = 200) (b : Bool) : law18_VaultFull_j4 b v.l v.l.l v v.bags = some true := by
  obtain ⟨b0, hb0, hs0, hk0⟩ := h.some (j := 0) (by omega)
  have hlf : ¬ lfull v := by unfold lfull; have := h.room; omega
  have hgo := vput_go h.ok (nm 0) ⟨#[121]⟩ (nm_ok 0) (fun hn => by rw [hb0] at hn; cases hn) (by omega) hlf (by decide) (by rw [hb0]; exact hk0) (by rw [hb0]; show b0.Values.length ≤ 31; omega)
  have hok := vput_ok h.ok 0 (nm 0) zc ⟨#[121]⟩
  obtain ⟨v1, hv1⟩ : ∃ v1, v1 = (vput v 0 (nm 0) zc ⟨#[121]⟩).2.2 := ⟨_, rfl⟩
  have hgo' : vput v 0 (nm 0) zc ⟨#[121]⟩ = (⟨0, 201⟩, 0, v1) := by rw [hv1, hgo, hd]; rfl
  rw [← hv1] at hok
  have hG : GI v1 := by
    refine ⟨hok, ?_, ?_, ?_, ?_⟩ <;> rw [hv1, hgo]
    · exact h.room
    · show (mput v.bags (nm 0) _).map (·.1) = _
      rw [mput_keys, hb0]; exact h.keys
    · show v.dots + 1 = 201; omega
    · show (v.l.l ++ [_]).length ≤ 202; simp; omega
  have hb1 : ∃ b1, mget v1.bags (nm 1) = some b1 ∧ b1.Values.length ≤ 2 := by
    obtain ⟨b1, h1, h2, _⟩ := h.some (j := 1) (by omega)
    refine ⟨b1, ?_, h2⟩
    rw [hv1, hgo]
    show mget (mput v.bags (nm 0) _) (nm 1) = _
    rw [mget_mput h.ok.nod, if_neg (fun e => by have := nm_inj (by omega) (by omega) e; omega), h1]
  simp only [law18_VaultFull_j4]
  rw [show ((0 : Int)) = ((0 : Nat) : Int) from rfl, named_eq 0 (by omega), Option.bind_some, show ({ v with l := { v.l with l := v.l.l }, bags := v.bags } : vault_Vault) = v from rfl]
  rw [show (((0 : Nat) : Int)) = 0 from rfl, Put_eq h.ok, Option.bind_some, show (Vector.replicate 8 (0 : Int)) = zc from rfl, hgo']
  simp only [ne_eq, not_true_eq_false, decide_false, Bool.false_eq_true, if_false]
  cases b with
  | false => simp only [Bool.false_eq_true, if_false, andThen_inl]; exact full_end hG
  | true =>
    simp only [if_true]
    rw [show ((1 : Int)) = ((1 : Nat) : Int) from rfl, named_eq 1 (by omega), Option.bind_some, show ({ Bag.z with Known := (⟨#[0, 5, 0, 0, 0, 0, 0, 0], rfl⟩ : Vector Int 8) } : Bag) = kn5 from rfl, Merge_eq hok _ _ (by decide), Option.bind_some]
    obtain ⟨b1, hb1, hs1⟩ := hb1
    have hok2 := vmerge_ok hok (nm 1) kn5
    have hlf1 : ¬ lfull v1 := by unfold lfull; have := hG.room; have := hG.len; omega
    have hjl : ¬ 32 < (bjoin b1 kn5).Values.length := by
      have := jfold_len (bstay kn5 b1) (bstay b1 kn5)
      have := bstay_len kn5 b1
      have := bstay_len b1 kn5
      have h0 : kn5.Values.length = 0 := rfl
      show ¬ 32 < ((bstay kn5 b1).foldl jstep (bstay b1 kn5)).length
      omega
    obtain ⟨v2, hv2, hG2⟩ : ∃ v2, vmerge v1 (nm 1) kn5 = (0, v2) ∧ GI v2 := by
      unfold vmerge at hok2 ⊢
      rw [if_neg (not_not_intro ⟨nm_ok 1, kn5_ok⟩), hb1, if_neg (by rintro ⟨h1, _⟩; cases h1)] at hok2 ⊢
      simp only [Option.getD_some] at hok2 ⊢
      rw [if_neg hjl] at hok2 ⊢
      by_cases c7 : bbelow kn5 b1
      · rw [if_pos c7]; exact ⟨v1, rfl, hG⟩
      · rw [if_neg c7, if_neg hlf1] at hok2 ⊢
        refine ⟨_, rfl, hok2, hG.room, ?_, hG.dots, ?_⟩
        · show (mput v1.bags (nm 1) _).map (·.1) = _
          rw [mput_keys, hb1]; exact hG.keys
        · show (v1.l.l ++ [_]).length ≤ 202
          have : v1.l.l.length = 201 := by rw [hv1, hgo]; show (v.l.l ++ [_]).length = 201; simp; omega
          simp; omega
    rw [hv2]
    simp only [not_true_eq_false, decide_false, Bool.false_eq_true, if_false, andThen_inl]
    exact full_end hG2
theorem VaultFull_law (a : Int) (b : Bool) : law18_VaultFull a b = some true := by
  unfold law18_VaultFull
  rw [New_eq 3000 (by omega), Option.bind_some, Open_new, Option.bind_some]
  obtain ⟨v, hv, hI, hd, hl⟩ := fill_loop
  simp only
  rw [show loopN law18_VaultFull_l10 FUEL ({ ledger_Ledger.z with room_ := 3000 }, ({ ledger_Ledger.z with room_ := 3000 } : ledger_Ledger).l, v0 3000, (v0 3000).bags, 0) = some (.inl (v.l, v.l.l, v, v.bags)) from hv, andThen_inl]
  simp only [law18_VaultFull_j2]
  rw [show loopN (law18_VaultFull_l9 a) FUEL ({ v.l with l := v.l.l }, v.l.l, v, v.bags, 0) = some (.inl (v.l, v.l.l, v, v.bags)) from more_loop hI hd a, andThen_inl]
  exact full_mid hI hd hl b
theorem VaultFull_true (a : Int) (b : Bool) (_ : (Lit.int .i64 a).wf = true) : law18_VaultFull a b = some true := VaultFull_law a b
end Go.S

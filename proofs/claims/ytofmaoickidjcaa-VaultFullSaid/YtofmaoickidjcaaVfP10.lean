/- A part of the proof: P10 (for the law Vf). -/
import Derived.Test.YtofmaoickidjcaaVfP8
import Derived.Test.YtofmaoickidjcaaVfP9
set_option linter.all false
namespace Go.S
open Go Go.Sx
/-! ## VaultFull -/
def zc : Clk := Vector.replicate 8 (0 : Int)
theorem cat_zc (i : Int) : cat zc i = 0 := by unfold cat zc; split <;> simp
theorem cok_zc : cok zc := cok_of fun i _ => by rw [cat_zc]; omega
theorem newer_zc {l : List Val} (h : ∀ v ∈ l, 1 ≤ v.Dot.N) : newer l zc = l := by
  unfold newer
  rw [List.filter_eq_self]
  intro v hv
  have := h v hv
  simp only [Bool.not_eq_true', decide_eq_false_iff_not]
  rintro ⟨_, h1, h2⟩
  rw [cat_zc] at h2; omega
/-- a Put of node 0 with nothing known -/
theorem vput_go {v : vault_Vault} (h : VOk v) (key data : ByteArray) (hk : KeyOk key) (hn : mget v.bags key = none → v.bags.length < 200) (hd : v.dots < 1000000) (hf : ¬ lfull v) (hs : data.size ≤ 64)
    (hc : cat ((mget v.bags key).getD Bag.z).Known 0 ≤ v.dots) (hl : ((mget v.bags key).getD Bag.z).Values.length ≤ 31) :
    vput v 0 key zc data = (⟨0, v.dots + 1⟩, 0, { v with l := lput v { Deed.z with Kind := 3, N := v.dots + 1, Key := key, Bag := bput ((mget v.bags key).getD Bag.z) zc ⟨0, v.dots + 1⟩ data }, dots := v.dots + 1, bags := mput v.bags key (bput ((mget v.bags key).getD Bag.z) zc ⟨0, v.dots + 1⟩ data) }) := by
  have hdd := h.dots
  unfold vput
  rw [if_neg (not_not_intro ⟨by omega, hk⟩), if_neg (by omega), if_neg (by rintro ⟨h1, h2⟩; have := hn h1; omega), if_neg (not_not_intro ?_), if_neg ?_, if_neg hf]
  · have := newer_len ((mget v.bags key).getD Bag.z).Values zc; omega
  · refine ⟨cok_zc, ⟨⟨by simp, by simp⟩, by simp; omega, by simp; omega⟩, ?_, hs⟩
    rintro ⟨_, _, h3⟩
    simp only at h3
    omega
def nm (i : Nat) : ByteArray := strB [((97 + i % 26 : Nat) : Int), ((97 + i / 26 : Nat) : Int)]
theorem named_eq (i : Nat) (h : i < 1000) : law18_named (i : Int) = some (nm i) := by
  have h1 : Int.tmod (i : Int) 26 = ((i % 26 : Nat) : Int) := by rw [Int.tmod_eq_emod_of_nonneg (by omega)]; omega
  have h2 : Int.tdiv (i : Int) 26 = ((i / 26 : Nat) : Int) := by rw [Int.tdiv_eq_ediv_of_nonneg (by omega)]; omega
  have hw : ∀ x : Int, 0 ≤ x ∧ x < 256 → IntKind.u8.wrap x = x := by
    intro x hx
    have : IntKind.u8.wrap x = x % 256 := by unfold IntKind.wrap; simp [IntKind.bits, IntKind.signed]
    rw [this]; omega
  simp only [law18_named, h1, h2, nm]
  rw [IntWalk.i64_in _ (by omega), w64_small (by omega), w64_small (by omega), hw _ (by omega), hw _ (by omega)]
  simp
theorem nm_data (i : Nat) : (nm i).data.toList = [UInt8.ofNat (97 + i % 26), UInt8.ofNat (97 + i / 26)] := by
  have : nm i = (ByteArray.empty.push (UInt8.ofNat (97 + i % 26))).push (UInt8.ofNat (97 + i / 26)) := rfl
  rw [this]; rfl
theorem nm_size (i : Nat) : (nm i).size = 2 := by
  have := congrArg List.length (nm_data i)
  simpa using this
theorem nm_ok (i : Nat) : KeyOk (nm i) := by unfold KeyOk; rw [nm_size]; omega
theorem u8_inj {a b : Nat} (ha : a < 256) (hb : b < 256) (h : UInt8.ofNat a = UInt8.ofNat b) : a = b := by
  have := congrArg UInt8.toNat h
  simp only [UInt8.toNat_ofNat'] at this
  omega
theorem nm_inj {i j : Nat} (hi : i < 1000) (hj : j < 1000) (h : nm i = nm j) : i = j := by
  have h1 := congrArg (fun b => b.data.toList) h
  simp only [nm_data, List.cons.injEq, and_true] at h1
  have h2 := u8_inj (by omega) (by omega) h1.1
  have h3 := u8_inj (by omega) (by omega) h1.2
  omega
def nms (i : Nat) : List ByteArray := (List.range i).map nm
theorem nms_mem {i : Nat} {k : ByteArray} : k ∈ nms i ↔ ∃ j, j < i ∧ nm j = k := by simp [nms]
structure FI (n : Nat) (v : vault_Vault) : Prop where
  ok : VOk v
  room : v.l.room_ = 3000
  keys : v.bags.map (·.1) = nms n
  small : ∀ q ∈ v.bags, q.2.Values.length ≤ 2 ∧ cat q.2.Known 0 ≤ v.dots
theorem FI.len {n : Nat} {v : vault_Vault} (h : FI n v) : v.bags.length = n := by
  have := congrArg List.length h.keys
  simpa [nms] using this
theorem FI.none {n : Nat} {v : vault_Vault} (h : FI n v) {k : ByteArray} (hk : ∀ j, j < n → nm j ≠ k) : mget v.bags k = .none := by
  rw [mget_none]
  intro p hp e
  have : p.1 ∈ nms n := h.keys ▸ List.mem_map.2 ⟨p, hp, rfl⟩
  obtain ⟨j, hj, he⟩ := nms_mem.1 this
  exact hk j hj (he.trans e)
theorem FI.some {n : Nat} {v : vault_Vault} (h : FI n v) {j : Nat} (hj : j < n) : ∃ b, mget v.bags (nm j) = .some b ∧ b.Values.length ≤ 2 ∧ cat b.Known 0 ≤ v.dots := by
  have : nm j ∈ v.bags.map (·.1) := h.keys ▸ nms_mem.2 ⟨j, hj, rfl⟩
  obtain ⟨q, hq, he⟩ := List.mem_map.1 this
  refine ⟨q.2, mget_of h.ok.nod (by rw [← he]; exact hq), h.small q hq⟩
theorem bput_small (b : Bag) (d : Dot) (data : ByteArray) (hd : d.Node = 0) : (bput b zc d data).Values.length ≤ b.Values.length + 1 ∧ cat (bput b zc d data).Known 0 = max (max (cat b.Known 0) 0) d.N := by
  refine ⟨?_, ?_⟩
  · show (insV _ _).length ≤ _
    rw [insV_len]; have := newer_len b.Values zc; omega
  · show cat (cwith (cjoin b.Known zc) d) 0 = _
    rw [cat_cwith _ _ _ (by omega), if_pos hd.symm, cat_cjoin _ _ _ (by omega), cat_zc]
theorem Bag_z_small : cat Bag.z.Known 0 = 0 ∧ Bag.z.Values.length = 0 := ⟨rfl, rfl⟩
theorem full_fill {n : Nat} {v : vault_Vault} (h : FI n v) (hn : n < 200) (hd : v.dots = n) (hl : v.l.l.length = n) : ∃ v', vput v 0 (nm n) zc ⟨#[120]⟩ = (⟨0, (n : Int) + 1⟩, 0, v') ∧ FI (n + 1) v' ∧ v'.dots = (n + 1 : Nat) ∧ v'.l.l.length = n + 1 := by
  have hnone := h.none (k := nm n) (fun j hj e => by have := nm_inj (by omega) (by omega) e; omega)
  have hgo := vput_go h.ok (nm n) ⟨#[120]⟩ (nm_ok n) (fun _ => by rw [h.len]; exact hn) (by omega) (by unfold lfull; have := h.room; omega) (by decide) (by rw [hnone]; show cat Bag.z.Known 0 ≤ _; rw [Bag_z_small.1]; omega) (by rw [hnone]; show Bag.z.Values.length ≤ _; rw [Bag_z_small.2]; omega)
  have hok := vput_ok h.ok 0 (nm n) zc ⟨#[120]⟩
  rw [hgo] at hok
  rw [hgo, hnone, hd]
  rw [hnone, hd] at hok
  refine ⟨_, rfl, ⟨hok, h.room, ?_, ?_⟩, by simp, by simp [lput, hl]⟩
  · show (mput v.bags (nm n) _).map (·.1) = _
    rw [mput_keys, hnone, h.keys]
    simp [nms, List.range_succ]
  · intro q hq
    rcases (mput_mem h.ok.nod).1 hq with rfl | ⟨hq, _⟩
    · obtain ⟨k1, k2⟩ := bput_small Bag.z ⟨0, (n : Int) + 1⟩ ⟨#[120]⟩ rfl
      refine ⟨Nat.le_trans k1 (by rw [Bag_z_small.2]; omega), ?_⟩
      show cat (bput Bag.z zc ⟨0, (n : Int) + 1⟩ ⟨#[120]⟩).Known 0 ≤ (n : Int) + 1
      rw [k2, Bag_z_small.1]; simp only; omega
    · have := h.small q hq
      refine ⟨this.1, ?_⟩
      show cat q.2.Known 0 ≤ (n : Int) + 1
      omega
theorem fill_loop : ∃ v, loopN law18_VaultFull_l10 FUEL ((v0 3000).l, (v0 3000).l.l, v0 3000, (v0 3000).bags, 0) = some (.inl (v.l, v.l.l, v, v.bags)) ∧ FI 200 v ∧ v.dots = 200 ∧ v.l.l.length = 200 := by
  obtain ⟨e, he, v, rfl, h⟩ := loopN_ind (f := law18_VaultFull_l10) (s0 := ((v0 3000).l, (v0 3000).l.l, v0 3000, (v0 3000).bags, (0 : Int)))
    (fun i st => ∃ v, st = (v.l, v.l.l, v, v.bags, (i : Int)) ∧ i ≤ 200 ∧ FI i v ∧ v.dots = (i : Int) ∧ v.l.l.length = i)
    (fun e => ∃ v, e = .inl (v.l, v.l.l, v, v.bags) ∧ FI 200 v ∧ v.dots = 200 ∧ v.l.l.length = 200) 200
    ⟨v0 3000, rfl, by omega, ⟨v0_ok 3000 (by omega), rfl, rfl, (fun _ h => by cases h)⟩, rfl, rfl⟩ (FUEL_big (by omega)) (by
      rintro i _ hi ⟨v, rfl, _, hI, hd, hl⟩
      left
      obtain ⟨v', hv', h1, h2, h3⟩ := full_fill hI hi hd hl
      simp only [law18_VaultFull_l10, decide_eq_true_eq]
      rw [if_pos (by omega), named_eq i (by omega), Option.bind_some, show ({ v with l := { v.l with l := v.l.l }, bags := v.bags } : vault_Vault) = v from rfl, Put_eq hI.ok, Option.bind_some]
      rw [show (Vector.replicate 8 (0 : Int)) = zc from rfl, hv']
      simp only [ne_eq, not_true_eq_false, if_false]
      exact ⟨_, rfl, v', by rw [w64_nat i (by omega)], by omega, h1, h2, h3⟩) (by
      rintro _ ⟨v, rfl, _, hI, hd, hl⟩
      simp only [law18_VaultFull_l10, decide_eq_true_eq]
      rw [if_neg (by omega)]
      exact ⟨_, rfl, v, rfl, hI, hd, hl⟩)
  exact ⟨v, he, h⟩
end Go.S

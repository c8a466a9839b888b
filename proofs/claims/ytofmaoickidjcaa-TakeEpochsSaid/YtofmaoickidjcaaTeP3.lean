/- A part of the proof: P3 (for the law Te). -/
import Derived.Test.YtofmaoickidjcaaTeP2
set_option linter.all false
namespace Go.S
open Go Go.Sx
set_option maxRecDepth 100000
theorem awake21 : law21_awake = some true := by kernel_rfl
theorem FirstRing0 : ref7_FirstRing 0 = some ({ Status := (Vector.replicate 8 (0 : Int)).set 0 2, Plan := Plan.z, Parts := Vector.replicate 16 ⟨1, 0⟩ }, true) := by kernel_rfl
theorem New9 : ledger_New 9 = some ⟨[], 0, 9⟩ := by kernel_rfl
theorem Open9 : vault_Open ⟨[], 0, 9⟩ = some (⟨⟨[], 0, 9⟩, 0, Ring.z, 0, 0, []⟩, ⟨[], 0, 9⟩) := by kernel_rfl
theorem bag_facts (F : Int) (h : 0 ≤ F ∧ F < 7) : ∃ b : Bag, ref7_PutBag Bag.z (Vector.replicate 8 (0 : Int)) ⟨F, 1⟩ ⟨#[120]⟩ = some (b, 0) ∧ bag_May b = some true ∧ bag_Join Bag.z b = some (b, 0) ∧ bag_Below b Bag.z = some false ∧ b.Values.length ≤ 10 := by
  have : F = 0 ∨ F = 1 ∨ F = 2 ∨ F = 3 ∨ F = 4 ∨ F = 5 ∨ F = 6 := by omega
  rcases this with rfl | rfl | rfl | rfl | rfl | rfl | rfl
  · exact ⟨⟨(Vector.replicate 8 (0 : Int)).set 0 1, [⟨⟨0, 1⟩, ⟨#[120]⟩⟩]⟩, by kernel_rfl, by kernel_rfl, by kernel_rfl, by kernel_rfl, by decide⟩
  · exact ⟨⟨(Vector.replicate 8 (0 : Int)).set 1 1, [⟨⟨1, 1⟩, ⟨#[120]⟩⟩]⟩, by kernel_rfl, by kernel_rfl, by kernel_rfl, by kernel_rfl, by decide⟩
  · exact ⟨⟨(Vector.replicate 8 (0 : Int)).set 2 1, [⟨⟨2, 1⟩, ⟨#[120]⟩⟩]⟩, by kernel_rfl, by kernel_rfl, by kernel_rfl, by kernel_rfl, by decide⟩
  · exact ⟨⟨(Vector.replicate 8 (0 : Int)).set 3 1, [⟨⟨3, 1⟩, ⟨#[120]⟩⟩]⟩, by kernel_rfl, by kernel_rfl, by kernel_rfl, by kernel_rfl, by decide⟩
  · exact ⟨⟨(Vector.replicate 8 (0 : Int)).set 4 1, [⟨⟨4, 1⟩, ⟨#[120]⟩⟩]⟩, by kernel_rfl, by kernel_rfl, by kernel_rfl, by kernel_rfl, by decide⟩
  · exact ⟨⟨(Vector.replicate 8 (0 : Int)).set 5 1, [⟨⟨5, 1⟩, ⟨#[120]⟩⟩]⟩, by kernel_rfl, by kernel_rfl, by kernel_rfl, by kernel_rfl, by decide⟩
  · exact ⟨⟨(Vector.replicate 8 (0 : Int)).set 6 1, [⟨⟨6, 1⟩, ⟨#[120]⟩⟩]⟩, by kernel_rfl, by kernel_rfl, by kernel_rfl, by kernel_rfl, by decide⟩
def rg (p : Nat) (hp : p < 16) (N O : Int) : Ring := { Status := (Vector.replicate 8 (0 : Int)).set 0 2, Plan := Plan.z, Parts := (Vector.replicate 16 (⟨1, 0⟩ : Entry)).set p ⟨N, O⟩ hp }
theorem rg_ok (p : Nat) (hp : p < 16) (N O : Int) (hN : 1 ≤ N ∧ N ≤ 1000000) (hO : 0 ≤ O ∧ O < 8) : RingOk (rg p hp N O) := by
  refine ⟨?_, .inl ⟨rfl, rfl, rfl⟩, ?_⟩
  · intro i hi
    simp only [rg, Vector.getElem_set, Vector.getElem_replicate]
    split <;> omega
  · intro i hi
    simp only [rg, Vector.getElem_set, Vector.getElem_replicate]
    split
    · exact .inr ⟨hN.1, hN.2, hO.1, hO.2⟩
    · exact .inr (by decide)
theorem old_eq (m : Msg) (v : vault_Vault) (b : Bool) (hl : v.ring.Plan.Targets.length ≤ 1000000000000) (h : v.rings ≠ 0) (hm : take_May m v.ring = some b) : take_old m v = some (if b then 0 else 11) := by
  simp only [take_old, Ring_ok v hl h, Option.bind_some, Bool.not_true, Bool.false_eq_true, if_false, hm]
  cases b <;> rfl
theorem j2_true (a1 : ByteArray) (a3 a5 p F E : Int) (b : Bag) (r : Ring) (d : Deed) (want : Bool) (hk : KeyOk a1) (hp : spot_Of a1 = some p) (hp0 : 0 ≤ p) (hpn : p.toNat < 16)
    (hF : IntKind.i64.wrap (Int.tmod (IntKind.u64.wrap a5) 7) = F) (hE : IntKind.i64.wrap (Int.tmod (IntKind.u64.wrap a3) 12) = E) (hF0 : 0 ≤ F) (hF1 : F < 7)
    (hb2 : bag_May b = some true) (hb3 : bag_Join Bag.z b = some (b, 0)) (hb4 : bag_Below b Bag.z = some false) (hb5 : b.Values.length ≤ 10)
    (hrl : r.Plan.Targets.length ≤ 1000000000000) (hrok : RingOk r) (hw : decide (r.Parts[p.toNat].Epoch < E ∨ (E = r.Parts[p.toNat].Epoch ∧ rowner r p = F)) = want) :
    law21_TakeEpochs_j2 a5 p a3 a1 b ⟨⟨[d], 0, 9⟩, 0, r, 1, 0, []⟩ want = some true := by
  unfold law21_TakeEpochs_j2
  rw [hF, hE]
  have hM5 : ∀ (m : Msg), m.Kind = 5 ∨ m.Kind = 7 → m.From = F → m.To = 7 → m.Part = p → m.Epoch = E → take_May m r = some want := by
    intro m h1 h2 h3 h4 h5
    have := take_May_eq m r h1 (by omega) (by omega) (by rw [h4]; exact ⟨hp0, hpn⟩) (by omega) hrl hrok
    rw [this, ← hw]
    subst h4
    simp only [h2, h5]
  have hpl : ∀ (m : Msg), m.From = F → m.To = 7 → m.Part = p → take_placed m = some true := by
    intro m h1 h2 h3
    rw [placed_eq]; congr 1; rw [decide_eq_true_iff]; omega
  cases want with
  | false =>
    have g1 : ∀ (m : Msg) (v : vault_Vault), m.Kind = 5 → m.From = F → m.To = 7 → m.Part = p → m.Epoch = E → m.Key = a1 → v.ring = r → v.rings = 1 → take_Give m v = some (Msg.z, 11, v) := by
      intro m v h1 h2 h3 h4 h5 h6 h7 h8
      have ho := old_eq m v false (by rw [h7]; exact hrl) (by rw [h8]; decide) (by rw [h7]; exact hM5 m (.inl h1) h2 h3 h4 h5)
      simp only [take_Give, h1, ne_eq, not_true_eq_false, decide_false, Bool.false_eq_true, if_false, hpl m h2 h3 h4, Option.bind_some, Bool.not_true, h6, hp, h4, take_Give_j1, ho]
      rfl
    have g2 : ∀ (m : Msg) (v : vault_Vault), m.Kind = 7 → m.From = F → m.To = 7 → m.Part = p → m.Epoch = E → v.ring = r → v.rings = 1 → take_End m v = some (Msg.z, 11, v) := by
      intro m v h1 h2 h3 h4 h5 h7 h8
      have ho := old_eq m v false (by rw [h7]; exact hrl) (by rw [h8]; decide) (by rw [h7]; exact hM5 m (.inr h1) h2 h3 h4 h5)
      simp only [take_End, h1, ne_eq, not_true_eq_false, decide_false, Bool.false_eq_true, if_false, hpl m h2 h3 h4, Option.bind_some, Bool.not_true, take_End_j1, ho]
      rfl
    rw [g1 _ _ rfl rfl rfl rfl rfl rfl rfl rfl, Option.bind_some]
    simp only
    rw [g2 _ _ rfl rfl rfl rfl rfl rfl rfl, Option.bind_some]
    simp only [Bool.not_false, if_true, decide_true]
    have hbag : vault_Vault_Bag ⟨⟨[d], 0, 9⟩, 0, r, 1, 0, []⟩ a1 = some Bag.z := by
      simp only [vault_Vault_Bag]
      rw [show (mget ([] : List (ByteArray × Bag)) a1).getD Bag.z = Bag.z from rfl, vault_copied_eq _ (by decide)]; rfl
    rw [hbag, Option.bind_some, bag_Same_eq _ _ (by decide)]
    simp [awake21, law21_TakeEpochs_j3]
  | true =>
    obtain ⟨d2, hd2⟩ : ∃ d2, d2 = ({ Deed.z with Kind := 3, N := 0, Key := a1, Bag := b } : Deed) := ⟨_, rfl⟩
    have hmerge : vault_Vault_Merge ⟨⟨[d], 0, 9⟩, 0, r, 1, 0, []⟩ a1 b = some (0, ⟨⟨[d, d2], 0, 9⟩, 0, r, 1, 0, [(a1, b)]⟩) := by
      simp only [vault_Vault_Merge, spot_May_eq, hk, decide_true, Option.bind_some, Bool.not_true, Bool.false_eq_true, if_false, hb2, vault_Vault_Merge_j2]
      have hfull : vault_Vault_full ⟨⟨[d], 0, 9⟩, 0, r, 1, 0, []⟩ a1 = some false := rfl
      rw [hfull, Option.bind_some]
      simp only [Bool.false_eq_true, if_false]
      rw [show (mget ([] : List (ByteArray × Bag)) a1).getD Bag.z = Bag.z from rfl, hb3, Option.bind_some]
      simp only [ne_eq, not_true_eq_false, decide_false, Bool.false_eq_true, if_false, hb4, Option.bind_some, vault_Vault_Merge_j3]
      rw [write_bag _ 0 a1 b hk (by omega) hb2 (by decide) (by simp), hd2]
      rfl
    have g1 : ∀ (m : Msg), m.Kind = 5 → m.From = F → m.To = 7 → m.Part = p → m.Epoch = E → m.Key = a1 → m.Bag = b → ∃ x, take_Give m ⟨⟨[d], 0, 9⟩, 0, r, 1, 0, []⟩ = some (x, 0, ⟨⟨[d, d2], 2, 9⟩, 0, r, 1, 0, [(a1, b)]⟩) ∧ x.Kind = 6 ∧ x.To = F := by
      intro m h1 h2 h3 h4 h5 h6 h7
      have ho := old_eq m ⟨⟨[d], 0, 9⟩, 0, r, 1, 0, []⟩ true hrl (by show (1 : Int) ≠ 0; decide) (hM5 m (.inl h1) h2 h3 h4 h5)
      simp only [take_Give, h1, ne_eq, not_true_eq_false, decide_false, Bool.false_eq_true, if_false, hpl m h2 h3 h4, Option.bind_some, Bool.not_true, h6, hp, h4, take_Give_j1, ho, if_true, h7]
      rw [hmerge, Option.bind_some]
      simp only [not_true_eq_false, decide_false, Bool.false_eq_true, if_false, Sync_eq, Option.bind_some, take_back, cloneV_eq _ (show b.Values.length ≤ 1000000000 by omega)]
      exact ⟨_, rfl, rfl, h2⟩
    have g2 : ∀ (m : Msg) (v : vault_Vault), m.Kind = 7 → m.From = F → m.To = 7 → m.Part = p → m.Epoch = E → v.ring = r → v.rings = 1 → ∃ x, take_End m v = some (x, 0, { v with l := { v.l with sure := (v.l.l.length : Int) } }) := by
      intro m v h1 h2 h3 h4 h5 h7 h8
      have ho := old_eq m v true (by rw [h7]; exact hrl) (by rw [h8]; decide) (by rw [h7]; exact hM5 m (.inr h1) h2 h3 h4 h5)
      simp only [take_End, h1, ne_eq, not_true_eq_false, decide_false, Bool.false_eq_true, if_false, hpl m h2 h3 h4, Option.bind_some, Bool.not_true, take_End_j1, ho, if_true, Sync_eq, take_back]
      exact ⟨_, rfl⟩
    obtain ⟨x, hx, hx1, hx2⟩ := g1 ({ Msg.z with Kind := 5, From := F, To := 7, Seq := 1, Part := p, Epoch := E, Key := a1, Bag := b }) rfl rfl rfl rfl rfl rfl rfl
    rw [hx, Option.bind_some]
    simp only
    obtain ⟨y, hy⟩ := g2 ({ Msg.z with Kind := 7, From := F, To := 7, Seq := 1, Part := p, Epoch := E, Key := a1, Bag := b }) ⟨⟨[d, d2], 2, 9⟩, 0, r, 1, 0, [(a1, b)]⟩ rfl rfl rfl rfl rfl rfl rfl
    rw [hy, Option.bind_some]
    simp only [Bool.not_true, Bool.false_eq_true, if_false, decide_true, if_true]
    have hbag : ∀ v : vault_Vault, v.bags = [(a1, b)] → vault_Vault_Bag v a1 = some b := by
      intro v hv
      simp only [vault_Vault_Bag, hv]
      rw [show (mget [(a1, b)] a1).getD Bag.z = b by simp [mget], vault_copied_eq _ (by omega)]; rfl
    rw [hbag _ rfl, Option.bind_some, bag_Same_eq _ _ (by omega)]
    simp [awake21, hx1, hx2]
theorem TakeEpochs_true (a1 : ByteArray) (a2 a3 a4 a5 : Int) (w1 : a1.size ≤ 140737488351232) (w2 : (Lit.int .i64 a2).wf = true) (w3 : (Lit.int .i64 a3).wf = true) (w4 : (Lit.int .i64 a4).wf = true) (w5 : (Lit.int .i64 a5).wf = true) : law21_TakeEpochs a1 a2 a3 a4 a5 = some true := by
  clear w1 w2 w3 w4 w5
  unfold law21_TakeEpochs
  rw [spot_May_eq, Option.bind_some]
  by_cases hk : KeyOk a1
  case neg => simp [hk, awake21]
  obtain ⟨p, hp, hp0, hp1⟩ := spot_Of_eq a1 hk
  have hpn : p.toNat < 16 := by omega
  obtain ⟨hN0, hN1⟩ := mod_bound a2 9 (by omega)
  obtain ⟨hE0, hE1⟩ := mod_bound a3 12 (by omega)
  obtain ⟨hO0, hO1⟩ := mod_bound a4 7 (by omega)
  obtain ⟨hF0, hF1⟩ := mod_bound a5 7 (by omega)
  simp only [hk, decide_true, Bool.not_true, Bool.false_eq_true, if_false, FirstRing0, Option.bind_some, Spot_eq, hp, decide_eq_true_eq]
  rw [if_neg (by omega)]
  simp only [ne_eq, not_true_eq_false, decide_false, Option.bind_some, law21_TakeEpochs_j1, Bool.false_eq_true, if_false]
  revert hN0 hN1 hE0 hE1 hO0 hO1 hF0 hF1
  generalize IntKind.i64.wrap (Int.tmod (IntKind.u64.wrap a2) 9) = N
  generalize hE : IntKind.i64.wrap (Int.tmod (IntKind.u64.wrap a3) 12) = E
  generalize IntKind.i64.wrap (Int.tmod (IntKind.u64.wrap a4) 7) = O
  generalize hF : IntKind.i64.wrap (Int.tmod (IntKind.u64.wrap a5) 7) = F
  intro hN0 hN1 hE0 hE1 hO0 hO1 hF0 hF1
  rw [aset_int _ _ _ hp0 hpn, Option.bind_some]
  obtain ⟨b, hb1, hb2, hb3, hb4, hb5⟩ := bag_facts F ⟨hF0, hF1⟩
  rw [hb1, Option.bind_some]
  rw [New9, Option.bind_some, Open9, Option.bind_some]
  rw [show w64 (1 + N) = 1 + N from w64_small (by omega)]
  have hring : ({ Status := (Vector.replicate 8 (0 : Int)).set 0 2, Plan := Plan.z, Parts := (Vector.replicate 16 (⟨1, 0⟩ : Entry)).set p.toNat ⟨1 + N, O⟩ hpn } : Ring) = rg p.toNat hpn (1 + N) O := rfl
  have hrok := rg_ok p.toNat hpn (1 + N) O (by omega) (by omega)
  simp only [hring]
  generalize hr : rg p.toNat hpn (1 + N) O = r at hrok
  have hrl : r.Plan.Targets.length ≤ 1000000000000 := by rw [← hr]; exact Nat.zero_le _
  have hrp : r.Parts[p.toNat] = ⟨1 + N, O⟩ := by rw [← hr]; simp [rg]
  rw [SetRing_ok _ r hrl hrok (by decide), Option.bind_some]
  have how : rowner r p = O := by
    unfold rowner
    rw [dif_pos ⟨hp0, hpn⟩, hrp, if_neg]
    rintro (h | h)
    · simp only at h; omega
    · exact h (.inr ⟨by show (1 : Int) ≤ 1 + N; omega, by show 1 + N ≤ (1000000 : Int); omega, hO0, by show O < 8; omega⟩)
  have key := fun want hw => j2_true a1 a3 a5 p F E b r ({ Deed.z with Kind := 2, Ring := r }) want hk hp hp0 hpn hF hE hF0 hF1 hb2 hb3 hb4 hb5 hrl hrok hw
  rw [hrp, how] at key
  by_cases h1 : 1 + N < E
  · simp only [h1, if_true, Option.bind_some]
    exact key true (by simp [h1])
  · simp only [h1, if_false]
    by_cases h2 : E = 1 + N
    · simp only [h2, if_true, Option.bind_some]
      exact key _ (by apply decide_beq; show (1 + N < E ∨ (E = 1 + N ∧ O = F)) ↔ F = O; omega)
    · simp only [h2, if_false, Option.bind_some]
      exact key false (by simp [h1, h2])
end Go.S

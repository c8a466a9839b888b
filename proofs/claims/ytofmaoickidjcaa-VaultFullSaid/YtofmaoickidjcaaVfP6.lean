/- A part of the proof: P6 (for the law Vf). -/
import Derived.Test.YtofmaoickidjcaaVfP5
set_option linter.all false
namespace Go.S
open Go Go.Sx
/-! ## maps -/
section
variable {κ β : Type} [DecidableEq κ]
def mnod (m : List (κ × β)) : Prop := (m.map (·.1)).Nodup
theorem mfind_mem {m : List (κ × β)} {k : κ} {i : Nat} (h : mfind m k = some i) : ∃ v, m[i]? = some (k, v) := (mfind_some h).imp fun _ h => h.1
omit [DecidableEq κ] in
theorem mnod_eq {m : List (κ × β)} (hn : mnod m) {p q : κ × β} (hp : p ∈ m) (hq : q ∈ m) (h : p.1 = q.1) : p = q := by
  obtain ⟨i, hi, rfl⟩ := List.getElem_of_mem hp
  obtain ⟨j, hj, rfl⟩ := List.getElem_of_mem hq
  have h1 : (m.map (·.1))[i]'(by simpa using hi) = (m.map (·.1))[j]'(by simpa using hj) := by simpa using h
  have := nodup_inj hn h1
  subst this; rfl
theorem mget_mem {m : List (κ × β)} {k : κ} {v : β} (h : mget m k = some v) : (k, v) ∈ m := by
  unfold mget at h
  rw [Option.map_eq_some_iff] at h
  obtain ⟨⟨k', v'⟩, h1, rfl⟩ := h
  have h2 := List.find?_some h1
  have h3 : k' = k := by simpa using h2
  subst h3
  exact List.mem_of_find?_eq_some h1
theorem mget_of {m : List (κ × β)} (hn : mnod m) {k : κ} {v : β} (h : (k, v) ∈ m) : mget m k = some v := by
  cases hg : mget m k with
  | some v' => have e : v' = v := congrArg Prod.snd (mnod_eq hn (mget_mem hg) h rfl); rw [e]
  | none =>
    unfold mget at hg
    rw [Option.map_eq_none_iff, List.find?_eq_none] at hg
    have := hg _ h
    simp at this
theorem mget_none {m : List (κ × β)} {k : κ} : mget m k = none ↔ ∀ p ∈ m, p.1 ≠ k := by
  unfold mget
  rw [Option.map_eq_none_iff, List.find?_eq_none]
  simp
theorem mfind_none_iff {m : List (κ × β)} {k : κ} : mfind m k = none ↔ mget m k = none := by
  constructor
  · intro h; exact (mfind_none h).2
  · intro h
    cases hf : mfind m k with
    | none => rfl
    | some i => obtain ⟨v, h1, h2⟩ := mfind_some hf; rw [h] at h2; cases h2
theorem mput_keys (m : List (κ × β)) (k : κ) (v : β) : (mput m k v).map (·.1) = if (mget m k).isSome then m.map (·.1) else m.map (·.1) ++ [k] := by
  unfold mput
  cases hf : mfind m k with
  | none => rw [mfind_none_iff.1 hf]; simp
  | some i =>
    obtain ⟨v0, h1, h2⟩ := mfind_some hf
    rw [h2]
    simp only [Option.isSome_some, if_true, List.map_set]
    apply List.ext_getElem?
    intro j
    rw [List.getElem?_set]
    split
    · rename_i hij; subst hij
      have hl := (List.getElem?_eq_some_iff.1 h1).1
      rw [if_pos (by simpa using hl), List.getElem?_map, h1]; rfl
    · rfl
theorem mput_nod {m : List (κ × β)} (hn : mnod m) (k : κ) (v : β) : mnod (mput m k v) := by
  unfold mnod; rw [mput_keys]
  split
  · exact hn
  · rename_i h
    have h' : mget m k = none := by cases hg : mget m k <;> simp_all
    rw [List.nodup_append]
    refine ⟨hn, by simp, ?_⟩
    intro a ha b hb
    simp at hb; subst hb
    obtain ⟨p, hp, rfl⟩ := List.mem_map.1 ha
    exact mget_none.1 h' p hp
theorem mput_len (m : List (κ × β)) (k : κ) (v : β) : (mput m k v).length = if (mget m k).isSome then m.length else m.length + 1 := by
  have := congrArg List.length (mput_keys m k v)
  rw [List.length_map] at this
  rw [this]; split <;> simp
theorem mput_mem {m : List (κ × β)} (hn : mnod m) {k : κ} {v : β} {p : κ × β} : p ∈ mput m k v ↔ p = (k, v) ∨ (p ∈ m ∧ p.1 ≠ k) := by
  unfold mput
  cases hf : mfind m k with
  | none =>
    have h := (mfind_none hf).1
    simp only [List.mem_append, List.mem_singleton]
    constructor
    · rintro (hp | hp)
      · exact .inr ⟨hp, h p hp⟩
      · exact .inl hp
    · rintro (hp | ⟨hp, _⟩)
      · exact .inr hp
      · exact .inl hp
  | some i =>
    obtain ⟨v0, h1, h2⟩ := mfind_some hf
    simp only
    have hl := (List.getElem?_eq_some_iff.1 h1).1
    constructor
    · intro hp
      obtain ⟨j, hj⟩ := List.getElem?_of_mem hp
      rw [List.getElem?_set] at hj
      split at hj
      · rename_i hij; subst hij
        simp [hl] at hj
        exact .inl hj.symm
      · rename_i hij
        refine .inr ⟨List.mem_of_getElem? hj, ?_⟩
        intro hk
        have e1 : (m.map (·.1))[i]'(by simpa using hl) = k := by simp [(List.getElem?_eq_some_iff.1 h1).2]
        have hjl := (List.getElem?_eq_some_iff.1 hj).1
        have e2 : (m.map (·.1))[j]'(by simpa using hjl) = k := by simp [(List.getElem?_eq_some_iff.1 hj).2, hk]
        exact hij (nodup_inj hn (e1.trans e2.symm))
    · rintro (rfl | ⟨hp, hk⟩)
      · exact List.mem_of_getElem? (i := i) (by rw [List.getElem?_set]; simp [hl])
      · obtain ⟨j, hj⟩ := List.getElem?_of_mem hp
        refine List.mem_of_getElem? (i := j) ?_
        rw [List.getElem?_set, if_neg]
        · exact hj
        · rintro rfl; rw [h1] at hj; cases hj; exact hk rfl
theorem mget_mput {m : List (κ × β)} (hn : mnod m) (k k' : κ) (v : β) : mget (mput m k v) k' = if k' = k then some v else mget m k' := by
  split
  · rename_i h; subst h
    exact mget_of (mput_nod hn _ _) ((mput_mem hn).2 (.inl rfl))
  · rename_i h
    cases hg : mget m k' with
    | some v' => exact mget_of (mput_nod hn _ _) ((mput_mem hn).2 (.inr ⟨mget_mem hg, h⟩))
    | none =>
      rw [mget_none] at hg ⊢
      intro p hp
      rcases (mput_mem hn).1 hp with rfl | ⟨hp, _⟩
      · exact fun e => h e.symm
      · exact hg p hp
theorem mdel_eq {m : List (κ × β)} (hn : mnod m) (k : κ) : mdel m k = m.filter (fun p => !decide (p.1 = k)) := by
  unfold mdel
  cases hf : mfind m k with
  | none =>
    have h := (mfind_none hf).1
    rw [List.filter_eq_self.2 (fun p hp => by simpa using h p hp)]
  | some i =>
    obtain ⟨v0, h1, h2⟩ := mfind_some hf
    obtain ⟨e1, e2⟩ := eraseIdx_split h1
    simp only
    rw [e2]
    conv => rhs; rw [e1]
    have hnk : ∀ p ∈ m.take i ++ m.drop (i + 1), p.1 ≠ k := by
      intro p hp hk
      have hn' : ((m.take i ++ (k, v0) :: m.drop (i + 1)).map (·.1)).Nodup := e1 ▸ hn
      rw [List.map_append, List.map_cons] at hn'
      have hn2 := (List.perm_middle.nodup_iff).1 hn'
      rw [List.nodup_cons] at hn2
      apply hn2.1
      rw [← List.map_append]
      exact List.mem_map.2 ⟨p, hp, hk⟩
    rw [List.filter_append, List.filter_cons_of_neg (by simp)]
    rw [List.filter_eq_self.2 (fun p hp => by simpa using hnk p (List.mem_append_left _ hp)), List.filter_eq_self.2 (fun p hp => by simpa using hnk p (List.mem_append_right _ hp))]
omit [DecidableEq κ] in
theorem mfilter_nod {m : List (κ × β)} (hn : mnod m) (q : κ × β → Bool) : mnod (m.filter q) := List.Nodup.sublist (List.filter_sublist.map _) hn
end
/-! ## ranges -/
theorem foldR_pure {K S L : Type} {f : K → S → Option (S ⊕ L)} {g : K → S → S} (J : S → Prop) : ∀ (π : List K) (s : S), J s → (∀ k ∈ π, ∀ s, J s → f k s = some (.inl (g k s)) ∧ J (g k s)) → foldR f π s = some (.inl (π.foldl (fun s k => g k s) s)) := by
  intro π
  induction π with
  | nil => intro s _ _; rfl
  | cons k r ih =>
    intro s hs h
    obtain ⟨h1, h2⟩ := h k (List.mem_cons_self) s hs
    simp only [foldR, h1, List.foldl_cons]
    exact ih _ h2 (fun k' hk' => h k' (List.mem_cons_of_mem _ hk'))
/-! ## spots -/
def spotO (k : ByteArray) : Int := (spot_Of k).getD (-1)
theorem spot_Of_some (k : ByteArray) : spot_Of k = some (spotO k) := by
  unfold spotO
  by_cases h : KeyOk k
  · obtain ⟨p, hp, _⟩ := spot_Of_eq k h; rw [hp]; rfl
  · rw [spot_Of_no k h]; rfl
theorem spotO_range (k : ByteArray) (h : KeyOk k) : 0 ≤ spotO k ∧ spotO k < 16 := by
  obtain ⟨p, hp, h1, h2⟩ := spot_Of_eq k h
  unfold spotO; rw [hp]; exact ⟨h1, h2⟩
theorem spotO_no (k : ByteArray) (h : ¬ KeyOk k) : spotO k = -1 := by unfold spotO; rw [spot_Of_no k h]; rfl
/-! ## sorted -/
def bb (b : ByteArray) : List UInt8 := b.data.toList
theorem bb_inj {a b : ByteArray} (h : bb a = bb b) : a = b := by
  obtain ⟨⟨x⟩⟩ := a
  obtain ⟨⟨y⟩⟩ := b
  unfold bb at h
  simp at h
  rw [h]
theorem le_tr (a b c : List UInt8) (h1 : decide (a ≤ b) = true) (h2 : decide (b ≤ c) = true) : decide (a ≤ c) = true := by
  rw [decide_eq_true_eq] at *
  exact List.le_trans h1 h2
theorem le_to (a b : List UInt8) : (decide (a ≤ b) || decide (b ≤ a)) = true := by
  rw [Bool.or_eq_true, decide_eq_true_eq, decide_eq_true_eq]
  exact List.le_total a b
theorem sortL_perm (l : List ByteArray) : (sortL l).Perm l := by
  unfold sortL
  have h := (List.mergeSort_perm (l.map (fun b => b.data.toList)) (fun x y => decide (x ≤ y))).map (fun b => (⟨b.toArray⟩ : ByteArray))
  rw [List.map_map] at h
  have e : ((fun b => (⟨b.toArray⟩ : ByteArray)) ∘ fun b => b.data.toList) = (id : ByteArray → ByteArray) := by funext b; simp
  rw [e, List.map_id] at h
  exact h
theorem sortL_sorted (l : List ByteArray) : (sortL l).Pairwise (fun a b => bb a ≤ bb b) := by
  unfold sortL
  rw [List.pairwise_map]
  refine (List.pairwise_mergeSort (le := fun x y => decide (x ≤ y)) le_tr le_to _).imp ?_
  intro a b h
  simpa [bb] using h
theorem sortL_congr {l l' : List ByteArray} (h : l.Perm l') : sortL l = sortL l' := by
  refine List.Perm.eq_of_pairwise (le := fun a b => bb a ≤ bb b) (fun a b _ _ h1 h2 => bb_inj (List.le_antisymm h1 h2)) (sortL_sorted l) (sortL_sorted l') (((sortL_perm l).trans h).trans (sortL_perm l').symm)
theorem sleB_eq (a b : ByteArray) : sleB a b = decide (bb a ≤ bb b) := by
  unfold sleB sltB
  rw [Bool.eq_iff_iff]
  simp only [Bool.or_eq_true, decide_eq_true_eq]
  show bb a < bb b ∨ a = b ↔ bb a ≤ bb b
  constructor
  · rintro (h | rfl)
    · exact List.le_of_lt h
    · exact List.le_refl _
  · intro h
    by_cases hab : a = b
    · exact .inr hab
    · left
      rcases List.le_total (bb b) (bb a) with h' | _
      · exact absurd (bb_inj (List.le_antisymm h h')) hab
      · apply List.not_le.1
        intro h'
        exact hab (bb_inj (List.le_antisymm h h'))
end Go.S

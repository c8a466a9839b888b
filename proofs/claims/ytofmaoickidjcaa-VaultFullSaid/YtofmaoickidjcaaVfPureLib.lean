/- A part of the proof: PureLib (for the law Vf). -/
import Derived.Test.YtofmaoickidjcaaVfPlain
import Derived.KernelRfl
set_option linter.all false
namespace Go.S
open Go Go.Sx
/-- a loop that is told by what holds behind i rounds -/
theorem loopN_ind {S E : Type} {f : S → Option (S ⊕ E)} {s0 : S} (I : Nat → S → Prop) (post : E → Prop) (N : Nat) (h0 : I 0 s0) (hN : N < FUEL)
    (hstep : ∀ i s, i < N → I i s → (∃ s', f s = some (.inl s') ∧ I (i + 1) s') ∨ (∃ e, f s = some (.inr e) ∧ post e))
    (hend : ∀ s, I N s → ∃ e, f s = some (.inr e) ∧ post e) : ∃ e, loopN f FUEL s0 = some e ∧ post e := by
  have key : ∀ k i s n, i + k = N → I i s → k < n → ∃ e, loopN f n s = some e ∧ post e := by
    intro k
    induction k with
    | zero =>
      intro i s n hi hI hn
      obtain ⟨m, rfl⟩ : ∃ m, n = m + 1 := ⟨n - 1, by omega⟩
      have : i = N := by omega
      subst this
      obtain ⟨e, he, hp⟩ := hend s hI
      exact ⟨e, by simp [loopN, he], hp⟩
    | succ k ih =>
      intro i s n hi hI hn
      obtain ⟨m, rfl⟩ : ∃ m, n = m + 1 := ⟨n - 1, by omega⟩
      rcases hstep i s (by omega) hI with ⟨s', he, hI'⟩ | ⟨e, he, hp⟩
      · obtain ⟨e, h1, h2⟩ := ih (i + 1) s' m (by omega) hI' (by omega)
        exact ⟨e, by simp [loopN, he, h1], h2⟩
      · exact ⟨e, by simp [loopN, he], hp⟩
  exact key N 0 s0 FUEL (by omega) h0 hN
theorem loopN_eq {S E : Type} {f : S → Option (S ⊕ E)} {s0 : S} {e0 : E} (I : Nat → S → Prop) (N : Nat) (h0 : I 0 s0) (hN : N < FUEL)
    (hstep : ∀ i s, i < N → I i s → (∃ s', f s = some (.inl s') ∧ I (i + 1) s') ∨ f s = some (.inr e0))
    (hend : ∀ s, I N s → f s = some (.inr e0)) : loopN f FUEL s0 = some e0 := by
  obtain ⟨e, h, rfl⟩ := loopN_ind I (fun e => e = e0) N h0 hN (fun i s hi hI => (hstep i s hi hI).imp id (fun h => ⟨_, h, rfl⟩)) (fun s hI => ⟨_, hend s hI, rfl⟩)
  exact h
theorem FUEL_big {n : Nat} (h : n ≤ 1000000000000) : n < FUEL := by unfold FUEL; omega
theorem w64_nat (i : Nat) (h : i ≤ 9223372036854775806) : w64 ((i : Int) + 1) = ((i + 1 : Nat) : Int) := by rw [w64_id (by omega)]; omega
theorem w64_small {x : Int} (h : -1000000000000 ≤ x ∧ x ≤ 1000000000000) : w64 x = x := w64_id (by omega)
theorem aget_nat {α : Type} {n : Nat} (v : Vector α n) (i : Nat) (h : i < n) : aget v (i : Int) = some v[i] := by
  unfold aget; rw [dif_pos ⟨by omega, by simpa using h⟩]; simp
theorem aget_int {α : Type} {n : Nat} (v : Vector α n) (i : Int) (h0 : 0 ≤ i) (h : i.toNat < n) : aget v i = some v[i.toNat] := by
  unfold aget; rw [dif_pos ⟨h0, h⟩]
theorem aset_nat {α : Type} {n : Nat} (v : Vector α n) (i : Nat) (x : α) (h : i < n) : aset v (i : Int) x = some (v.set i x h) := by
  unfold aset; rw [dif_pos ⟨by omega, by simpa using h⟩]; simp
theorem aset_int {α : Type} {n : Nat} (v : Vector α n) (i : Int) (x : α) (h0 : 0 ≤ i) (h : i.toNat < n) : aset v i x = some (v.set i.toNat x h) := by
  unfold aset; rw [dif_pos ⟨h0, h⟩]
theorem lget_nat {α : Type} (l : List α) (i : Nat) : lget l (i : Int) = l[i]? := by unfold lget; rw [if_pos (by omega)]; simp
theorem appG_ok {α : Type} {b : Nat} {l : List α} {x : α} (h : (l.length + 1) * b ≤ 140737488355328) : appG b l x = some (l ++ [x]) := by unfold appG; rw [if_pos h]
theorem appsG_ok {α : Type} {b : Nat} {l l2 : List α} (h : (l.length + l2.length) * b ≤ 140737488355328) : appsG b l l2 = some (l ++ l2) := by unfold appsG; rw [if_pos h]
theorem lsl_ok {α : Type} {l : List α} {lo hi : Int} (h : 0 ≤ lo ∧ lo ≤ hi ∧ hi ≤ l.length) : lsl l lo hi = some ((l.drop lo.toNat).take (hi.toNat - lo.toNat)) := by unfold lsl; rw [if_pos h]
theorem insG_ok {α : Type} {l : List α} {i : Int} {x : α} (h : 0 ≤ i ∧ i ≤ l.length ∧ l.length < 100000) : insG l i x = some (l.take i.toNat ++ x :: l.drop i.toNat) := by unfold insG; rw [if_pos h]
theorem decide_beq {p q : Prop} [Decidable p] [Decidable q] (h : p ↔ q) : decide p = decide q := by simp [h]
end Go.S
namespace Go.S
open Go Go.Sx
/-- the first that yields something -/
def ff {α R : Type} (g : α → Nat → Option R) : List α → Nat → Option R
  | [], _ => none
  | x :: r, i => match g x i with
    | some y => some y
    | none => ff g r (i + 1)
theorem ff_cons {α R : Type} (g : α → Nat → Option R) (x : α) (r : List α) (i : Nat) : ff g (x :: r) i = match g x i with
    | some y => some y
    | none => ff g r (i + 1) := rfl
theorem ff_none {α R : Type} {g : α → Nat → Option R} : ∀ {l : List α} {i : Nat}, ff g l i = none ↔ ∀ k x, l[k]? = some x → g x (i + k) = none := by
  intro l
  induction l with
  | nil => intro i; simp [ff]
  | cons y r ih =>
    intro i
    unfold ff
    constructor
    · intro h
      split at h
      · cases h
      · rename_i hg
        intro k x hk
        cases k with
        | zero => simp at hk; subst hk; exact hg
        | succ k => have := (ih.1 h) k x (by simpa using hk); rwa [show i + (k + 1) = i + 1 + k by omega]
    · intro h
      have h0 := h 0 y (by simp)
      rw [Nat.add_zero] at h0
      rw [h0]
      exact ih.2 (fun k x hk => by have := h (k + 1) x (by simpa using hk); rwa [show i + (k + 1) = i + 1 + k by omega] at this)
theorem ff_some {α R : Type} {g : α → Nat → Option R} {y : R} : ∀ {l : List α} {i : Nat}, ff g l i = some y → ∃ k x, l[k]? = some x ∧ g x (i + k) = some y ∧ ∀ j z, j < k → l[j]? = some z → g z (i + j) = none := by
  intro l
  induction l with
  | nil => intro i h; simp [ff] at h
  | cons a r ih =>
    intro i h
    unfold ff at h
    split at h
    · rename_i z hg; cases h; exact ⟨0, a, by simp, hg, by omega⟩
    · rename_i hg
      obtain ⟨k, x, h1, h2, h3⟩ := ih h
      refine ⟨k + 1, x, by simpa using h1, by rwa [show i + (k + 1) = i + 1 + k by omega], fun j z hj hz => ?_⟩
      cases j with
      | zero => simp at hz; subst hz; exact hg
      | succ j => have := h3 j z (by omega) (by simpa using hz); rwa [show i + (j + 1) = i + 1 + j by omega]
theorem loop_find {α R U : Type} {f : Int → Option (Int ⊕ (U ⊕ R))} {u : U} (l : List α) (g : α → Nat → Option R) (hl : l.length ≤ 1000000000000)
    (hf : ∀ (i : Nat) x, l[i]? = some x → f (i : Int) = match g x i with | some r => some (.inr (.inr r)) | none => some (.inl (w64 ((i : Int) + 1))))
    (he : f (l.length : Int) = some (.inr (.inl u))) : loopN f FUEL 0 = some (match ff g l 0 with | some r => .inr r | none => .inl u) := by
  refine loopN_eq (fun i s => s = (i : Int) ∧ ff g l 0 = ff g (l.drop i) i) l.length ⟨rfl, by simp⟩ (FUEL_big hl) ?_ ?_
  · rintro i s hi ⟨rfl, hI⟩
    have hx : l[i]? = some l[i] := List.getElem?_eq_getElem hi
    rw [hf i _ hx]
    rw [List.drop_eq_getElem_cons hi, ff_cons] at hI
    cases hg : g l[i] i with
    | some r => right; rw [hg] at hI; simp only at hI ⊢; rw [hI]
    | none => left; rw [hg] at hI; exact ⟨_, rfl, w64_nat i (by omega), hI⟩
  · rintro s ⟨rfl, hI⟩
    rw [he, hI]; simp [ff]
theorem andThen_inl {A L : Type} {k : A → Option L} {a : A} : andThen (some (.inl a)) k = k a := rfl
theorem andThen_inr {A L : Type} {k : A → Option L} {l : L} : andThen (some (.inr l)) k = some l := rfl
theorem vget {α : Type} {n : Nat} (v : Vector α n) (i : Nat) (h : i < n) : v.toList[i]? = some v[i] := by simp [h]
theorem vmem {α : Type} {n : Nat} (v : Vector α n) {i : Nat} {x : α} (h : v.toList[i]? = some x) : ∃ hi : i < n, v[i] = x := by
  obtain ⟨h1, h2⟩ := List.getElem?_eq_some_iff.1 h
  exact ⟨by simpa using h1, by simpa using h2⟩
end Go.S

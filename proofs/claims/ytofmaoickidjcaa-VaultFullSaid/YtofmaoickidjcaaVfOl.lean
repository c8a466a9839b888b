/- A part of the proof: Ol (for the law Vf). -/
import Derived.Test.YtofmaoickidjcaaVfSl
import Derived.OpenShut
import Derived.ChangeArms
import Derived.DataReads
set_option linter.all false
/-! # Inputs are opened -/
namespace Go.Sx
open Go.RowKit
def Opens {α : Type} (P : Program) (t : TypeId) (ty : Ty α) (G : α → Prop) : Prop :=
  ∀ {H : Type} (enc : TypeId × Value → H) (w : World) (fuel : Nat) (cs : List Value) (x : DataW H × List MemPlace), DataW.trod enc P w 0 (fun _ => true) true fuel t cs = some x → ∃ (a : α) (hh : Hs), cs = ty.enc a hh ∧ ty.rd w a hh ∧ G a
section
variable {P : Program} {α : Type}
theorem opens_int {t : TypeId} {k : IntKind} (hu : P.underlying t = some (.int k)) : Opens P t (tInt k) (fun n => (Lit.int k n).wf = true) := fun enc w fuel cs x h => by
  obtain ⟨n, rfl, _, hw⟩ := DataW.trod_int hu h
  exact ⟨n, fun _ => .z, rfl, trivial, hw⟩
theorem opens_bool {t : TypeId} (hu : P.underlying t = some .bool) : Opens P t tBool (fun _ => True) := fun enc w fuel cs x h => by
  obtain ⟨n, rfl, _⟩ := DataW.trod_bool hu h
  exact ⟨n, fun _ => .z, rfl, trivial, trivial⟩
theorem opens_str {t : TypeId} (hu : P.underlying t = some .string) : Opens P t tStr (fun s => s.size ≤ maxLen) := fun enc w fuel cs x h => by
  obtain ⟨n, rfl, _, hw⟩ := DataW.trod_string hu h
  exact ⟨n, fun _ => .z, rfl, trivial, hw⟩
/-- cells from an address on -/
def RowAtA (w : World) (a : Addr) (l : List Value) : Prop := ∀ j, j < l.length → w.cell? (a.add j) = l[j]?
theorem build {β : Type} (n : Nat) (p : Nat → β → Prop) (h : ∀ i, i < n → ∃ b, p i b) : ∃ l : List β, l.length = n ∧ ∀ i b, l[i]? = some b → p i b := by
  induction n with
  | zero => exact ⟨[], rfl, fun i b h => by simp at h⟩
  | succ n ih =>
    obtain ⟨l, hl, hp⟩ := ih (fun i hi => h i (by omega))
    obtain ⟨b, hb⟩ := h n (by omega)
    refine ⟨l ++ [b], by simp [hl], fun i c hc => ?_⟩
    rw [List.getElem?_append] at hc
    split at hc
    · exact hp i c hc
    · rename_i hi
      have : i - l.length = 0 := by
        cases hk : i - l.length with
        | zero => rfl
        | succ k => rw [hk] at hc; simp at hc
      rw [this] at hc
      simp at hc; subst hc
      rw [show i = n by omega]; exact hb
theorem opens_slice {t e : TypeId} {ty : Ty α} {G : α → Prop} (hu : P.underlying t = some (.slice e)) (hc : P.cellsOf e = ty.sz) (h0 : 0 < ty.sz) (ho : Opens P e ty G) : Opens P t (tSl ty) (fun l => ∀ x ∈ l, G x) := fun {H} enc w fuel cs x h => by
  rcases DataW.trod_slice hu h with ⟨rfl, _⟩ | ⟨a, len, cap, elems, rest, n, _, rfl, _, _, hlc, hcm, hlen, hel, hsp, _⟩
  · exact ⟨[], fun _ => .z, rfl, slR.nil _ _, by simp⟩
  have hone : ∀ i, i < len → ∃ b : α × Hs, RowAtA w (a.add (i * ty.sz)) (ty.enc b.1 b.2) ∧ ty.rd w b.1 b.2 ∧ G b.1 := by
    intro i hi
    have h1 := hel i hi
    rw [List.getElem?_eq_getElem (by omega), Option.bind_eq_some_iff] at h1
    obtain ⟨cs', hcs, hy⟩ := h1
    obtain ⟨b, hh, rfl, hr, hg⟩ := ho enc w n cs' _ hy
    rw [hc] at hcs
    obtain ⟨_, hl, hcell⟩ := World.cells?_some hcs
    exact ⟨(b, hh), fun j hj => hcell j (by rwa [ty.len] at hj), hr, hg⟩
  obtain ⟨l, hl, hp⟩ := build len _ hone
  have hspot : 0 < cap → a.spot = none := by
    intro hcap
    have key : ∀ cs', w.cells? 0 (a.add (0 * P.cellsOf e)) (P.cellsOf e) = some cs' → a.spot = none := by
      intro cs' hcs
      rw [hc] at hcs
      obtain ⟨_, hll, hcell⟩ := World.cells?_some hcs
      have := hcell 0 h0
      rw [show (a.add (0 * ty.sz)).add 0 = a by simp [Addr.add]] at this
      have hlt : 0 < cs'.length := by omega
      rw [List.getElem?_eq_getElem hlt] at this
      unfold World.cell? at this
      split at this
      · split at this
        · cases this
        · rename_i hns; cases hs : a.spot <;> simp_all
      · cases this
    by_cases hl0 : 0 < len
    · have h1 := hel 0 hl0
      rw [List.getElem?_eq_getElem (by omega), Option.bind_eq_some_iff] at h1
      obtain ⟨cs', hcs, _⟩ := h1
      exact key _ hcs
    · obtain ⟨hrl, hr⟩ := hsp rfl
      have h1 := hr 0 (by omega)
      rw [List.getElem?_eq_getElem (by omega), Option.bind_eq_some_iff] at h1
      obtain ⟨cs', hcs, _⟩ := h1
      rw [show len + 0 = 0 by omega] at hcs
      exact key _ hcs
  have hadd : ∀ i j, 0 < cap → (a.add i).add j = ⟨a.block, a.off + i + j, none⟩ := by
    intro i j hcap
    have hs := hspot hcap
    obtain ⟨b, o, s⟩ := a
    simp only at hs
    subst hs
    rw [addr_add, addr_add]
  refine ⟨l.map (·.1), fun _ => .mk (some a) cap (fun i => ((l[i]?).map (·.2)).getD (fun _ => .z)), ?_, ⟨⟨by simp; unfold maxLen at hcm; omega, ?_⟩, fun i x hx => ?_⟩, ?_⟩
  · show _ = [Value.slice (some a) (l.map (·.1)).length cap]
    rw [List.length_map, hl]
  · by_cases hcap : 0 < cap
    · right
      refine ⟨?_, by rw [List.length_map, hl]; exact hlc⟩
      show some a = some ⟨a.block, a.off, none⟩
      have hs := hspot hcap
      obtain ⟨b, o, s⟩ := a
      simp only at hs
      subst hs; rfl
    · left
      exact ⟨by show cap = 0; omega, by rw [List.length_map]; omega⟩
  · rw [List.getElem?_map] at hx
    cases hb : l[i]? with
    | none => rw [hb] at hx; cases hx
    | some b =>
      rw [hb] at hx
      obtain rfl := Option.some.inj hx
      have hi := (List.getElem?_eq_some_iff.1 hb).1
      have hcap : 0 < cap := by omega
      obtain ⟨h1, h2, _⟩ := hp i b hb
      refine ⟨?_, ?_, ?_⟩
      · show some a = some ⟨a.block, a.off, none⟩
        have hs := hspot hcap
        obtain ⟨b, o, s⟩ := a
        simp only at hs
        subst hs; rfl
      · show RowAt w a.block (a.off + i * ty.sz) (ty.enc b.1 (((l[i]?).map (·.2)).getD (fun _ => .z)))
        rw [hb]
        show RowAt w a.block (a.off + i * ty.sz) (ty.enc b.1 b.2)
        intro j v hj
        have hjl := (List.getElem?_eq_some_iff.1 hj).1
        have := h1 j hjl
        rw [hadd _ _ hcap, hj] at this
        exact this
      · show ty.rd w b.1 (((l[i]?).map (·.2)).getD (fun _ => .z))
        rw [hb]; exact h2
  · intro x hx
    obtain ⟨b, hb, rfl⟩ := List.mem_map.1 hx
    obtain ⟨i, hi⟩ := List.getElem?_of_mem hb
    exact (hp i b hi).2.2
end
end Go.Sx

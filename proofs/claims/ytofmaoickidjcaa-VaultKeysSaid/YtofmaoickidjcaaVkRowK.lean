/- VaultKeys returns true for every input, and each argument reads afterwards as it read before. It has no conditions. -/
import Derived.Test.YtofmaoickidjcaaRows
import Derived.Test.YtofmaoickidjcaaVkWalk
import Derived.Test.YtofmaoickidjcaaVkP8
import Derived.Test.YtofmaoickidjcaaVkOl
import Derived.Carry
import Derived.WalkKit
import Derived.ProofKit
import Derived.OpenShut
import Derived.ShutString
import Derived.ChangeOld
import Derived.Below
import Derived.SizedLaws
set_option linter.all false
namespace Go.Proofs.Ytofmaoickidjcaa.vaultKeys
open Go Go.Sx Go.ChangeShapes Go.WideShapes Go.ChangeAt Go.RowKit
open Go.ChangeMaps (open_string shut_string)
set_option linter.unusedVariables false
theorem walk (a0 : List ByteArray) (a1 : Int) (b0 : Hd) (w : World) (w0 : slR tStr w a0 b0) (g0 : ∀ x ∈ a0, x.size ≤ maxLen) (w1 : (Lit.int .i64 a1).wf = true) :
    Calls Try.prog 6 #[.slice b0.a a0.length b0.cap, .int .i64 a1] w fun e w' => e = .returned (.bool true) ∧ Below w.heap.size w w' := by
  have h := S.VaultKeys_true a0 a1 g0 w1
  refine (W_law18_VaultKeys (D := []) (Φ := Ext No w) a0 a1 b0 h (fun _ _ hΦ => w0.ext hΦ) w (frame_mem.2 MemOk.nil) ((Sup.start w).less (fun k _ hk => frame_gs.1 hk))).mono ?_
  rintro e w' ⟨v, m', Φ', rfl, ⟨x, rfl, rfl, rfl⟩, hm, hs⟩
  exact ⟨rfl, hs.out.below⟩
theorem laidOut : laidOutB Try.prog = true := by kernel_rfl
theorem own : ownKnob Try.prog.godebug = none := by kernel_rfl
set_option maxRecDepth 100000 in
theorem lifted (os : Os) (started : os.Started) (H : Type) (enc : TypeId × Value → H) :
    ReturnsInHanded {} Try.checked os 6 .any (Rows.vaultKeysSpec.pre6 enc Try.prog Try.f6 Rows.vaultKeysRow.domain false) (Rows.vaultKeysSpec.post enc Try.prog Try.f6 false true false false) := by
  refine returnsInHanded_of_change_sized (C := Try.checked) own started (by kernel_rfl) Try.func6
    (ChangeSpec.witness6 (enc := enc) (C := Try.checked) false ⟨#[], #[.slice none 0 0, .int .i64 0], []⟩ 8 (by kernel_rfl) (by kernel_rfl) (by kernel_rfl) (by kernel_rfl)) ?_
  intro W base args ds gs before hval0 hW hcnd hsz0 _
  have hsz : (DataW.weightsEach Try.prog (Try.f6.params.toList ++ Rows.vaultKeysSpec.plain.varTypes Try.prog) (ds ++ gs)).all (· ≤ reachBytes) = true := hsz0
  have hval : ∀ (j : Nat) t v, Try.f6.params[j]? = some t → args[j]? = some v → Value.okWide Try.prog W .any base t v := hval0
  have hW' := hW
  obtain ⟨p, q, hA0, hV, rfl, hfz, hnd⟩ := hW
  have hA : DataW.TrodAll enc Try.prog W 0 (fun _ => true) true Try.f6.params.toList args.toList ds p := hA0
  rw [Try.params6] at hA hval hsz
  obtain ⟨v0, vs0, d0, ds0, p0, q0, hargs, rfl, rfl, h0, r0⟩ := trodAll_cons hA
  obtain ⟨v1, vs1, d1, ds1, p1, q1, rfl, rfl, rfl, h1, r1⟩ := trodAll_cons r0
  obtain ⟨rfl, rfl, rfl⟩ := trodAll_nil r1
  obtain rfl : args = #[v0, v1] := by cases args; simp_all
  obtain ⟨rfl, rfl⟩ := trodVars_none hV
  obtain ⟨a0, len0, cap0, rfl⟩ := okWide_slice Try.underlying76 (hval 0 76 v0 rfl rfl)
  have k0 := h0
  have lt0 : ∀ x ∈ p0, x.block < W.heap.size := by obtain ⟨m, hm⟩ := k0; exact DataW.trod_lt m _ _ _ hm
  obtain ⟨z0, b0, rfl, rfl, rfl, w0, g0⟩ : ∃ (z : List ByteArray) (b : Hd), a0 = b.a ∧ len0 = z.length ∧ cap0 = b.cap ∧ slR tStr W z b ∧ (∀ x ∈ z, x.size ≤ maxLen) := by
    obtain ⟨fuel, hf⟩ := h0
    obtain ⟨z, hh, hcs, hr, hg⟩ := (opens_slice Try.underlying76 (by kernel_rfl) (by decide) (opens_str Try.underlying9)) enc W fuel _ _ hf
    have hcs2 : [Value.slice a0 len0 cap0] = [.slice (hh 0).a z.length (hh 0).cap] := hcs
    simp only [List.cons.injEq, Value.slice.injEq, and_true] at hcs2
    exact ⟨z, hh 0, hcs2.1, hcs2.2.1, hcs2.2.2, hr, hg⟩
  obtain ⟨a1, rfl, rfl, rfl, w1⟩ := open_int Try.underlying3 (hval 1 3 v1 rfl rfl) h1
  clear hA0 hval0 hsz0 hsz
  refine (walk z0 a1 b0 W w0 g0 w1).mono fun e W' ⟨he, bel⟩ => ?_
  subst he
  exact ⟨_, rfl, _, _, _, [], _, [], hW', trodAll_mk1 (shut_bool Try.underlying4 _), (trodAll_cons_mk (Below.trod laidOut (by kernel_rfl) (of_decide_eq_true (by kernel_rfl)) k0 bel lt0) (trodAll_cons_mk (shut_int Try.underlying3 w1) trodAll_mk0)), rfl, bel.frame _, fun h => by cases h⟩
theorem over : Rows.vaultKeysRow.holds Try.pinned (OpenSpec.ofChange Rows.vaultKeysSpec) :=
  OpenClaim.holds_of_wide 6 Try.f6 rfl rfl rfl rfl rfl rfl rfl ⟨rfl, rfl, rfl, rfl, rfl⟩ rfl rfl rfl rfl rfl (by kernel_rfl) Try.func6 (by kernel_rfl)
    (of_decide_eq_true (by kernel_rfl)) (by unfold Func.isWrapper; first | (rw [if_pos (by decide +kernel)]; kernel_rfl) | (rw [if_neg (by decide +kernel)]; exact ⟨rfl, rfl⟩))
    (fun os started H enc _ => lifted os started H enc)
theorem proved : Rows.VaultKeysSaid := over
end Go.Proofs.Ytofmaoickidjcaa.vaultKeys
namespace Go.Proofs.Ytofmaoickidjcaa
theorem vaultKeys_holds : Rows.VaultKeysSaid := vaultKeys.proved
#print axioms vaultKeys_holds
end Go.Proofs.Ytofmaoickidjcaa

/- A part of the proof: Walk (for the law Vf). -/
import Derived.Test.YtofmaoickidjcaaProg
import Derived.Test.YtofmaoickidjcaaVfIns
import Derived.Test.YtofmaoickidjcaaVfPlain
import Derived.Test.YtofmaoickidjcaaVfSl
import Derived.Test.YtofmaoickidjcaaVfSortL
import Derived.Test.YtofmaoickidjcaaVfWalk1
set_option linter.all false
namespace Go.Proofs.Ytofmaoickidjcaa
open Go Go.Sx Go.S
set_option maxHeartbeats 1000000
set_option maxRecDepth 4000
theorem W_law18_VaultFull {D : Mem} {Φ : World → Prop} (a1 : Int) (a2 : Bool) {r : Bool} (h : S.law18_VaultFull a1 a2 = some r) :
    SpecK Try.prog 7 [.int .i64 a1, .bool a2] D [] Φ (fun x : Unit => .bool r) (fun x => []) (fun x => []) (fun _ => Φ) := by
  refine enterK Try.func7 rfl Try.ntmps7 rfl ?_
  unfold S.law18_VaultFull at h
  refine CW.reg ?_
  refine RO.val (Wt.no rfl) rfl (PV.assign rfl) ?_
  refine RO.nil ?_
  refine CW.reg ?_
  refine RO.val (Wt.no rfl) rfl (PV.move rfl) ?_
  refine RO.val (Wt.no rfl) rfl (PV.conv Try.underlying24 ⟨_, Try.underlying3⟩ rfl) ?_
  refine RO.val (Wt.no rfl) rfl (PV.rem rfl rfl (by decide)) ?_
  refine RO.val (Wt.no rfl) rfl (PV.conv Try.underlying3 ⟨_, Try.underlying24⟩ rfl) ?_
  refine RO.val (Wt.no rfl) rfl (PV.assign rfl) ?_
  refine RO.nil ?_
  replace h := bindS h
  obtain ⟨v1, hx2, h⟩ := h
  replace h := bindS h
  obtain ⟨⟨v6, v7⟩, hx8, h⟩ := h
  dsimp only at h
  refine CW.reg ?_
  refine RO.eff (Wt.no rfl) rfl (EV.call (K := _) Try.call15 rfl (SpecK.call0 (W_ledger_New 3000 hx2))) ?_
  rintro _ _ _ ⟨⟨g3, q4⟩, rfl, rfl, rfl⟩
  refine RO.eff (Wt.no rfl) rfl (EV.call (K := _) Try.call14 rfl (SpecK.call [1, 2] (fun x : Nat × Nat × Hd × (Nat → Hs) × Hd => [frame D, .blk g3 (S.t_ledger_Ledger.enc v7 (hf [x.2.2.2.2])), rowE S.t_Deed 106 v7.l x.2.2.2.2]) (Outs.cons rfl (Outs.cons rfl Outs.nil)) (fun _ => (Outs.cons rfl (Outs.cons rfl Outs.nil))) (W_vault_Open v1 g3 q4 hx8 (fun w hΦ => (hΦ.2))))) ?_
  rintro _ _ _ ⟨⟨g9, g10, q11, q12, q13⟩, rfl, rfl, rfl⟩
  refine RO.val (Wt.no rfl) rfl (PV.assign rfl) ?_
  refine RO.nil ?_
  replace h := andThen_some h
  obtain ⟨e171, h, hk170⟩ := h
  refine CW.meet (X := S.ledger_Ledger × (List S.Deed) × S.vault_Vault × (List (ByteArray × S.Bag)) × Hd × Hd × (Nat → Hs)) (fun x => [(0, .int .i64 (IntKind.i64.wrap (Int.tmod (IntKind.u64.wrap a1) 5))), (1, .bool a2), (4, .bool false), (5, .pointer (some ⟨g9, 0, none⟩))]) (fun x => [frame D, .blk g3 (S.t_ledger_Ledger.enc ({ x.1 with l := x.2.1 } : S.ledger_Ledger) (hf [x.2.2.2.2.1])), rowE S.t_Deed 106 x.2.1 x.2.2.2.2.1, .blk g9 (S.t_vault_Vault.enc x.2.2.1 (hf [(pq g3), x.2.2.2.2.2.1, (pq g10)])), mpE Value.string S.t_Bag g10 x.2.2.2.1 x.2.2.2.2.2.2]) (fun x w => (((Φ w ∧ True) ∧ (rdS S.t_Deed w v1.l q4.sub)) ∧ (slR (tInt .i64) w v6.ring.Plan.Targets q11 ∧ mpR S.t_Bag w v6.bags q12 ∧ rdS S.t_Deed w v7.l q13.sub)) ∧ (rdS S.t_Deed w x.2.1 x.2.2.2.2.1.sub ∧ slR (tInt .i64) w x.2.2.1.ring.Plan.Targets x.2.2.2.2.2.1 ∧ mpR S.t_Bag w x.2.2.2.1 x.2.2.2.2.2.2)) (fun x => S.law18_VaultFull_j2 a1 a2 x.1 x.2.1 x.2.2.1 x.2.2.2.1 = some r) ?_ ?_
  · skip
    refine CW.reg ?_
    refine RO.val (Wt.no rfl) rfl (PV.move rfl) ?_
    refine RO.nil ?_
    refine CW.block ?_
    refine CW.loopE (X := Nat × S.ledger_Ledger × (List S.Deed) × S.vault_Vault × (List (ByteArray × S.Bag)) × Int × Hd × Hd × (Nat → Hs)) (fun x => [(0, .int .i64 (IntKind.i64.wrap (Int.tmod (IntKind.u64.wrap a1) 5))), (1, .bool a2), (4, .bool false), (5, .pointer (some ⟨g9, 0, none⟩)), (29, .int .i64 x.2.2.2.2.2.1)]) (fun x => [frame D, .blk g3 (S.t_ledger_Ledger.enc ({ x.2.1 with l := x.2.2.1 } : S.ledger_Ledger) (hf [x.2.2.2.2.2.2.1])), rowE S.t_Deed 106 x.2.2.1 x.2.2.2.2.2.2.1, .blk g9 (S.t_vault_Vault.enc x.2.2.2.1 (hf [(pq g3), x.2.2.2.2.2.2.2.1, (pq g10)])), mpE Value.string S.t_Bag g10 x.2.2.2.2.1 x.2.2.2.2.2.2.2.2]) (fun x w => (((Φ w ∧ True) ∧ (rdS S.t_Deed w v1.l q4.sub)) ∧ (slR (tInt .i64) w v6.ring.Plan.Targets q11 ∧ mpR S.t_Bag w v6.bags q12 ∧ rdS S.t_Deed w v7.l q13.sub)) ∧ (rdS S.t_Deed w x.2.2.1 x.2.2.2.2.2.2.1.sub ∧ slR (tInt .i64) w x.2.2.2.1.ring.Plan.Targets x.2.2.2.2.2.2.2.1 ∧ mpR S.t_Bag w x.2.2.2.2.1 x.2.2.2.2.2.2.2.2)) (fun x => loopN S.law18_VaultFull_l10 x.1 (x.2.1, x.2.2.1, x.2.2.2.1, x.2.2.2.2.1, x.2.2.2.2.2.1) = some e171) (fun x => x.1) (FUEL, v7, v7.l, v6, v6.bags, 0, q13, q11, q12) h (by exact ⟨rfl, rfl, rfl, rfl, rfl, trivial⟩) rfl (fun w hΦ => ⟨hΦ, (hΦ.2.2.2), (hΦ.2.1), (hΦ.2.2.1)⟩) ?_
    rintro ⟨n193', v183, v184, v186, v188, v190, q185, q187, q189⟩ hI191
    try dsimp only at hI191 ⊢
    obtain ⟨n193, y192, rfl, h, hk194⟩ := loopN_some hI191
    unfold S.law18_VaultFull_l10 at h
    try dsimp only at h
    refine CW.reg ?_
    refine RO.val (Wt.no rfl) rfl (PV.lss rfl rfl) ?_
    refine RO.nil ?_
    refine CW.seq ?_
    refine CW.cond rfl (fun hb195 => ?_) (fun hb195 => ?_)
    · replace h := iteT hb195 h
      refine CW.skip ?_
      refine QC.then_n ?_
      refine CW.seq ?_
      refine CW.block ?_
      refine CW.reg ?_
      refine RO.val (Wt.no rfl) rfl (PV.move rfl) ?_
      refine RO.val (Wt.no rfl) rfl (PV.assign rfl) ?_
      refine RO.nil ?_
      replace h := bindS h
      obtain ⟨v196, hx197, h⟩ := h
      replace h := bindS h
      obtain ⟨⟨v198, v199, v200⟩, hx201, h⟩ := h
      dsimp only at h
      refine CW.reg ?_
      refine RO.val (Wt.no rfl) rfl (PV.move rfl) ?_
      refine RO.val (Wt.no rfl) rfl (PV.move rfl) ?_
      refine RO.eff (Wt.no rfl) rfl (EV.call (K := _) Try.call39 rfl (SpecK.callV (W_law18_named v190 hx197))) ?_
      rintro _ _ _ ⟨_, rfl, rfl, rfl⟩
      refine RO.val (Wt.no rfl) rfl (PV.buildS (B := S.t_A8_int.enc (Vector.replicate 8 (0 : Int)) (hf [])) (xs := []) [] Try.BT37 rfl rfl rfl (by simp) trivial rfl) ?_
      refine RO.eff (Wt.no rfl) rfl (EV.call (K := _) Try.call36 rfl (SpecK.call [3, 1, 2, 4] (fun x : Hd × Hd × (Nat → Hs) => [frame D, .blk g3 (S.t_ledger_Ledger.enc v200.l (hf [x.1])), rowE S.t_Deed 106 v200.l.l x.1, .blk g9 (S.t_vault_Vault.enc v200 (hf [(pq g3), x.2.1, (pq g10)])), mpE Value.string S.t_Bag g10 v200.bags x.2.2]) (Outs.cons rfl (Outs.cons rfl (Outs.cons rfl (Outs.cons rfl Outs.nil)))) (fun _ => (Outs.cons rfl (Outs.cons rfl (Outs.cons rfl (Outs.cons rfl Outs.nil))))) (W_vault_Vault_Put ({ v186 with l := ({ v183 with l := v184 } : S.ledger_Ledger), bags := v188 } : S.vault_Vault) 0 v196 (Vector.replicate 8 (0 : Int)) (⟨#[120]⟩ : ByteArray) g9 g3 g10 q185 q187 q189 hx201 (fun w hΦ => ⟨(hΦ.2.1), (hΦ.2.2.1), (hΦ.2.2.2)⟩)))) ?_
      rintro _ _ _ ⟨⟨q202, q203, q204⟩, rfl, rfl, rfl⟩
      refine RO.val (Wt.no rfl) rfl (PV.move rfl) ?_
      refine RO.val (Wt.no rfl) rfl (PV.extract rfl rfl) ?_
      refine RO.val (Wt.no rfl) rfl (PV.extract rfl rfl) ?_
      refine RO.eff (Wt.no rfl) rfl (EV.allocB (B := S.t_Dot.enc S.Dot.z (hf [])) Try.zeroValue45 rfl) ?_
      rintro _ _ _ ⟨g206, rfl, rfl, rfl⟩
      refine RO.eff (Wt.no rfl) rfl (EV.storeW (B := S.t_Dot.enc v198 (hf [])) 5 Try.TF45 rfl rfl rfl (by exact S.t_Dot.len v198 (hf [])) (by exact S.t_Dot.one v198 (hf [])) (S.t_Dot.len S.Dot.z (hf [])) rfl) ?_
      rintro _ _ _ ⟨rfl, rfl, rfl⟩
      refine RO.val (Wt.no rfl) rfl (PV.assign rfl) ?_
      refine RO.nil ?_
      refine CW.reg ?_
      refine RO.val (Wt.no rfl) rfl (PV.move rfl) ?_
      refine RO.val (Wt.no rfl) rfl (PV.neq rfl rfl) ?_
      refine RO.nil ?_
      refine CW.cond rfl (fun hb207 => ?_) (fun hb207 => ?_)
      · replace h := iteT hb207 h
        refine CW.reg ?_
        refine RO.val (Wt.no rfl) rfl (PV.assign rfl) ?_
        refine RO.nil ?_
        refine CW.ret ?_
        refine QC.blk_r ?_
        refine QC.then_r ?_
        refine QC.then_r ?_
        refine QC.blk_r ?_
        refine QC.then_r ?_
        obtain rfl := Option.some.inj h
        obtain rfl := nextL_inr hk194
        obtain rfl := afterS_inr hk170
        exact retP1 (Ψ := Φ) [0] (by decide) rfl (RV.tmp rfl) rfl (fun w hΦ => hΦ.1.1.1.1.1) ⟨(), rfl, rfl, rfl⟩
      · replace h := iteF hb207 h
        refine CW.skip ?_
        refine QC.blk_n ?_
        refine QC.then_n ?_
        refine CW.region ?_
        refine RO.val (Wt.no rfl) rfl (PV.addW rfl rfl) ?_
        refine RO.val (Wt.no rfl) rfl (PV.move rfl) ?_
        refine RO.nil ?_
        obtain rfl := Option.some.inj h
        refine QC.roundP (n193, v200.l, v200.l.l, v200, v200.bags, (w64 (v190 + 1)), q202, q203, q204) (nextL_inl hk194) (by exact Nat.lt_succ_self _) [0, 1, 2, 3, 4] (by decide) (by exact ⟨rfl, rfl, rfl, rfl, rfl, trivial⟩) rfl (fun w hΦ => ⟨hΦ.1.1, (hΦ.2.1), (hΦ.2.2.1), (hΦ.2.2.2)⟩)
    · replace h := iteF hb195 h
      refine CW.exit ?_
      refine QC.then_x ?_
      refine QC.then_x ?_
      refine QC.blk_x ?_
      obtain rfl := Option.some.inj h
      obtain rfl := nextL_inr hk194
      refine QC.meetP (({ v183 with l := v184 } : S.ledger_Ledger), v184, v186, v188, q185, q187, q189) (afterS_inl hk170) [0, 1, 2, 3, 4] (by decide) (by exact ⟨rfl, rfl, rfl, rfl, trivial⟩) rfl (fun w hΦ => ⟨hΦ.1, (hΦ.2.1), (hΦ.2.2.1), (hΦ.2.2.2)⟩)
  · rintro ⟨v16, v17, v19, v21, q18, q20, q22⟩ h
    try dsimp only at h ⊢
    unfold S.law18_VaultFull_j2 at h
    replace h := andThen_some h
    obtain ⟨e120, h, hk119⟩ := h
    refine CW.meet (X := S.ledger_Ledger × (List S.Deed) × S.vault_Vault × (List (ByteArray × S.Bag)) × Hd × Hd × (Nat → Hs)) (fun x => [(1, .bool a2), (4, .bool false), (5, .pointer (some ⟨g9, 0, none⟩))]) (fun x => [frame D, .blk g3 (S.t_ledger_Ledger.enc ({ x.1 with l := x.2.1 } : S.ledger_Ledger) (hf [x.2.2.2.2.1])), rowE S.t_Deed 106 x.2.1 x.2.2.2.2.1, .blk g9 (S.t_vault_Vault.enc x.2.2.1 (hf [(pq g3), x.2.2.2.2.2.1, (pq g10)])), mpE Value.string S.t_Bag g10 x.2.2.2.1 x.2.2.2.2.2.2]) (fun x w => ((((Φ w ∧ True) ∧ (rdS S.t_Deed w v1.l q4.sub)) ∧ (slR (tInt .i64) w v6.ring.Plan.Targets q11 ∧ mpR S.t_Bag w v6.bags q12 ∧ rdS S.t_Deed w v7.l q13.sub)) ∧ (rdS S.t_Deed w v17 q18.sub ∧ slR (tInt .i64) w v19.ring.Plan.Targets q20 ∧ mpR S.t_Bag w v21 q22)) ∧ (rdS S.t_Deed w x.2.1 x.2.2.2.2.1.sub ∧ slR (tInt .i64) w x.2.2.1.ring.Plan.Targets x.2.2.2.2.2.1 ∧ mpR S.t_Bag w x.2.2.2.1 x.2.2.2.2.2.2)) (fun x => S.law18_VaultFull_j4 a2 x.1 x.2.1 x.2.2.1 x.2.2.2.1 = some r) ?_ ?_
    · skip
      refine CW.reg ?_
      refine RO.val (Wt.no rfl) rfl (PV.move rfl) ?_
      refine RO.val (Wt.no rfl) rfl (PV.move rfl) ?_
      refine RO.nil ?_
      refine CW.block ?_
      refine CW.loopE (X := Nat × S.ledger_Ledger × (List S.Deed) × S.vault_Vault × (List (ByteArray × S.Bag)) × Int × Hd × Hd × (Nat → Hs)) (fun x => [(1, .bool a2), (4, .bool false), (5, .pointer (some ⟨g9, 0, none⟩)), (43, .int .i64 (IntKind.i64.wrap (Int.tmod (IntKind.u64.wrap a1) 5))), (44, .int .i64 x.2.2.2.2.2.1)]) (fun x => [frame D, .blk g3 (S.t_ledger_Ledger.enc ({ x.2.1 with l := x.2.2.1 } : S.ledger_Ledger) (hf [x.2.2.2.2.2.2.1])), rowE S.t_Deed 106 x.2.2.1 x.2.2.2.2.2.2.1, .blk g9 (S.t_vault_Vault.enc x.2.2.2.1 (hf [(pq g3), x.2.2.2.2.2.2.2.1, (pq g10)])), mpE Value.string S.t_Bag g10 x.2.2.2.2.1 x.2.2.2.2.2.2.2.2]) (fun x w => ((((Φ w ∧ True) ∧ (rdS S.t_Deed w v1.l q4.sub)) ∧ (slR (tInt .i64) w v6.ring.Plan.Targets q11 ∧ mpR S.t_Bag w v6.bags q12 ∧ rdS S.t_Deed w v7.l q13.sub)) ∧ (rdS S.t_Deed w v17 q18.sub ∧ slR (tInt .i64) w v19.ring.Plan.Targets q20 ∧ mpR S.t_Bag w v21 q22)) ∧ (rdS S.t_Deed w x.2.2.1 x.2.2.2.2.2.2.1.sub ∧ slR (tInt .i64) w x.2.2.2.1.ring.Plan.Targets x.2.2.2.2.2.2.2.1 ∧ mpR S.t_Bag w x.2.2.2.2.1 x.2.2.2.2.2.2.2.2)) (fun x => loopN (S.law18_VaultFull_l9 a1) x.1 (x.2.1, x.2.2.1, x.2.2.2.1, x.2.2.2.2.1, x.2.2.2.2.2.1) = some e120) (fun x => x.1) (FUEL, ({ v16 with l := v17 } : S.ledger_Ledger), v17, v19, v21, 0, q18, q20, q22) h (by exact ⟨rfl, rfl, rfl, rfl, rfl, trivial⟩) rfl (fun w hΦ => ⟨hΦ, (hΦ.2.1), (hΦ.2.2.1), (hΦ.2.2.2)⟩) ?_
      rintro ⟨n142', v132, v133, v135, v137, v139, q134, q136, q138⟩ hI140
      try dsimp only at hI140 ⊢
      obtain ⟨n142, y141, rfl, h, hk143⟩ := loopN_some hI140
      unfold S.law18_VaultFull_l9 at h
      try dsimp only at h
      refine CW.reg ?_
      refine RO.val (Wt.no rfl) rfl (PV.lss rfl rfl) ?_
      refine RO.nil ?_
      refine CW.seq ?_
      refine CW.cond rfl (fun hb144 => ?_) (fun hb144 => ?_)
      · replace h := iteT hb144 h
        refine CW.skip ?_
        refine QC.then_n ?_
        refine CW.seq ?_
        refine CW.block ?_
        refine CW.reg ?_
        refine RO.val (Wt.no rfl) rfl (PV.move rfl) ?_
        refine RO.val (Wt.no rfl) rfl (PV.assign rfl) ?_
        refine RO.nil ?_
        replace h := bindS h
        obtain ⟨v145, hx146, h⟩ := h
        refine CW.reg ?_
        refine RO.val (Wt.no rfl) rfl (PV.move rfl) ?_
        refine RO.val (Wt.no rfl) rfl (PV.addW rfl rfl) ?_
        refine RO.eff (Wt.no rfl) rfl (EV.call (K := _) Try.call39 rfl (SpecK.callV (W_law18_named (w64 (200 + v139)) hx146))) ?_
        rintro _ _ _ ⟨_, rfl, rfl, rfl⟩
        refine RO.val (Wt.no rfl) rfl (PV.assign rfl) ?_
        refine RO.nil ?_
        replace h := bindS h
        obtain ⟨⟨v147, v148, v149⟩, hx150, h⟩ := h
        dsimp only at h
        refine CW.reg ?_
        refine RO.val (Wt.no rfl) rfl (PV.move rfl) ?_
        refine RO.val (Wt.no rfl) rfl (PV.move rfl) ?_
        refine RO.val (Wt.no rfl) rfl (PV.buildS (B := S.t_A8_int.enc (Vector.replicate 8 (0 : Int)) (hf [])) (xs := []) [] Try.BT37 rfl rfl rfl (by simp) trivial rfl) ?_
        refine RO.eff (Wt.no rfl) rfl (EV.call (K := _) Try.call36 rfl (SpecK.call [3, 1, 2, 4] (fun x : Hd × Hd × (Nat → Hs) => [frame D, .blk g3 (S.t_ledger_Ledger.enc v149.l (hf [x.1])), rowE S.t_Deed 106 v149.l.l x.1, .blk g9 (S.t_vault_Vault.enc v149 (hf [(pq g3), x.2.1, (pq g10)])), mpE Value.string S.t_Bag g10 v149.bags x.2.2]) (Outs.cons rfl (Outs.cons rfl (Outs.cons rfl (Outs.cons rfl Outs.nil)))) (fun _ => (Outs.cons rfl (Outs.cons rfl (Outs.cons rfl (Outs.cons rfl Outs.nil))))) (W_vault_Vault_Put ({ v135 with l := ({ v132 with l := v133 } : S.ledger_Ledger), bags := v137 } : S.vault_Vault) 0 v145 (Vector.replicate 8 (0 : Int)) (⟨#[120]⟩ : ByteArray) g9 g3 g10 q134 q136 q138 hx150 (fun w hΦ => ⟨(hΦ.2.1), (hΦ.2.2.1), (hΦ.2.2.2)⟩)))) ?_
        rintro _ _ _ ⟨⟨q151, q152, q153⟩, rfl, rfl, rfl⟩
        refine RO.val (Wt.no rfl) rfl (PV.move rfl) ?_
        refine RO.val (Wt.no rfl) rfl (PV.extract rfl rfl) ?_
        refine RO.val (Wt.no rfl) rfl (PV.extract rfl rfl) ?_
        refine RO.eff (Wt.no rfl) rfl (EV.allocB (B := S.t_Dot.enc S.Dot.z (hf [])) Try.zeroValue45 rfl) ?_
        rintro _ _ _ ⟨g155, rfl, rfl, rfl⟩
        refine RO.eff (Wt.no rfl) rfl (EV.storeW (B := S.t_Dot.enc v147 (hf [])) 5 Try.TF45 rfl rfl rfl (by exact S.t_Dot.len v147 (hf [])) (by exact S.t_Dot.one v147 (hf [])) (S.t_Dot.len S.Dot.z (hf [])) rfl) ?_
        rintro _ _ _ ⟨rfl, rfl, rfl⟩
        refine RO.val (Wt.no rfl) rfl (PV.assign rfl) ?_
        refine RO.nil ?_
        replace h := bindS h
        obtain ⟨⟨v156, v157⟩, hx158, h⟩ := h
        dsimp only at h
        refine CW.reg ?_
        refine RO.val (Wt.no rfl) rfl (PV.move rfl) ?_
        refine RO.val (Wt.no rfl) rfl (PV.move rfl) ?_
        refine RO.val (Wt.no rfl) rfl (PV.buildS (B := S.t_A8_int.enc (⟨#[1, 0, 0, 0, 0, 0, 0, 0], rfl⟩ : Vector Int 8) (hf [])) (xs := [.const (.int .i64 1)]) [(0, 0, 1)] Try.BT37 rfl rfl rfl (by decide) ⟨rfl, rfl, trivial⟩ rfl) ?_
        refine RO.val (Wt.no rfl) rfl (PV.buildS (B := S.t_Bag.enc ({ S.Bag.z with Known := (⟨#[1, 0, 0, 0, 0, 0, 0, 0], rfl⟩ : Vector Int 8) } : S.Bag) (hf [Hd.z])) (xs := [.tmp 59]) [(0, 0, 8)] Try.BT40 rfl rfl rfl (by decide) ⟨rfl, rfl, trivial⟩ rfl) ?_
        refine RO.eff (Wt.no rfl) rfl (EV.call (K := _) Try.call40 rfl (SpecK.call [3, 1, 2, 4] (fun x : Hd × Hd × (Nat → Hs) => [frame D, .blk g3 (S.t_ledger_Ledger.enc v157.l (hf [x.1])), rowE S.t_Deed 106 v157.l.l x.1, .blk g9 (S.t_vault_Vault.enc v157 (hf [(pq g3), x.2.1, (pq g10)])), mpE Value.string S.t_Bag g10 v157.bags x.2.2, .blk g155 (S.t_Dot.enc v147 (hf []))]) (Outs.cons rfl (Outs.cons rfl (Outs.cons rfl (Outs.cons rfl Outs.nil)))) (fun _ => (Outs.cons rfl (Outs.cons rfl (Outs.cons rfl (Outs.cons rfl Outs.nil))))) (W_vault_Vault_Merge v149 v145 ({ S.Bag.z with Known := (⟨#[1, 0, 0, 0, 0, 0, 0, 0], rfl⟩ : Vector Int 8) } : S.Bag) g9 g3 g10 q151 q152 q153 Hd.z hx158 (fun w hΦ => ⟨(hΦ.2.1), (hΦ.2.2.1), (hΦ.2.2.2), (slR.nil _ _)⟩)))) ?_
        rintro _ _ _ ⟨⟨q159, q160, q161⟩, rfl, rfl, rfl⟩
        refine RO.val (Wt.no rfl) rfl (PV.assign rfl) ?_
        refine RO.nil ?_
        by_cases hb163 : (decide (v148 ≠ 5)) = true
        · replace h := iteT hb163 h
          refine CW.reg ?_
          refine RO.val (Wt.no rfl) rfl (PV.move rfl) ?_
          refine RO.val (Wt.no rfl) rfl (PV.neq rfl rfl) ?_
          refine RO.val (Wt.no rfl) rfl ((PV.move rfl).to (congrArg Value.bool hb163)) ?_
          refine RO.skip (Un.mk rfl rfl rfl rfl) rfl ?_
          refine RO.skip (Un.mk rfl rfl rfl rfl) rfl ?_
          refine RO.val (Wt.no rfl) rfl (PV.pickT rfl rfl) ?_
          refine RO.val (Wt.no rfl) rfl (PV.move rfl) ?_
          refine RO.skip (Un.mk rfl rfl rfl rfl) rfl ?_
          refine RO.skip (Un.mk rfl rfl rfl rfl) rfl ?_
          refine RO.skip (Un.mk rfl rfl rfl rfl) rfl ?_
          refine RO.skip (Un.mk rfl rfl rfl rfl) rfl ?_
          refine RO.skip (Un.mk rfl rfl rfl rfl) rfl ?_
          refine RO.skip (Un.mk rfl rfl rfl rfl) rfl ?_
          refine RO.val (Wt.no rfl) rfl (PV.pickT rfl rfl) ?_
          refine RO.nil ?_
          refine CW.condT rfl ?_
          refine CW.reg ?_
          refine RO.val (Wt.no rfl) rfl (PV.assign rfl) ?_
          refine RO.nil ?_
          refine CW.ret ?_
          refine QC.blk_r ?_
          refine QC.then_r ?_
          refine QC.then_r ?_
          refine QC.blk_r ?_
          refine QC.then_r ?_
          obtain rfl := Option.some.inj h
          obtain rfl := nextL_inr hk143
          obtain rfl := afterS_inr hk119
          exact retP1 (Ψ := Φ) [0] (by decide) rfl (RV.tmp rfl) rfl (fun w hΦ => hΦ.1.1.1.1.1.1.1) ⟨(), rfl, rfl, rfl⟩
        · replace hb163 := Bool.eq_false_iff.2 hb163
          replace h := iteF hb163 h
          by_cases hb164 : (decide (v156 ≠ 5)) = true
          · replace h := iteT hb164 h
            refine CW.reg ?_
            refine RO.val (Wt.no rfl) rfl (PV.move rfl) ?_
            refine RO.val (Wt.no rfl) rfl (PV.neq rfl rfl) ?_
            refine RO.val (Wt.no rfl) rfl ((PV.move rfl).to (congrArg Value.bool hb163)) ?_
            refine RO.val (Wt.yes rfl rfl rfl rfl) rfl (PV.move rfl) ?_
            refine RO.val (Wt.yes rfl rfl rfl rfl) rfl (PV.neq rfl rfl) ?_
            refine RO.val (Wt.no rfl) rfl (PV.pickF rfl rfl) ?_
            refine RO.val (Wt.no rfl) rfl ((PV.move rfl).to (congrArg Value.bool hb164)) ?_
            refine RO.skip (Un.mk rfl rfl rfl rfl) rfl ?_
            refine RO.skip (Un.mk rfl rfl rfl rfl) rfl ?_
            refine RO.skip (Un.mk rfl rfl rfl rfl) rfl ?_
            refine RO.skip (Un.mk rfl rfl rfl rfl) rfl ?_
            refine RO.skip (Un.mk rfl rfl rfl rfl) rfl ?_
            refine RO.skip (Un.mk rfl rfl rfl rfl) rfl ?_
            refine RO.val (Wt.no rfl) rfl (PV.pickT rfl rfl) ?_
            refine RO.nil ?_
            refine CW.condT rfl ?_
            refine CW.reg ?_
            refine RO.val (Wt.no rfl) rfl (PV.assign rfl) ?_
            refine RO.nil ?_
            refine CW.ret ?_
            refine QC.blk_r ?_
            refine QC.then_r ?_
            refine QC.then_r ?_
            refine QC.blk_r ?_
            refine QC.then_r ?_
            obtain rfl := Option.some.inj h
            obtain rfl := nextL_inr hk143
            obtain rfl := afterS_inr hk119
            exact retP1 (Ψ := Φ) [0] (by decide) rfl (RV.tmp rfl) rfl (fun w hΦ => hΦ.1.1.1.1.1.1.1) ⟨(), rfl, rfl, rfl⟩
          · replace hb164 := Bool.eq_false_iff.2 hb164
            replace h := iteF hb164 h
            replace h := bindS h
            obtain ⟨v165, hx166, h⟩ := h
            refine CW.reg ?_
            refine RO.val (Wt.no rfl) rfl (PV.move rfl) ?_
            refine RO.val (Wt.no rfl) rfl (PV.neq rfl rfl) ?_
            refine RO.val (Wt.no rfl) rfl ((PV.move rfl).to (congrArg Value.bool hb163)) ?_
            refine RO.val (Wt.yes rfl rfl rfl rfl) rfl (PV.move rfl) ?_
            refine RO.val (Wt.yes rfl rfl rfl rfl) rfl (PV.neq rfl rfl) ?_
            refine RO.val (Wt.no rfl) rfl (PV.pickF rfl rfl) ?_
            refine RO.val (Wt.no rfl) rfl ((PV.move rfl).to (congrArg Value.bool hb164)) ?_
            refine RO.val (Wt.yes rfl rfl rfl rfl) rfl (PV.move rfl) ?_
            refine RO.val (Wt.yes rfl rfl rfl rfl) rfl (PV.move rfl) ?_
            refine RO.eff (Wt.yes rfl rfl rfl rfl) rfl (EV.call (K := _) Try.call20 rfl (SpecK.call [3, 1, 2, 4] (fun x : Hd => [frame D, .blk g3 (S.t_ledger_Ledger.enc v157.l (hf [q159])), rowE S.t_Deed 106 v157.l.l q159, .blk g9 (S.t_vault_Vault.enc v157 (hf [(pq g3), q160, (pq g10)])), mpE Value.string S.t_Bag g10 v157.bags q161, .blk g155 (S.t_Dot.enc v147 (hf []))]) (Outs.cons rfl (Outs.cons rfl (Outs.cons rfl (Outs.cons rfl Outs.nil)))) (fun _ => (Outs.cons rfl (Outs.cons rfl (Outs.cons rfl (Outs.cons rfl Outs.nil))))) (W_vault_Vault_Bag v157 v145 g9 g3 g10 q159 q160 q161 hx166 (fun w hm hΦ => ⟨(hΦ.2.1), (hΦ.2.2.1), (hΦ.2.2.2)⟩)))) ?_
            rintro _ _ _ ⟨q167, rfl, rfl, rfl⟩
            refine RO.val (Wt.yes rfl rfl rfl rfl) rfl (PV.fieldV (off := 0 + 8) (l := [.slice q167.a v165.Values.length q167.cap]) Try.underlying40 rfl Try.TF38 rfl (cut_Bag_Values _ _) rfl (by decide)) ?_
            refine RO.val (Wt.yes rfl rfl rfl rfl) rfl (PV.lenS Try.underlying38 rfl) ?_
            refine RO.val (Wt.yes rfl rfl rfl rfl) rfl (PV.neq rfl rfl) ?_
            refine RO.val (Wt.no rfl) rfl (PV.pickF rfl rfl) ?_
            refine RO.nil ?_
            refine CW.cond rfl (fun hb169 => ?_) (fun hb169 => ?_)
            · replace h := iteT hb169 h
              refine CW.reg ?_
              refine RO.val (Wt.no rfl) rfl (PV.assign rfl) ?_
              refine RO.nil ?_
              refine CW.ret ?_
              refine QC.blk_r ?_
              refine QC.then_r ?_
              refine QC.then_r ?_
              refine QC.blk_r ?_
              refine QC.then_r ?_
              obtain rfl := Option.some.inj h
              obtain rfl := nextL_inr hk143
              obtain rfl := afterS_inr hk119
              exact retP1 (Ψ := Φ) [0] (by decide) rfl (RV.tmp rfl) rfl (fun w hΦ => hΦ.1.1.1.1.1.1.1.1) ⟨(), rfl, rfl, rfl⟩
            · replace h := iteF hb169 h
              refine CW.skip ?_
              refine QC.blk_n ?_
              refine QC.then_n ?_
              refine CW.region ?_
              refine RO.val (Wt.no rfl) rfl (PV.addW rfl rfl) ?_
              refine RO.val (Wt.no rfl) rfl (PV.move rfl) ?_
              refine RO.nil ?_
              obtain rfl := Option.some.inj h
              refine QC.roundP (n142, v157.l, v157.l.l, v157, v157.bags, (w64 (v139 + 1)), q159, q160, q161) (nextL_inl hk143) (by exact Nat.lt_succ_self _) [0, 1, 2, 3, 4] (by decide) (by exact ⟨rfl, rfl, rfl, rfl, rfl, trivial⟩) rfl (fun w hΦ => ⟨hΦ.1.1.1.1, (hΦ.1.2.1), (hΦ.1.2.2.1), (hΦ.1.2.2.2)⟩)
      · replace h := iteF hb144 h
        refine CW.exit ?_
        refine QC.then_x ?_
        refine QC.then_x ?_
        refine QC.blk_x ?_
        obtain rfl := Option.some.inj h
        obtain rfl := nextL_inr hk143
        refine QC.meetP (({ v132 with l := v133 } : S.ledger_Ledger), v133, v135, v137, q134, q136, q138) (afterS_inl hk119) [0, 1, 2, 3, 4] (by decide) (by exact ⟨rfl, rfl, rfl, trivial⟩) rfl (fun w hΦ => ⟨hΦ.1, (hΦ.2.1), (hΦ.2.2.1), (hΦ.2.2.2)⟩)
    · rintro ⟨v24, v25, v27, v29, q26, q28, q30⟩ h
      try dsimp only at h ⊢
      unfold S.law18_VaultFull_j4 at h
      replace h := bindS h
      obtain ⟨v31, hx32, h⟩ := h
      replace h := bindS h
      obtain ⟨⟨v33, v34, v35⟩, hx36, h⟩ := h
      dsimp only at h
      refine CW.reg ?_
      refine RO.val (Wt.no rfl) rfl (PV.move rfl) ?_
      refine RO.eff (Wt.no rfl) rfl (EV.call (K := _) Try.call39 rfl (SpecK.callV (W_law18_named 0 hx32))) ?_
      rintro _ _ _ ⟨_, rfl, rfl, rfl⟩
      refine RO.val (Wt.no rfl) rfl (PV.buildS (B := S.t_A8_int.enc (Vector.replicate 8 (0 : Int)) (hf [])) (xs := []) [] Try.BT37 rfl rfl rfl (by simp) trivial rfl) ?_
      refine RO.eff (Wt.no rfl) rfl (EV.call (K := _) Try.call36 rfl (SpecK.call [3, 1, 2, 4] (fun x : Hd × Hd × (Nat → Hs) => [frame D, .blk g3 (S.t_ledger_Ledger.enc v35.l (hf [x.1])), rowE S.t_Deed 106 v35.l.l x.1, .blk g9 (S.t_vault_Vault.enc v35 (hf [(pq g3), x.2.1, (pq g10)])), mpE Value.string S.t_Bag g10 v35.bags x.2.2]) (Outs.cons rfl (Outs.cons rfl (Outs.cons rfl (Outs.cons rfl Outs.nil)))) (fun _ => (Outs.cons rfl (Outs.cons rfl (Outs.cons rfl (Outs.cons rfl Outs.nil))))) (W_vault_Vault_Put ({ v27 with l := ({ v24 with l := v25 } : S.ledger_Ledger), bags := v29 } : S.vault_Vault) 0 v31 (Vector.replicate 8 (0 : Int)) (⟨#[121]⟩ : ByteArray) g9 g3 g10 q26 q28 q30 hx36 (fun w hΦ => ⟨(hΦ.2.1), (hΦ.2.2.1), (hΦ.2.2.2)⟩)))) ?_
      rintro _ _ _ ⟨⟨q37, q38, q39⟩, rfl, rfl, rfl⟩
      refine RO.val (Wt.no rfl) rfl (PV.move rfl) ?_
      refine RO.val (Wt.no rfl) rfl (PV.extract rfl rfl) ?_
      refine RO.val (Wt.no rfl) rfl (PV.extract rfl rfl) ?_
      refine RO.eff (Wt.no rfl) rfl (EV.allocB (B := S.t_Dot.enc S.Dot.z (hf [])) Try.zeroValue45 rfl) ?_
      rintro _ _ _ ⟨g41, rfl, rfl, rfl⟩
      refine RO.eff (Wt.no rfl) rfl (EV.storeW (B := S.t_Dot.enc v33 (hf [])) 5 Try.TF45 rfl rfl rfl (by exact S.t_Dot.len v33 (hf [])) (by exact S.t_Dot.one v33 (hf [])) (S.t_Dot.len S.Dot.z (hf [])) rfl) ?_
      rintro _ _ _ ⟨rfl, rfl, rfl⟩
      refine RO.val (Wt.no rfl) rfl (PV.assign rfl) ?_
      refine RO.nil ?_
      replace h := andThen_some h
      obtain ⟨e105, h, hk104⟩ := h
      refine CW.meet (X := S.ledger_Ledger × (List S.Deed) × S.vault_Vault × (List (ByteArray × S.Bag)) × Hd × Hd × (Nat → Hs)) (fun x => [(4, .bool false), (5, .pointer (some ⟨g9, 0, none⟩))]) (fun x => [frame D, .blk g3 (S.t_ledger_Ledger.enc ({ x.1 with l := x.2.1 } : S.ledger_Ledger) (hf [x.2.2.2.2.1])), rowE S.t_Deed 106 x.2.1 x.2.2.2.2.1, .blk g9 (S.t_vault_Vault.enc x.2.2.1 (hf [(pq g3), x.2.2.2.2.2.1, (pq g10)])), mpE Value.string S.t_Bag g10 x.2.2.2.1 x.2.2.2.2.2.2, .blk g41 (S.t_Dot.enc v33 (hf []))]) (fun x w => ((((((Φ w ∧ True) ∧ (rdS S.t_Deed w v1.l q4.sub)) ∧ (slR (tInt .i64) w v6.ring.Plan.Targets q11 ∧ mpR S.t_Bag w v6.bags q12 ∧ rdS S.t_Deed w v7.l q13.sub)) ∧ (rdS S.t_Deed w v17 q18.sub ∧ slR (tInt .i64) w v19.ring.Plan.Targets q20 ∧ mpR S.t_Bag w v21 q22)) ∧ (rdS S.t_Deed w v25 q26.sub ∧ slR (tInt .i64) w v27.ring.Plan.Targets q28 ∧ mpR S.t_Bag w v29 q30)) ∧ (rdS S.t_Deed w v35.l.l q37.sub ∧ slR (tInt .i64) w v35.ring.Plan.Targets q38 ∧ mpR S.t_Bag w v35.bags q39)) ∧ (rdS S.t_Deed w x.2.1 x.2.2.2.2.1.sub ∧ slR (tInt .i64) w x.2.2.1.ring.Plan.Targets x.2.2.2.2.2.1 ∧ mpR S.t_Bag w x.2.2.2.1 x.2.2.2.2.2.2)) (fun x => S.law18_VaultFull_j5 x.1 x.2.1 x.2.2.1 x.2.2.2.1 = some r) ?_ ?_
      · skip
        by_cases hb106 : (decide (v34 ≠ 0)) = true
        · replace h := iteT hb106 h
          refine CW.reg ?_
          refine RO.val (Wt.no rfl) rfl (PV.move rfl) ?_
          refine RO.val (Wt.no rfl) rfl (PV.neq rfl rfl) ?_
          refine RO.val (Wt.no rfl) rfl ((PV.move rfl).to (congrArg Value.bool hb106)) ?_
          refine RO.skip (Un.mk rfl rfl rfl rfl) rfl ?_
          refine RO.skip (Un.mk rfl rfl rfl rfl) rfl ?_
          refine RO.skip (Un.mk rfl rfl rfl rfl) rfl ?_
          refine RO.val (Wt.no rfl) rfl (PV.pickT rfl rfl) ?_
          refine RO.val (Wt.no rfl) rfl (PV.move rfl) ?_
          refine RO.skip (Un.mk rfl rfl rfl rfl) rfl ?_
          refine RO.skip (Un.mk rfl rfl rfl rfl) rfl ?_
          refine RO.skip (Un.undef rfl rfl rfl rfl) rfl ?_
          refine RO.skip (Un.undef rfl rfl rfl rfl) rfl ?_
          refine RO.skip (Un.undef rfl rfl rfl rfl) rfl ?_
          refine RO.skip (Un.undef rfl rfl rfl rfl) rfl ?_
          refine RO.skip (Un.undef rfl rfl rfl rfl) rfl ?_
          refine RO.skip (Un.undef rfl rfl rfl rfl) rfl ?_
          refine RO.skip (Un.mk rfl rfl rfl rfl) rfl ?_
          refine RO.val (Wt.no rfl) rfl (PV.pickT rfl rfl) ?_
          refine RO.nil ?_
          refine CW.condT rfl ?_
          refine CW.reg ?_
          refine RO.val (Wt.no rfl) rfl (PV.assign rfl) ?_
          refine RO.nil ?_
          refine CW.ret ?_
          refine QC.then_r ?_
          obtain rfl := Option.some.inj h
          obtain rfl := afterS_inr hk104
          exact retP1 (Ψ := Φ) [0] (by decide) rfl (RV.tmp rfl) rfl (fun w hΦ => hΦ.1.1.1.1.1.1) ⟨(), rfl, rfl, rfl⟩
        · replace hb106 := Bool.eq_false_iff.2 hb106
          replace h := iteF hb106 h
          by_cases hb107 : (decide (v33.N ≠ 201)) = true
          · replace h := iteT hb107 h
            refine CW.reg ?_
            refine RO.val (Wt.no rfl) rfl (PV.move rfl) ?_
            refine RO.val (Wt.no rfl) rfl (PV.neq rfl rfl) ?_
            refine RO.val (Wt.no rfl) rfl ((PV.move rfl).to (congrArg Value.bool hb106)) ?_
            refine RO.val (Wt.yes rfl rfl rfl rfl) rfl (PV.fieldAddr Try.fa45_1 rfl) ?_
            refine RO.val (Wt.yes rfl rfl rfl rfl) rfl (PV.loadM (l := [.int .i64 v33.N]) 5 Try.TF3 rfl rfl (cut_Dot_N _ _) rfl (by decide)) ?_
            refine RO.val (Wt.yes rfl rfl rfl rfl) rfl (PV.neq rfl rfl) ?_
            refine RO.val (Wt.no rfl) rfl (PV.pickF rfl rfl) ?_
            refine RO.val (Wt.no rfl) rfl ((PV.move rfl).to (congrArg Value.bool hb107)) ?_
            refine RO.skip (Un.mk rfl rfl rfl rfl) rfl ?_
            refine RO.skip (Un.mk rfl rfl rfl rfl) rfl ?_
            refine RO.skip (Un.undef rfl rfl rfl rfl) rfl ?_
            refine RO.skip (Un.undef rfl rfl rfl rfl) rfl ?_
            refine RO.skip (Un.undef rfl rfl rfl rfl) rfl ?_
            refine RO.skip (Un.undef rfl rfl rfl rfl) rfl ?_
            refine RO.skip (Un.undef rfl rfl rfl rfl) rfl ?_
            refine RO.skip (Un.undef rfl rfl rfl rfl) rfl ?_
            refine RO.skip (Un.mk rfl rfl rfl rfl) rfl ?_
            refine RO.val (Wt.no rfl) rfl (PV.pickT rfl rfl) ?_
            refine RO.nil ?_
            refine CW.condT rfl ?_
            refine CW.reg ?_
            refine RO.val (Wt.no rfl) rfl (PV.assign rfl) ?_
            refine RO.nil ?_
            refine CW.ret ?_
            refine QC.then_r ?_
            obtain rfl := Option.some.inj h
            obtain rfl := afterS_inr hk104
            exact retP1 (Ψ := Φ) [0] (by decide) rfl (RV.tmp rfl) rfl (fun w hΦ => hΦ.1.1.1.1.1.1) ⟨(), rfl, rfl, rfl⟩
          · replace hb107 := Bool.eq_false_iff.2 hb107
            replace h := iteF hb107 h
            by_cases hb108 : a2 = true
            · replace h := iteT hb108 h
              replace h := bindS h
              obtain ⟨v109, hx110, h⟩ := h
              replace h := bindS h
              obtain ⟨⟨v111, v112⟩, hx113, h⟩ := h
              dsimp only at h
              refine CW.reg ?_
              refine RO.val (Wt.no rfl) rfl (PV.move rfl) ?_
              refine RO.val (Wt.no rfl) rfl (PV.neq rfl rfl) ?_
              refine RO.val (Wt.no rfl) rfl ((PV.move rfl).to (congrArg Value.bool hb106)) ?_
              refine RO.val (Wt.yes rfl rfl rfl rfl) rfl (PV.fieldAddr Try.fa45_1 rfl) ?_
              refine RO.val (Wt.yes rfl rfl rfl rfl) rfl (PV.loadM (l := [.int .i64 v33.N]) 5 Try.TF3 rfl rfl (cut_Dot_N _ _) rfl (by decide)) ?_
              refine RO.val (Wt.yes rfl rfl rfl rfl) rfl (PV.neq rfl rfl) ?_
              refine RO.val (Wt.no rfl) rfl (PV.pickF rfl rfl) ?_
              refine RO.val (Wt.no rfl) rfl ((PV.move rfl).to (congrArg Value.bool hb107)) ?_
              refine RO.val (Wt.yes rfl rfl rfl rfl) rfl (PV.move rfl) ?_
              refine RO.val (Wt.yes rfl rfl rfl rfl) rfl ((PV.move rfl).to (congrArg Value.bool hb108)) ?_
              refine RO.val (Wt.yes rfl rfl rfl rfl) rfl (PV.move rfl) ?_
              refine RO.eff (Wt.yes rfl rfl rfl rfl) rfl (EV.call (K := _) Try.call39 rfl (SpecK.callV (W_law18_named 1 hx110))) ?_
              rintro _ _ _ ⟨_, rfl, rfl, rfl⟩
              refine RO.val (Wt.yes rfl rfl rfl rfl) rfl (PV.buildS (B := S.t_A8_int.enc (⟨#[0, 5, 0, 0, 0, 0, 0, 0], rfl⟩ : Vector Int 8) (hf [])) (xs := [.const (.int .i64 0), .const (.int .i64 5)]) [(0, 0, 1), (1, 1, 1)] Try.BT37 rfl rfl rfl (by decide) ⟨rfl, rfl, rfl, rfl, trivial⟩ rfl) ?_
              refine RO.val (Wt.yes rfl rfl rfl rfl) rfl (PV.buildS (B := S.t_Bag.enc ({ S.Bag.z with Known := (⟨#[0, 5, 0, 0, 0, 0, 0, 0], rfl⟩ : Vector Int 8) } : S.Bag) (hf [Hd.z])) (xs := [.tmp 96]) [(0, 0, 8)] Try.BT40 rfl rfl rfl (by decide) ⟨rfl, rfl, trivial⟩ rfl) ?_
              refine RO.eff (Wt.yes rfl rfl rfl rfl) rfl (EV.call (K := _) Try.call40 rfl (SpecK.call [3, 1, 2, 4] (fun x : Hd × Hd × (Nat → Hs) => [frame D, .blk g3 (S.t_ledger_Ledger.enc v112.l (hf [x.1])), rowE S.t_Deed 106 v112.l.l x.1, .blk g9 (S.t_vault_Vault.enc v112 (hf [(pq g3), x.2.1, (pq g10)])), mpE Value.string S.t_Bag g10 v112.bags x.2.2, .blk g41 (S.t_Dot.enc v33 (hf []))]) (Outs.cons rfl (Outs.cons rfl (Outs.cons rfl (Outs.cons rfl Outs.nil)))) (fun _ => (Outs.cons rfl (Outs.cons rfl (Outs.cons rfl (Outs.cons rfl Outs.nil))))) (W_vault_Vault_Merge v35 v109 ({ S.Bag.z with Known := (⟨#[0, 5, 0, 0, 0, 0, 0, 0], rfl⟩ : Vector Int 8) } : S.Bag) g9 g3 g10 q37 q38 q39 Hd.z hx113 (fun w hΦ => ⟨(hΦ.2.1), (hΦ.2.2.1), (hΦ.2.2.2), (slR.nil _ _)⟩)))) ?_
              rintro _ _ _ ⟨⟨q114, q115, q116⟩, rfl, rfl, rfl⟩
              refine RO.val (Wt.yes rfl rfl rfl rfl) rfl (PV.neq rfl rfl) ?_
              refine RO.val (Wt.yes rfl rfl rfl rfl) rfl (PV.pickT rfl rfl) ?_
              refine RO.val (Wt.no rfl) rfl (PV.pickF rfl rfl) ?_
              refine RO.nil ?_
              refine CW.cond rfl (fun hb118 => ?_) (fun hb118 => ?_)
              · replace h := iteT hb118 h
                refine CW.reg ?_
                refine RO.val (Wt.no rfl) rfl (PV.assign rfl) ?_
                refine RO.nil ?_
                refine CW.ret ?_
                refine QC.then_r ?_
                obtain rfl := Option.some.inj h
                obtain rfl := afterS_inr hk104
                exact retP1 (Ψ := Φ) [0] (by decide) rfl (RV.tmp rfl) rfl (fun w hΦ => hΦ.1.1.1.1.1.1.1) ⟨(), rfl, rfl, rfl⟩
              · replace h := iteF hb118 h
                refine CW.skip ?_
                obtain rfl := Option.some.inj h
                refine QC.meetP (v112.l, v112.l.l, v112, v112.bags, q114, q115, q116) (afterS_inl hk104) [0, 1, 2, 3, 4, 5] (by decide) (by exact ⟨rfl, rfl, trivial⟩) rfl (fun w hΦ => ⟨hΦ.1, (hΦ.2.1), (hΦ.2.2.1), (hΦ.2.2.2)⟩)
            · replace hb108 := Bool.eq_false_iff.2 hb108
              replace h := iteF hb108 h
              refine CW.reg ?_
              refine RO.val (Wt.no rfl) rfl (PV.move rfl) ?_
              refine RO.val (Wt.no rfl) rfl (PV.neq rfl rfl) ?_
              refine RO.val (Wt.no rfl) rfl ((PV.move rfl).to (congrArg Value.bool hb106)) ?_
              refine RO.val (Wt.yes rfl rfl rfl rfl) rfl (PV.fieldAddr Try.fa45_1 rfl) ?_
              refine RO.val (Wt.yes rfl rfl rfl rfl) rfl (PV.loadM (l := [.int .i64 v33.N]) 5 Try.TF3 rfl rfl (cut_Dot_N _ _) rfl (by decide)) ?_
              refine RO.val (Wt.yes rfl rfl rfl rfl) rfl (PV.neq rfl rfl) ?_
              refine RO.val (Wt.no rfl) rfl (PV.pickF rfl rfl) ?_
              refine RO.val (Wt.no rfl) rfl ((PV.move rfl).to (congrArg Value.bool hb107)) ?_
              refine RO.val (Wt.yes rfl rfl rfl rfl) rfl (PV.move rfl) ?_
              refine RO.val (Wt.yes rfl rfl rfl rfl) rfl ((PV.move rfl).to (congrArg Value.bool hb108)) ?_
              refine RO.skip (Un.mk rfl rfl rfl rfl) rfl ?_
              refine RO.skip (Un.mk rfl rfl rfl rfl) rfl ?_
              refine RO.skip (Un.mk rfl rfl rfl rfl) rfl ?_
              refine RO.skip (Un.mk rfl rfl rfl rfl) rfl ?_
              refine RO.skip (Un.mk rfl rfl rfl rfl) rfl ?_
              refine RO.skip (Un.mk rfl rfl rfl rfl) rfl ?_
              refine RO.val (Wt.yes rfl rfl rfl rfl) rfl (PV.pickF rfl rfl) ?_
              refine RO.val (Wt.no rfl) rfl (PV.pickF rfl rfl) ?_
              refine RO.nil ?_
              refine CW.condF rfl ?_
              refine CW.skip ?_
              obtain rfl := Option.some.inj h
              refine QC.meetP (v35.l, v35.l.l, v35, v35.bags, q37, q38, q39) (afterS_inl hk104) [0, 1, 2, 3, 4, 5] (by decide) (by exact ⟨rfl, rfl, trivial⟩) rfl (fun w hΦ => ⟨hΦ, (hΦ.2.1), (hΦ.2.2.1), (hΦ.2.2.2)⟩)
      · rintro ⟨v43, v44, v46, v48, q45, q47, q49⟩ h
        try dsimp only at h ⊢
        unfold S.law18_VaultFull_j5 at h
        refine CW.reg ?_
        refine RO.val (Wt.no rfl) rfl (PV.assign rfl) ?_
        refine RO.nil ?_
        replace h := bindS h
        obtain ⟨e88, h, hk87⟩ := h
        refine CW.meet (X := Int) (fun x => [(4, .bool false), (5, .pointer (some ⟨g9, 0, none⟩)), (16, .int .i64 x)]) (fun x => [frame D, .blk g3 (S.t_ledger_Ledger.enc ({ v43 with l := v44 } : S.ledger_Ledger) (hf [q45])), rowE S.t_Deed 106 v44 q45, .blk g9 (S.t_vault_Vault.enc v46 (hf [(pq g3), q47, (pq g10)])), mpE Value.string S.t_Bag g10 v48 q49, .blk g41 (S.t_Dot.enc v33 (hf []))]) (fun x w => (((((((Φ w ∧ True) ∧ (rdS S.t_Deed w v1.l q4.sub)) ∧ (slR (tInt .i64) w v6.ring.Plan.Targets q11 ∧ mpR S.t_Bag w v6.bags q12 ∧ rdS S.t_Deed w v7.l q13.sub)) ∧ (rdS S.t_Deed w v17 q18.sub ∧ slR (tInt .i64) w v19.ring.Plan.Targets q20 ∧ mpR S.t_Bag w v21 q22)) ∧ (rdS S.t_Deed w v25 q26.sub ∧ slR (tInt .i64) w v27.ring.Plan.Targets q28 ∧ mpR S.t_Bag w v29 q30)) ∧ (rdS S.t_Deed w v35.l.l q37.sub ∧ slR (tInt .i64) w v35.ring.Plan.Targets q38 ∧ mpR S.t_Bag w v35.bags q39)) ∧ (rdS S.t_Deed w v44 q45.sub ∧ slR (tInt .i64) w v46.ring.Plan.Targets q47 ∧ mpR S.t_Bag w v48 q49))) (fun x => S.law18_VaultFull_j7 v46 v43 v44 v48 x = some r) ?_ ?_
        · skip
          refine CW.block ?_
          refine CW.loopE (X := Nat × Int) (fun x => [(4, .bool false), (5, .pointer (some ⟨g9, 0, none⟩)), (16, .int .i64 x.2)]) (fun x => [frame D, .blk g3 (S.t_ledger_Ledger.enc ({ v43 with l := v44 } : S.ledger_Ledger) (hf [q45])), rowE S.t_Deed 106 v44 q45, .blk g9 (S.t_vault_Vault.enc v46 (hf [(pq g3), q47, (pq g10)])), mpE Value.string S.t_Bag g10 v48 q49, .blk g41 (S.t_Dot.enc v33 (hf []))]) (fun x w => (((((((Φ w ∧ True) ∧ (rdS S.t_Deed w v1.l q4.sub)) ∧ (slR (tInt .i64) w v6.ring.Plan.Targets q11 ∧ mpR S.t_Bag w v6.bags q12 ∧ rdS S.t_Deed w v7.l q13.sub)) ∧ (rdS S.t_Deed w v17 q18.sub ∧ slR (tInt .i64) w v19.ring.Plan.Targets q20 ∧ mpR S.t_Bag w v21 q22)) ∧ (rdS S.t_Deed w v25 q26.sub ∧ slR (tInt .i64) w v27.ring.Plan.Targets q28 ∧ mpR S.t_Bag w v29 q30)) ∧ (rdS S.t_Deed w v35.l.l q37.sub ∧ slR (tInt .i64) w v35.ring.Plan.Targets q38 ∧ mpR S.t_Bag w v35.bags q39)) ∧ (rdS S.t_Deed w v44 q45.sub ∧ slR (tInt .i64) w v46.ring.Plan.Targets q47 ∧ mpR S.t_Bag w v48 q49))) (fun x => loopN (S.law18_VaultFull_l8 v46 v43 v44 v48) x.1 x.2 = some e88) (fun x => x.1) (FUEL, 0) h (by exact ⟨rfl, rfl, rfl, trivial⟩) rfl (fun w hΦ => hΦ) ?_
          rintro ⟨n96', v93⟩ hI94
          try dsimp only at hI94 ⊢
          obtain ⟨n96, y95, rfl, h, hk97⟩ := loopN_some hI94
          unfold S.law18_VaultFull_l8 at h
          try dsimp only at h
          refine CW.seq ?_
          replace h := bindS h
          obtain ⟨v98, hx99, h⟩ := h
          by_cases hb102 : (decide ((v98.length : Int) = 0)) = true
          · replace h := iteT hb102 h
            refine CW.reg ?_
            refine RO.val (Wt.no rfl) rfl (PV.move rfl) ?_
            refine RO.val (Wt.no rfl) rfl (PV.move rfl) ?_
            refine RO.eff (Wt.no rfl) rfl (EV.call (K := _) Try.call37 rfl (SpecK.call [3, 1, 2, 4] (fun x : Hd => [frame D, .blk g3 (S.t_ledger_Ledger.enc ({ v43 with l := v44 } : S.ledger_Ledger) (hf [q45])), rowE S.t_Deed 106 v44 q45, .blk g9 (S.t_vault_Vault.enc v46 (hf [(pq g3), q47, (pq g10)])), mpE Value.string S.t_Bag g10 v48 q49, .blk g41 (S.t_Dot.enc v33 (hf []))]) (Outs.cons rfl (Outs.cons rfl (Outs.cons rfl (Outs.cons rfl Outs.nil)))) (fun _ => (Outs.cons rfl (Outs.cons rfl (Outs.cons rfl (Outs.cons rfl Outs.nil))))) (W_vault_Vault_Keys ({ v46 with l := ({ v43 with l := v44 } : S.ledger_Ledger), bags := v48 } : S.vault_Vault) v93 g9 g3 g10 q45 q47 q49 hx99 (fun w hm hΦ => ⟨(hΦ.2.1), (hΦ.2.2.1), (hΦ.2.2.2)⟩)))) ?_
            rintro _ _ _ ⟨q100, rfl, rfl, rfl⟩
            refine RO.val (Wt.no rfl) rfl (PV.lenS Try.underlying76 rfl) ?_
            refine RO.val (Wt.no rfl) rfl (PV.eql rfl rfl) ?_
            refine RO.val (Wt.no rfl) rfl ((PV.move rfl).to (congrArg Value.bool hb102)) ?_
            refine RO.val (Wt.yes rfl rfl rfl rfl) rfl (PV.move rfl) ?_
            refine RO.val (Wt.yes rfl rfl rfl rfl) rfl (PV.lss rfl rfl) ?_
            refine RO.val (Wt.no rfl) rfl (PV.pickT rfl rfl) ?_
            refine RO.nil ?_
            refine CW.cond rfl (fun hb103 => ?_) (fun hb103 => ?_)
            · replace h := iteT hb103 h
              refine CW.skip ?_
              refine QC.then_n ?_
              refine CW.block ?_
              refine CW.region ?_
              refine RO.val (Wt.no rfl) rfl (PV.move rfl) ?_
              refine RO.val (Wt.no rfl) rfl (PV.addW rfl rfl) ?_
              refine RO.val (Wt.no rfl) rfl (PV.assign rfl) ?_
              refine RO.nil ?_
              refine QC.blk_n ?_
              obtain rfl := Option.some.inj h
              refine QC.roundP (n96, (w64 (v93 + 1))) (nextL_inl hk97) (by exact Nat.lt_succ_self _) [0, 1, 2, 3, 4, 5] (by decide) (by exact ⟨rfl, rfl, rfl, trivial⟩) rfl (fun w hΦ => hΦ.1)
            · replace h := iteF hb103 h
              refine CW.exit ?_
              refine QC.then_x ?_
              refine QC.then_x ?_
              refine QC.blk_x ?_
              obtain rfl := Option.some.inj h
              obtain rfl := nextL_inr hk97
              refine QC.meetP v93 hk87 [0, 1, 2, 3, 4, 5] (by decide) (by exact ⟨rfl, rfl, rfl, trivial⟩) rfl (fun w hΦ => hΦ.1)
          · replace hb102 := Bool.eq_false_iff.2 hb102
            replace h := iteF hb102 h
            refine CW.reg ?_
            refine RO.val (Wt.no rfl) rfl (PV.move rfl) ?_
            refine RO.val (Wt.no rfl) rfl (PV.move rfl) ?_
            refine RO.eff (Wt.no rfl) rfl (EV.call (K := _) Try.call37 rfl (SpecK.call [3, 1, 2, 4] (fun x : Hd => [frame D, .blk g3 (S.t_ledger_Ledger.enc ({ v43 with l := v44 } : S.ledger_Ledger) (hf [q45])), rowE S.t_Deed 106 v44 q45, .blk g9 (S.t_vault_Vault.enc v46 (hf [(pq g3), q47, (pq g10)])), mpE Value.string S.t_Bag g10 v48 q49, .blk g41 (S.t_Dot.enc v33 (hf []))]) (Outs.cons rfl (Outs.cons rfl (Outs.cons rfl (Outs.cons rfl Outs.nil)))) (fun _ => (Outs.cons rfl (Outs.cons rfl (Outs.cons rfl (Outs.cons rfl Outs.nil))))) (W_vault_Vault_Keys ({ v46 with l := ({ v43 with l := v44 } : S.ledger_Ledger), bags := v48 } : S.vault_Vault) v93 g9 g3 g10 q45 q47 q49 hx99 (fun w hm hΦ => ⟨(hΦ.2.1), (hΦ.2.2.1), (hΦ.2.2.2)⟩)))) ?_
            rintro _ _ _ ⟨q100, rfl, rfl, rfl⟩
            refine RO.val (Wt.no rfl) rfl (PV.lenS Try.underlying76 rfl) ?_
            refine RO.val (Wt.no rfl) rfl (PV.eql rfl rfl) ?_
            refine RO.val (Wt.no rfl) rfl ((PV.move rfl).to (congrArg Value.bool hb102)) ?_
            refine RO.skip (Un.mk rfl rfl rfl rfl) rfl ?_
            refine RO.skip (Un.mk rfl rfl rfl rfl) rfl ?_
            refine RO.val (Wt.no rfl) rfl (PV.pickF rfl rfl) ?_
            refine RO.nil ?_
            refine CW.condF rfl ?_
            refine CW.exit ?_
            refine QC.then_x ?_
            refine QC.then_x ?_
            refine QC.blk_x ?_
            obtain rfl := Option.some.inj h
            obtain rfl := nextL_inr hk97
            refine QC.meetP v93 hk87 [0, 1, 2, 3, 4, 5] (by decide) (by exact ⟨rfl, rfl, rfl, trivial⟩) rfl (fun w hΦ => hΦ.1)
        · rintro v51 h
          try dsimp only at h ⊢
          unfold S.law18_VaultFull_j7 at h
          replace h := bindS h
          obtain ⟨v52, hx53, h⟩ := h
          refine CW.reg ?_
          refine RO.val (Wt.no rfl) rfl (PV.move rfl) ?_
          refine RO.val (Wt.no rfl) rfl (PV.move rfl) ?_
          refine RO.eff (Wt.no rfl) rfl (EV.call (K := _) Try.call37 rfl (SpecK.call [3, 1, 2, 4] (fun x : Hd => [frame D, .blk g3 (S.t_ledger_Ledger.enc ({ v43 with l := v44 } : S.ledger_Ledger) (hf [q45])), rowE S.t_Deed 106 v44 q45, .blk g9 (S.t_vault_Vault.enc v46 (hf [(pq g3), q47, (pq g10)])), mpE Value.string S.t_Bag g10 v48 q49, .blk g41 (S.t_Dot.enc v33 (hf []))]) (Outs.cons rfl (Outs.cons rfl (Outs.cons rfl (Outs.cons rfl Outs.nil)))) (fun _ => (Outs.cons rfl (Outs.cons rfl (Outs.cons rfl (Outs.cons rfl Outs.nil))))) (W_vault_Vault_Keys ({ v46 with l := ({ v43 with l := v44 } : S.ledger_Ledger), bags := v48 } : S.vault_Vault) v51 g9 g3 g10 q45 q47 q49 hx53 (fun w hm hΦ => ⟨(hΦ.2.1), (hΦ.2.2.1), (hΦ.2.2.2)⟩)))) ?_
          rintro _ _ _ ⟨q54, rfl, rfl, rfl⟩
          refine RO.val (Wt.no rfl) rfl (PV.lenS Try.underlying76 rfl) ?_
          refine RO.val (Wt.no rfl) rfl (PV.assign rfl) ?_
          refine RO.nil ?_
          replace h := bindS h
          obtain ⟨⟨v56, v57, v58⟩, hx59, h⟩ := h
          dsimp only at h
          refine CW.reg ?_
          refine RO.val (Wt.no rfl) rfl (PV.move rfl) ?_
          refine RO.val (Wt.no rfl) rfl (PV.buildS (B := S.t_A8_int.enc (Vector.replicate 8 (0 : Int)) (hf [])) (xs := []) [] Try.BT37 rfl rfl rfl (by simp) trivial rfl) ?_
          refine RO.eff (Wt.no rfl) rfl (EV.call (K := _) Try.call36 rfl (SpecK.call [3, 1, 2, 4] (fun x : Hd × Hd × (Nat → Hs) => [frame D, .blk g3 (S.t_ledger_Ledger.enc v58.l (hf [x.1])), rowE S.t_Deed 106 v58.l.l x.1, .blk g9 (S.t_vault_Vault.enc v58 (hf [(pq g3), x.2.1, (pq g10)])), mpE Value.string S.t_Bag g10 v58.bags x.2.2, .blk g41 (S.t_Dot.enc v33 (hf []))]) (Outs.cons rfl (Outs.cons rfl (Outs.cons rfl (Outs.cons rfl Outs.nil)))) (fun _ => (Outs.cons rfl (Outs.cons rfl (Outs.cons rfl (Outs.cons rfl Outs.nil))))) (W_vault_Vault_Put ({ v46 with l := ({ v43 with l := v44 } : S.ledger_Ledger), bags := v48 } : S.vault_Vault) 0 (⟨#[102, 114, 101, 115, 104]⟩ : ByteArray) (Vector.replicate 8 (0 : Int)) (⟨#[120]⟩ : ByteArray) g9 g3 g10 q45 q47 q49 hx59 (fun w hΦ => ⟨(hΦ.1.2.1), (hΦ.1.2.2.1), (hΦ.1.2.2.2)⟩)))) ?_
          rintro _ _ _ ⟨⟨q60, q61, q62⟩, rfl, rfl, rfl⟩
          refine RO.val (Wt.no rfl) rfl (PV.move rfl) ?_
          refine RO.val (Wt.no rfl) rfl (PV.extract rfl rfl) ?_
          refine RO.val (Wt.no rfl) rfl (PV.extract rfl rfl) ?_
          refine RO.eff (Wt.no rfl) rfl (EV.allocB (B := S.t_Dot.enc S.Dot.z (hf [])) Try.zeroValue45 rfl) ?_
          rintro _ _ _ ⟨g64, rfl, rfl, rfl⟩
          refine RO.eff (Wt.no rfl) rfl (EV.storeW (B := S.t_Dot.enc v56 (hf [])) 6 Try.TF45 rfl rfl rfl (by exact S.t_Dot.len v56 (hf [])) (by exact S.t_Dot.one v56 (hf [])) (S.t_Dot.len S.Dot.z (hf [])) rfl) ?_
          rintro _ _ _ ⟨rfl, rfl, rfl⟩
          refine RO.val (Wt.no rfl) rfl (PV.assign rfl) ?_
          refine RO.nil ?_
          replace h := bindS h
          obtain ⟨⟨v65, v66⟩, hx67, h⟩ := h
          dsimp only at h
          refine CW.reg ?_
          refine RO.val (Wt.no rfl) rfl (PV.move rfl) ?_
          refine RO.val (Wt.no rfl) rfl (PV.move rfl) ?_
          refine RO.eff (Wt.no rfl) rfl (EV.call (K := _) Try.call38 rfl (SpecK.call [3, 1, 2, 4] (fun x : Hd × Hd × (Nat → Hs) => [frame D, .blk g3 (S.t_ledger_Ledger.enc v66.l (hf [x.1])), rowE S.t_Deed 106 v66.l.l x.1, .blk g9 (S.t_vault_Vault.enc v66 (hf [(pq g3), x.2.1, (pq g10)])), mpE Value.string S.t_Bag g10 v66.bags x.2.2, .blk g41 (S.t_Dot.enc v33 (hf [])), .blk g64 (S.t_Dot.enc v56 (hf []))]) (Outs.cons rfl (Outs.cons rfl (Outs.cons rfl (Outs.cons rfl Outs.nil)))) (fun _ => (Outs.cons rfl (Outs.cons rfl (Outs.cons rfl (Outs.cons rfl Outs.nil))))) (W_vault_Vault_Drop v58 v51 g9 g3 g10 q60 q61 q62 hx67 (fun w hΦ => ⟨(hΦ.2.1), (hΦ.2.2.1), (hΦ.2.2.2)⟩)))) ?_
          rintro _ _ _ ⟨⟨q68, q69, q70⟩, rfl, rfl, rfl⟩
          refine RO.val (Wt.no rfl) rfl (PV.assign rfl) ?_
          refine RO.nil ?_
          replace h := bindS h
          obtain ⟨⟨v72, v73, v74⟩, hx75, h⟩ := h
          dsimp only at h
          refine CW.reg ?_
          refine RO.val (Wt.no rfl) rfl (PV.move rfl) ?_
          refine RO.val (Wt.no rfl) rfl (PV.buildS (B := S.t_A8_int.enc (Vector.replicate 8 (0 : Int)) (hf [])) (xs := []) [] Try.BT37 rfl rfl rfl (by simp) trivial rfl) ?_
          refine RO.eff (Wt.no rfl) rfl (EV.call (K := _) Try.call36 rfl (SpecK.call [3, 1, 2, 4] (fun x : Hd × Hd × (Nat → Hs) => [frame D, .blk g3 (S.t_ledger_Ledger.enc v74.l (hf [x.1])), rowE S.t_Deed 106 v74.l.l x.1, .blk g9 (S.t_vault_Vault.enc v74 (hf [(pq g3), x.2.1, (pq g10)])), mpE Value.string S.t_Bag g10 v74.bags x.2.2, .blk g41 (S.t_Dot.enc v33 (hf [])), .blk g64 (S.t_Dot.enc v56 (hf []))]) (Outs.cons rfl (Outs.cons rfl (Outs.cons rfl (Outs.cons rfl Outs.nil)))) (fun _ => (Outs.cons rfl (Outs.cons rfl (Outs.cons rfl (Outs.cons rfl Outs.nil))))) (W_vault_Vault_Put v66 0 (⟨#[102, 114, 101, 115, 104]⟩ : ByteArray) (Vector.replicate 8 (0 : Int)) (⟨#[120]⟩ : ByteArray) g9 g3 g10 q68 q69 q70 hx75 (fun w hΦ => ⟨(hΦ.2.1), (hΦ.2.2.1), (hΦ.2.2.2)⟩)))) ?_
          rintro _ _ _ ⟨⟨q76, q77, q78⟩, rfl, rfl, rfl⟩
          refine RO.val (Wt.no rfl) rfl (PV.move rfl) ?_
          refine RO.val (Wt.no rfl) rfl (PV.extract rfl rfl) ?_
          refine RO.val (Wt.no rfl) rfl (PV.extract rfl rfl) ?_
          refine RO.eff (Wt.no rfl) rfl (EV.allocB (B := S.t_Dot.enc S.Dot.z (hf [])) Try.zeroValue45 rfl) ?_
          rintro _ _ _ ⟨g80, rfl, rfl, rfl⟩
          refine RO.eff (Wt.no rfl) rfl (EV.storeW (B := S.t_Dot.enc v72 (hf [])) 7 Try.TF45 rfl rfl rfl (by exact S.t_Dot.len v72 (hf [])) (by exact S.t_Dot.one v72 (hf [])) (S.t_Dot.len S.Dot.z (hf [])) rfl) ?_
          rintro _ _ _ ⟨rfl, rfl, rfl⟩
          refine RO.val (Wt.no rfl) rfl (PV.assign rfl) ?_
          refine RO.nil ?_
          by_cases hb81 : (decide (0 < (v52.length : Int))) = true
          · replace h := iteT hb81 h
            by_cases hb82 : (decide (v57 = 5)) = true
            · replace h := iteT hb82 h
              by_cases hb83 : (decide (v65 = 0)) = true
              · replace h := iteT hb83 h
                by_cases hb84 : (decide (v73 = 0)) = true
                · replace h := iteT hb84 h
                  replace h := bindS h
                  obtain ⟨v85, hx86, h⟩ := h
                  refine CW.reg ?_
                  refine RO.val (Wt.no rfl) rfl (PV.move rfl) ?_
                  refine RO.val (Wt.no rfl) rfl (PV.gtr rfl rfl) ?_
                  refine RO.val (Wt.no rfl) rfl ((PV.move rfl).to (congrArg Value.bool hb81)) ?_
                  refine RO.val (Wt.yes rfl rfl rfl rfl) rfl (PV.move rfl) ?_
                  refine RO.val (Wt.yes rfl rfl rfl rfl) rfl (PV.eql rfl rfl) ?_
                  refine RO.val (Wt.no rfl) rfl (PV.pickT rfl rfl) ?_
                  refine RO.val (Wt.no rfl) rfl ((PV.move rfl).to (congrArg Value.bool hb82)) ?_
                  refine RO.val (Wt.yes rfl rfl rfl rfl) rfl (PV.move rfl) ?_
                  refine RO.val (Wt.yes rfl rfl rfl rfl) rfl (PV.eql rfl rfl) ?_
                  refine RO.val (Wt.no rfl) rfl (PV.pickT rfl rfl) ?_
                  refine RO.val (Wt.no rfl) rfl ((PV.move rfl).to (congrArg Value.bool hb83)) ?_
                  refine RO.val (Wt.yes rfl rfl rfl rfl) rfl (PV.move rfl) ?_
                  refine RO.val (Wt.yes rfl rfl rfl rfl) rfl (PV.eql rfl rfl) ?_
                  refine RO.val (Wt.no rfl) rfl (PV.pickT rfl rfl) ?_
                  refine RO.val (Wt.no rfl) rfl ((PV.move rfl).to (congrArg Value.bool hb84)) ?_
                  refine RO.eff (Wt.yes rfl rfl rfl rfl) rfl (EV.call (K := _) Try.call35 rfl (SpecK.callV (W_law18_awake hx86))) ?_
                  rintro _ _ _ ⟨_, rfl, rfl, rfl⟩
                  refine RO.val (Wt.no rfl) rfl (PV.pickT rfl rfl) ?_
                  refine RO.val (Wt.no rfl) rfl (PV.assign rfl) ?_
                  refine RO.nil ?_
                  refine CW.ret ?_
                  obtain rfl := Option.some.inj h
                  exact retP1 (Ψ := Φ) [0] (by decide) rfl (RV.tmp rfl) rfl (fun w hΦ => hΦ.1.1.1.1.1.1.1.1.1.1.1) ⟨(), rfl, rfl, rfl⟩
                · replace hb84 := Bool.eq_false_iff.2 hb84
                  replace h := iteF hb84 h
                  refine CW.reg ?_
                  refine RO.val (Wt.no rfl) rfl (PV.move rfl) ?_
                  refine RO.val (Wt.no rfl) rfl (PV.gtr rfl rfl) ?_
                  refine RO.val (Wt.no rfl) rfl ((PV.move rfl).to (congrArg Value.bool hb81)) ?_
                  refine RO.val (Wt.yes rfl rfl rfl rfl) rfl (PV.move rfl) ?_
                  refine RO.val (Wt.yes rfl rfl rfl rfl) rfl (PV.eql rfl rfl) ?_
                  refine RO.val (Wt.no rfl) rfl (PV.pickT rfl rfl) ?_
                  refine RO.val (Wt.no rfl) rfl ((PV.move rfl).to (congrArg Value.bool hb82)) ?_
                  refine RO.val (Wt.yes rfl rfl rfl rfl) rfl (PV.move rfl) ?_
                  refine RO.val (Wt.yes rfl rfl rfl rfl) rfl (PV.eql rfl rfl) ?_
                  refine RO.val (Wt.no rfl) rfl (PV.pickT rfl rfl) ?_
                  refine RO.val (Wt.no rfl) rfl ((PV.move rfl).to (congrArg Value.bool hb83)) ?_
                  refine RO.val (Wt.yes rfl rfl rfl rfl) rfl (PV.move rfl) ?_
                  refine RO.val (Wt.yes rfl rfl rfl rfl) rfl (PV.eql rfl rfl) ?_
                  refine RO.val (Wt.no rfl) rfl (PV.pickT rfl rfl) ?_
                  refine RO.val (Wt.no rfl) rfl ((PV.move rfl).to (congrArg Value.bool hb84)) ?_
                  refine RO.skip (Un.mk rfl rfl rfl rfl) rfl ?_
                  refine RO.val (Wt.no rfl) rfl (PV.pickF rfl rfl) ?_
                  refine RO.val (Wt.no rfl) rfl (PV.assign rfl) ?_
                  refine RO.nil ?_
                  refine CW.ret ?_
                  obtain rfl := Option.some.inj h
                  exact retP1 (Ψ := Φ) [0] (by decide) rfl (RV.tmp rfl) rfl (fun w hΦ => hΦ.1.1.1.1.1.1.1.1.1.1.1) ⟨(), rfl, rfl, rfl⟩
              · replace hb83 := Bool.eq_false_iff.2 hb83
                replace h := iteF hb83 h
                refine CW.reg ?_
                refine RO.val (Wt.no rfl) rfl (PV.move rfl) ?_
                refine RO.val (Wt.no rfl) rfl (PV.gtr rfl rfl) ?_
                refine RO.val (Wt.no rfl) rfl ((PV.move rfl).to (congrArg Value.bool hb81)) ?_
                refine RO.val (Wt.yes rfl rfl rfl rfl) rfl (PV.move rfl) ?_
                refine RO.val (Wt.yes rfl rfl rfl rfl) rfl (PV.eql rfl rfl) ?_
                refine RO.val (Wt.no rfl) rfl (PV.pickT rfl rfl) ?_
                refine RO.val (Wt.no rfl) rfl ((PV.move rfl).to (congrArg Value.bool hb82)) ?_
                refine RO.val (Wt.yes rfl rfl rfl rfl) rfl (PV.move rfl) ?_
                refine RO.val (Wt.yes rfl rfl rfl rfl) rfl (PV.eql rfl rfl) ?_
                refine RO.val (Wt.no rfl) rfl (PV.pickT rfl rfl) ?_
                refine RO.val (Wt.no rfl) rfl ((PV.move rfl).to (congrArg Value.bool hb83)) ?_
                refine RO.skip (Un.mk rfl rfl rfl rfl) rfl ?_
                refine RO.skip (Un.mk rfl rfl rfl rfl) rfl ?_
                refine RO.val (Wt.no rfl) rfl (PV.pickF rfl rfl) ?_
                refine RO.val (Wt.no rfl) rfl (PV.move rfl) ?_
                refine RO.skip (Un.mk rfl rfl rfl rfl) rfl ?_
                refine RO.val (Wt.no rfl) rfl (PV.pickF rfl rfl) ?_
                refine RO.val (Wt.no rfl) rfl (PV.assign rfl) ?_
                refine RO.nil ?_
                refine CW.ret ?_
                obtain rfl := Option.some.inj h
                exact retP1 (Ψ := Φ) [0] (by decide) rfl (RV.tmp rfl) rfl (fun w hΦ => hΦ.1.1.1.1.1.1.1.1.1.1.1) ⟨(), rfl, rfl, rfl⟩
            · replace hb82 := Bool.eq_false_iff.2 hb82
              replace h := iteF hb82 h
              refine CW.reg ?_
              refine RO.val (Wt.no rfl) rfl (PV.move rfl) ?_
              refine RO.val (Wt.no rfl) rfl (PV.gtr rfl rfl) ?_
              refine RO.val (Wt.no rfl) rfl ((PV.move rfl).to (congrArg Value.bool hb81)) ?_
              refine RO.val (Wt.yes rfl rfl rfl rfl) rfl (PV.move rfl) ?_
              refine RO.val (Wt.yes rfl rfl rfl rfl) rfl (PV.eql rfl rfl) ?_
              refine RO.val (Wt.no rfl) rfl (PV.pickT rfl rfl) ?_
              refine RO.val (Wt.no rfl) rfl ((PV.move rfl).to (congrArg Value.bool hb82)) ?_
              refine RO.skip (Un.mk rfl rfl rfl rfl) rfl ?_
              refine RO.skip (Un.mk rfl rfl rfl rfl) rfl ?_
              refine RO.val (Wt.no rfl) rfl (PV.pickF rfl rfl) ?_
              refine RO.val (Wt.no rfl) rfl (PV.move rfl) ?_
              refine RO.skip (Un.mk rfl rfl rfl rfl) rfl ?_
              refine RO.skip (Un.mk rfl rfl rfl rfl) rfl ?_
              refine RO.val (Wt.no rfl) rfl (PV.pickF rfl rfl) ?_
              refine RO.val (Wt.no rfl) rfl (PV.move rfl) ?_
              refine RO.skip (Un.mk rfl rfl rfl rfl) rfl ?_
              refine RO.val (Wt.no rfl) rfl (PV.pickF rfl rfl) ?_
              refine RO.val (Wt.no rfl) rfl (PV.assign rfl) ?_
              refine RO.nil ?_
              refine CW.ret ?_
              obtain rfl := Option.some.inj h
              exact retP1 (Ψ := Φ) [0] (by decide) rfl (RV.tmp rfl) rfl (fun w hΦ => hΦ.1.1.1.1.1.1.1.1.1.1.1) ⟨(), rfl, rfl, rfl⟩
          · replace hb81 := Bool.eq_false_iff.2 hb81
            replace h := iteF hb81 h
            refine CW.reg ?_
            refine RO.val (Wt.no rfl) rfl (PV.move rfl) ?_
            refine RO.val (Wt.no rfl) rfl (PV.gtr rfl rfl) ?_
            refine RO.val (Wt.no rfl) rfl ((PV.move rfl).to (congrArg Value.bool hb81)) ?_
            refine RO.skip (Un.mk rfl rfl rfl rfl) rfl ?_
            refine RO.skip (Un.mk rfl rfl rfl rfl) rfl ?_
            refine RO.val (Wt.no rfl) rfl (PV.pickF rfl rfl) ?_
            refine RO.val (Wt.no rfl) rfl (PV.move rfl) ?_
            refine RO.skip (Un.mk rfl rfl rfl rfl) rfl ?_
            refine RO.skip (Un.mk rfl rfl rfl rfl) rfl ?_
            refine RO.val (Wt.no rfl) rfl (PV.pickF rfl rfl) ?_
            refine RO.val (Wt.no rfl) rfl (PV.move rfl) ?_
            refine RO.skip (Un.mk rfl rfl rfl rfl) rfl ?_
            refine RO.skip (Un.mk rfl rfl rfl rfl) rfl ?_
            refine RO.val (Wt.no rfl) rfl (PV.pickF rfl rfl) ?_
            refine RO.val (Wt.no rfl) rfl (PV.move rfl) ?_
            refine RO.skip (Un.mk rfl rfl rfl rfl) rfl ?_
            refine RO.val (Wt.no rfl) rfl (PV.pickF rfl rfl) ?_
            refine RO.val (Wt.no rfl) rfl (PV.assign rfl) ?_
            refine RO.nil ?_
            refine CW.ret ?_
            obtain rfl := Option.some.inj h
            exact retP1 (Ψ := Φ) [0] (by decide) rfl (RV.tmp rfl) rfl (fun w hΦ => hΦ.1.1.1.1.1.1.1.1.1.1.1) ⟨(), rfl, rfl, rfl⟩

end Go.Proofs.Ytofmaoickidjcaa

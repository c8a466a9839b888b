/- A part of the proof: Walk (for the law Vf). -/
import Derived.Test.YtofmaoickidjcaaProg
import Derived.Test.YtofmaoickidjcaaVfIns
import Derived.Test.YtofmaoickidjcaaVfPlain
import Derived.Test.YtofmaoickidjcaaVfSl
import Derived.Test.YtofmaoickidjcaaVfSortL
import Derived.Test.YtofmaoickidjcaaVfWalk0
set_option linter.all false
namespace Go.Proofs.Ytofmaoickidjcaa
open Go Go.Sx Go.S
set_option maxHeartbeats 1000000
set_option maxRecDepth 4000
theorem W_bag_May {D : Mem} {Φ : World → Prop} (a1 : S.Bag) (b1_0 : Hd) {r : Bool} (h : S.bag_May a1 = some r) (hR : ∀ w, MemOk D w → Φ w → (slR S.t_Val w a1.Values b1_0)) :
    SpecK Try.prog 73 [.agg (S.t_Bag.enc a1 (hf [b1_0])).toArray] D [] Φ (fun x : Unit => .bool r) (fun x => []) (fun x => []) (fun _ => Φ) := by
  refine enterK Try.func73 rfl Try.ntmps73 rfl ?_
  unfold S.bag_May at h
  refine CW.reg ?_
  refine RO.eff (Wt.no rfl) rfl (EV.boxB (B := S.t_Bag.enc a1 (hf [b1_0])) rfl rfl) ?_
  rintro _ _ _ ⟨g1, rfl, rfl, rfl⟩
  refine RO.val (Wt.no rfl) rfl (PV.assign rfl) ?_
  refine RO.nil ?_
  refine CW.seq ?_
  replace h := bindS h
  obtain ⟨e31, h, hk30⟩ := h
  refine CW.meet (X := Bool) (fun x => [(1, .pointer (some ⟨g1, 0, none⟩)), (2, .bool false), (14, .bool x)]) (fun x => [frame D, .blk g1 (S.t_Bag.enc a1 (hf [b1_0]))]) (fun x w => (Φ w ∧ True)) (fun x => S.bag_May_j1 a1 x = some r) ?_ ?_
  · skip
    replace h := bindS h
    obtain ⟨v32, hx33, h⟩ := h
    by_cases hb34 : (!v32) = true
    · replace h := iteT hb34 h
      refine CW.region ?_
      refine RO.val (Wt.no rfl) rfl (PV.fieldAddr Try.fa40_0 rfl) ?_
      refine RO.val (Wt.no rfl) rfl (PV.loadM (l := S.t_A8_int.enc a1.Known (hf [])) 1 Try.TF37 rfl rfl (cut_Bag_Known _ _) rfl (by decide)) ?_
      refine RO.eff (Wt.no rfl) rfl (EV.call (K := _) Try.call63 rfl (SpecK.callV (W_clock_May a1.Known hx33))) ?_
      rintro _ _ _ ⟨_, rfl, rfl, rfl⟩
      refine RO.val (Wt.no rfl) rfl (PV.not rfl) ?_
      refine RO.val (Wt.no rfl) rfl ((PV.move rfl).to (congrArg Value.bool hb34)) ?_
      refine RO.skip (Un.mk rfl rfl rfl rfl) rfl ?_
      refine RO.skip (Un.mk rfl rfl rfl rfl) rfl ?_
      refine RO.skip (Un.mk rfl rfl rfl rfl) rfl ?_
      refine RO.skip (Un.mk rfl rfl rfl rfl) rfl ?_
      refine RO.val (Wt.no rfl) rfl (PV.pickT rfl rfl) ?_
      refine RO.nil ?_
      obtain rfl := Option.some.inj h
      refine QC.meetP true hk30 [0, 1] (by decide) (by exact ⟨rfl, rfl, rfl, trivial⟩) rfl (fun w hΦ => hΦ)
    · replace hb34 := Bool.eq_false_iff.2 hb34
      replace h := iteF hb34 h
      refine CW.region ?_
      refine RO.val (Wt.no rfl) rfl (PV.fieldAddr Try.fa40_0 rfl) ?_
      refine RO.val (Wt.no rfl) rfl (PV.loadM (l := S.t_A8_int.enc a1.Known (hf [])) 1 Try.TF37 rfl rfl (cut_Bag_Known _ _) rfl (by decide)) ?_
      refine RO.eff (Wt.no rfl) rfl (EV.call (K := _) Try.call63 rfl (SpecK.callV (W_clock_May a1.Known hx33))) ?_
      rintro _ _ _ ⟨_, rfl, rfl, rfl⟩
      refine RO.val (Wt.no rfl) rfl (PV.not rfl) ?_
      refine RO.val (Wt.no rfl) rfl ((PV.move rfl).to (congrArg Value.bool hb34)) ?_
      refine RO.val (Wt.yes rfl rfl rfl rfl) rfl (PV.fieldAddr Try.fa40_1 rfl) ?_
      refine RO.val (Wt.yes rfl rfl rfl rfl) rfl (PV.loadM (l := [.slice b1_0.a a1.Values.length b1_0.cap]) 1 Try.TF38 rfl rfl (cut_Bag_Values _ _) rfl (by decide)) ?_
      refine RO.val (Wt.yes rfl rfl rfl rfl) rfl (PV.lenS Try.underlying38 rfl) ?_
      refine RO.val (Wt.yes rfl rfl rfl rfl) rfl (PV.gtr rfl rfl) ?_
      refine RO.val (Wt.no rfl) rfl (PV.pickF rfl rfl) ?_
      refine RO.nil ?_
      obtain rfl := Option.some.inj h
      refine QC.meetP (decide (32 < (a1.Values.length : Int))) hk30 [0, 1] (by decide) (by exact ⟨rfl, rfl, rfl, trivial⟩) rfl (fun w hΦ => hΦ)
  · rintro v3 h
    try dsimp only at h ⊢
    unfold S.bag_May_j1 at h
    refine CW.cond rfl (fun hb4 => ?_) (fun hb4 => ?_)
    · replace h := iteT hb4 h
      subst hb4
      refine CW.reg ?_
      refine RO.val (Wt.no rfl) rfl (PV.assign rfl) ?_
      refine RO.nil ?_
      refine CW.ret ?_
      refine QC.then_r ?_
      obtain rfl := Option.some.inj h
      exact retP1 (Ψ := Φ) [0] (by decide) rfl (RV.tmp rfl) rfl (fun w hΦ => hΦ.1) ⟨(), rfl, rfl, rfl⟩
    · replace h := iteF hb4 h
      subst hb4
      refine CW.skip ?_
      refine QC.then_n ?_
      replace h := andThen_some h
      obtain ⟨e7, h, hk6⟩ := h
      refine CW.meet (X := Unit) (fun x => [(2, .bool false)]) (fun x => [frame D, .blk g1 (S.t_Bag.enc a1 (hf [b1_0]))]) (fun x w => (Φ w ∧ True)) (fun x => S.bag_May_j3 = some r) ?_ ?_
      · skip
        refine CW.reg ?_
        refine RO.val (Wt.no rfl) rfl (PV.fieldAddr Try.fa40_1 rfl) ?_
        refine RO.val (Wt.no rfl) rfl (PV.loadM (l := [.slice b1_0.a a1.Values.length b1_0.cap]) 1 Try.TF38 rfl rfl (cut_Bag_Values _ _) rfl (by decide)) ?_
        refine RO.val (Wt.no rfl) rfl (PV.lenS Try.underlying38 rfl) ?_
        refine RO.val (Wt.no rfl) rfl (PV.move rfl) ?_
        refine RO.nil ?_
        refine CW.block ?_
        refine CW.loopE (X := Nat × Int) (fun x => [(1, .pointer (some ⟨g1, 0, none⟩)), (2, .bool false), (16, .slice b1_0.a a1.Values.length b1_0.cap), (17, .int .i64 (a1.Values.length : Int)), (18, .int .i64 x.2)]) (fun x => [frame D, .blk g1 (S.t_Bag.enc a1 (hf [b1_0]))]) (fun x w => (Φ w ∧ True)) (fun x => loopN (S.bag_May_l4 a1) x.1 x.2 = some e7) (fun x => x.1) (FUEL, 0) h (by exact ⟨rfl, rfl, rfl, rfl, rfl, trivial⟩) rfl (fun w hΦ => hΦ) ?_
        rintro ⟨n15', v12⟩ hI13
        try dsimp only at hI13 ⊢
        obtain ⟨n15, y14, rfl, h, hk16⟩ := loopN_some hI13
        unfold S.bag_May_l4 at h
        try dsimp only at h
        refine CW.reg ?_
        refine RO.val (Wt.no rfl) rfl (PV.lss rfl rfl) ?_
        refine RO.nil ?_
        refine CW.seq ?_
        refine CW.cond rfl (fun hb17 => ?_) (fun hb17 => ?_)
        · replace h := iteT hb17 h
          refine CW.skip ?_
          refine QC.then_n ?_
          refine CW.seq ?_
          refine CW.block ?_
          replace h := bindS h
          obtain ⟨v18, hx19, h⟩ := h
          refine CW.reg ?_
          refine RO.val (Wt.no rfl) rfl (PV.move rfl) ?_
          refine RO.val (Wt.no rfl) rfl (PV.idxQ (t := S.t_Val) (l := a1.Values) (q := b1_0) Try.underlying38 Try.sizeOf80 (fun w hm hΦ => (hR w (hm.frameAt (i := 0) rfl) (hΦ.1))) rfl rfl hx19) ?_
          refine RO.val (Wt.no rfl) rfl (PV.loadQ (off := 0) (cs := S.t_Val.enc v18 (hf [])) (t := S.t_Val) (l := a1.Values) (q := b1_0) Try.TF80 (fun w hm hΦ => (hR w (hm.frameAt (i := 0) rfl) (hΦ.1))) hx19 rfl rfl rfl (cut_self (S.t_Val.len _ _)) rfl (by decide)) ?_
          refine RO.eff (Wt.no rfl) rfl (EV.allocB (B := S.t_Val.enc S.Val.z (hf [])) Try.zeroValue80 rfl) ?_
          rintro _ _ _ ⟨g20, rfl, rfl, rfl⟩
          refine RO.val (Wt.no rfl) rfl (PV.assign rfl) ?_
          refine RO.eff (Wt.no rfl) rfl (EV.storeW (B := S.t_Val.enc v18 (hf [])) 2 Try.TF80 rfl rfl rfl (by exact S.t_Val.len v18 (hf [])) (by exact S.t_Val.one v18 (hf [])) (S.t_Val.len S.Val.z (hf [])) rfl) ?_
          rintro _ _ _ ⟨rfl, rfl, rfl⟩
          refine RO.nil ?_
          replace h := bindS h
          obtain ⟨v21, hx22, h⟩ := h
          by_cases hb23 : (!v21) = true
          · replace h := iteT hb23 h
            refine CW.regD (pickM [0, 1, 2] _) _ (by kernel_rfl) (St.of (by decide) rfl (fun _ h => h)) ?_
            refine RD.take 0 rfl (by kernel_rfl) (by kernel_rfl) (by kernel_rfl) (Wt.no rfl) rfl (PV.loadM (l := S.t_Val.enc v18 (hf [])) 2 Try.TF80 rfl rfl (cut_self (S.t_Val.len _ _)) rfl (by decide)) ?_
            refine RD.take 1 rfl (by kernel_rfl) (by kernel_rfl) (by kernel_rfl) (Wt.no rfl) rfl (PV.fieldAddr Try.fa40_0 rfl) ?_
            refine RD.take 2 rfl (by kernel_rfl) (by kernel_rfl) (by kernel_rfl) (Wt.no rfl) rfl (PV.loadM (l := S.t_A8_int.enc a1.Known (hf [])) 1 Try.TF37 rfl rfl (cut_Bag_Known _ _) rfl (by decide)) ?_
            refine RD.one 3 (by kernel_rfl) ?_
            refine Up.eff rfl (Wt.no rfl) rfl (EV.call (K := _) Try.call103 rfl (SpecK.callV (W_bag_may v18 a1.Known hx22))) ?_ ?_
            · rintro _ _ _ ⟨_, rfl, rfl, rfl⟩; exact St.of' (by decide) (L' := [0, 1, 2]) rfl (fun _ h => h)
            rintro _ _ _ ⟨_, rfl, rfl, rfl⟩
            refine RD.take 4 rfl (by kernel_rfl) (by kernel_rfl) (by kernel_rfl) (Wt.no rfl) rfl (PV.not rfl) ?_
            refine RD.take 5 rfl (by kernel_rfl) (by kernel_rfl) (by kernel_rfl) (Wt.no rfl) rfl ((PV.move rfl).to (congrArg Value.bool hb23)) ?_
            refine RD.takeNo 6 rfl (by kernel_rfl) (by kernel_rfl) (by kernel_rfl) (Un.mk rfl rfl rfl rfl) rfl ?_
            refine RD.takeNo 7 rfl (by kernel_rfl) (by kernel_rfl) (by kernel_rfl) (Un.mk rfl rfl rfl rfl) rfl ?_
            refine RD.takeNo 8 rfl (by kernel_rfl) (by kernel_rfl) (by kernel_rfl) (Un.mk rfl rfl rfl rfl) rfl ?_
            refine RD.takeNo 9 rfl (by kernel_rfl) (by kernel_rfl) (by kernel_rfl) (Un.undef rfl rfl rfl rfl) rfl ?_
            refine RD.takeNo 10 rfl (by kernel_rfl) (by kernel_rfl) (by kernel_rfl) (Un.undef rfl rfl rfl rfl) rfl ?_
            refine RD.takeNo 11 rfl (by kernel_rfl) (by kernel_rfl) (by kernel_rfl) (Un.undef rfl rfl rfl rfl) rfl ?_
            refine RD.takeNo 12 rfl (by kernel_rfl) (by kernel_rfl) (by kernel_rfl) (Un.undef rfl rfl rfl rfl) rfl ?_
            refine RD.takeNo 13 rfl (by kernel_rfl) (by kernel_rfl) (by kernel_rfl) (Un.undef rfl rfl rfl rfl) rfl ?_
            refine RD.takeNo 14 rfl (by kernel_rfl) (by kernel_rfl) (by kernel_rfl) (Un.undef rfl rfl rfl rfl) rfl ?_
            refine RD.takeNo 15 rfl (by kernel_rfl) (by kernel_rfl) (by kernel_rfl) (Un.undef rfl rfl rfl rfl) rfl ?_
            refine RD.takeNo 16 rfl (by kernel_rfl) (by kernel_rfl) (by kernel_rfl) (Un.undef rfl rfl rfl rfl) rfl ?_
            refine RD.takeNo 17 rfl (by kernel_rfl) (by kernel_rfl) (by kernel_rfl) (Un.undef rfl rfl rfl rfl) rfl ?_
            refine RD.takeNo 18 rfl (by kernel_rfl) (by kernel_rfl) (by kernel_rfl) (Un.undef rfl rfl rfl rfl) rfl ?_
            refine RD.takeNo 19 rfl (by kernel_rfl) (by kernel_rfl) (by kernel_rfl) (Un.undef rfl rfl rfl rfl) rfl ?_
            refine RD.takeNo 20 rfl (by kernel_rfl) (by kernel_rfl) (by kernel_rfl) (Un.mk rfl rfl rfl rfl) rfl ?_
            refine RD.take 21 rfl (by kernel_rfl) (by kernel_rfl) (by kernel_rfl) (Wt.no rfl) rfl (PV.pickT rfl rfl) ?_
            refine RD.done (by kernel_rfl) ?_
            refine CW.condT rfl ?_
            refine CW.reg ?_
            refine RO.val (Wt.no rfl) rfl (PV.assign rfl) ?_
            refine RO.nil ?_
            refine CW.ret ?_
            refine QC.blk_r ?_
            refine QC.then_r ?_
            refine QC.then_r ?_
            refine QC.blk_r ?_
            refine QC.then_r ?_
            obtain rfl := Option.some.inj h
            obtain rfl := nextL_inr hk16
            obtain rfl := afterS_inr hk6
            exact retP1 (Ψ := Φ) [0] (by decide) rfl (RV.tmp rfl) rfl (fun w hΦ => hΦ.1) ⟨(), rfl, rfl, rfl⟩
          · replace hb23 := Bool.eq_false_iff.2 hb23
            replace h := iteF hb23 h
            by_cases hb24 : (decide (0 < v12)) = true
            · replace h := iteT hb24 h
              replace h := bindS h
              obtain ⟨v25, hx26, h⟩ := h
              replace h := bindS h
              obtain ⟨v27, hx28, h⟩ := h
              refine CW.regD (pickM [0, 1, 2] _) _ (by kernel_rfl) (St.of (by decide) rfl (fun _ h => h)) ?_
              refine RD.take 0 rfl (by kernel_rfl) (by kernel_rfl) (by kernel_rfl) (Wt.no rfl) rfl (PV.loadM (l := S.t_Val.enc v18 (hf [])) 2 Try.TF80 rfl rfl (cut_self (S.t_Val.len _ _)) rfl (by decide)) ?_
              refine RD.take 1 rfl (by kernel_rfl) (by kernel_rfl) (by kernel_rfl) (Wt.no rfl) rfl (PV.fieldAddr Try.fa40_0 rfl) ?_
              refine RD.take 2 rfl (by kernel_rfl) (by kernel_rfl) (by kernel_rfl) (Wt.no rfl) rfl (PV.loadM (l := S.t_A8_int.enc a1.Known (hf [])) 1 Try.TF37 rfl rfl (cut_Bag_Known _ _) rfl (by decide)) ?_
              refine RD.one 3 (by kernel_rfl) ?_
              refine Up.eff rfl (Wt.no rfl) rfl (EV.call (K := _) Try.call103 rfl (SpecK.callV (W_bag_may v18 a1.Known hx22))) ?_ ?_
              · rintro _ _ _ ⟨_, rfl, rfl, rfl⟩; exact St.of' (by decide) (L' := [0, 1, 2]) rfl (fun _ h => h)
              rintro _ _ _ ⟨_, rfl, rfl, rfl⟩
              refine RD.take 4 rfl (by kernel_rfl) (by kernel_rfl) (by kernel_rfl) (Wt.no rfl) rfl (PV.not rfl) ?_
              refine RD.take 5 rfl (by kernel_rfl) (by kernel_rfl) (by kernel_rfl) (Wt.no rfl) rfl ((PV.move rfl).to (congrArg Value.bool hb23)) ?_
              refine RD.take 6 rfl (by kernel_rfl) (by kernel_rfl) (by kernel_rfl) (Wt.yes rfl rfl rfl rfl) rfl (PV.move rfl) ?_
              refine RD.take 7 rfl (by kernel_rfl) (by kernel_rfl) (by kernel_rfl) (Wt.yes rfl rfl rfl rfl) rfl (PV.gtr rfl rfl) ?_
              refine RD.take 8 rfl (by kernel_rfl) (by kernel_rfl) (by kernel_rfl) (Wt.yes rfl rfl rfl rfl) rfl ((PV.move rfl).to (congrArg Value.bool hb24)) ?_
              refine RD.take 9 rfl (by kernel_rfl) (by kernel_rfl) (by kernel_rfl) (Wt.yes rfl rfl rfl rfl) rfl (PV.fieldAddr Try.fa40_1 rfl) ?_
              refine RD.take 10 rfl (by kernel_rfl) (by kernel_rfl) (by kernel_rfl) (Wt.yes rfl rfl rfl rfl) rfl (PV.loadM (l := [.slice b1_0.a a1.Values.length b1_0.cap]) 1 Try.TF38 rfl rfl (cut_Bag_Values _ _) rfl (by decide)) ?_
              refine RD.take 11 rfl (by kernel_rfl) (by kernel_rfl) (by kernel_rfl) (Wt.yes rfl rfl rfl rfl) rfl (PV.move rfl) ?_
              refine RD.take 12 rfl (by kernel_rfl) (by kernel_rfl) (by kernel_rfl) (Wt.yes rfl rfl rfl rfl) rfl (PV.subW rfl rfl) ?_
              refine RD.take 13 rfl (by kernel_rfl) (by kernel_rfl) (by kernel_rfl) (Wt.yes rfl rfl rfl rfl) rfl (PV.idxQ (t := S.t_Val) (l := a1.Values) (q := b1_0) Try.underlying38 Try.sizeOf80 (fun w hm hΦ => (hR w (hm.frameAt (i := 0) rfl) (hΦ.1))) rfl rfl hx26) ?_
              refine RD.take 14 rfl (by kernel_rfl) (by kernel_rfl) (by kernel_rfl) (Wt.yes rfl rfl rfl rfl) rfl (PV.fieldAddr Try.fa80_0 rfl) ?_
              refine RD.take 15 rfl (by kernel_rfl) (by kernel_rfl) (by kernel_rfl) (Wt.yes rfl rfl rfl rfl) rfl (PV.loadQ (off := 0 + 0) (cs := S.t_Dot.enc v25.Dot (hf [])) (t := S.t_Val) (l := a1.Values) (q := b1_0) Try.TF45 (fun w hm hΦ => (hR w (hm.frameAt (i := 0) rfl) (hΦ.1))) hx26 rfl rfl rfl (cut_Val_Dot _ _) rfl (by decide)) ?_
              refine RD.take 16 rfl (by kernel_rfl) (by kernel_rfl) (by kernel_rfl) (Wt.yes rfl rfl rfl rfl) rfl (PV.fieldAddr Try.fa80_0 rfl) ?_
              refine RD.take 17 rfl (by kernel_rfl) (by kernel_rfl) (by kernel_rfl) (Wt.yes rfl rfl rfl rfl) rfl (PV.loadM (l := S.t_Dot.enc v18.Dot (hf [])) 2 Try.TF45 rfl rfl (cut_Val_Dot _ _) rfl (by decide)) ?_
              refine RD.one 18 (by kernel_rfl) ?_
              refine Up.eff rfl (Wt.yes rfl rfl rfl rfl) rfl (EV.call (K := _) Try.call98 rfl (SpecK.callV (W_clock_Compare v25.Dot v18.Dot hx28))) ?_ ?_
              · rintro _ _ _ ⟨_, rfl, rfl, rfl⟩; exact St.of' (by decide) (L' := [0, 1, 2]) rfl (fun _ h => h)
              rintro _ _ _ ⟨_, rfl, rfl, rfl⟩
              refine RD.take 19 rfl (by kernel_rfl) (by kernel_rfl) (by kernel_rfl) (Wt.yes rfl rfl rfl rfl) rfl (PV.geq rfl rfl) ?_
              refine RD.take 20 rfl (by kernel_rfl) (by kernel_rfl) (by kernel_rfl) (Wt.yes rfl rfl rfl rfl) rfl (PV.pickT rfl rfl) ?_
              refine RD.take 21 rfl (by kernel_rfl) (by kernel_rfl) (by kernel_rfl) (Wt.no rfl) rfl (PV.pickF rfl rfl) ?_
              refine RD.done (by kernel_rfl) ?_
              refine CW.cond rfl (fun hb29 => ?_) (fun hb29 => ?_)
              · replace h := iteT hb29 h
                refine CW.reg ?_
                refine RO.val (Wt.no rfl) rfl (PV.assign rfl) ?_
                refine RO.nil ?_
                refine CW.ret ?_
                refine QC.blk_r ?_
                refine QC.then_r ?_
                refine QC.then_r ?_
                refine QC.blk_r ?_
                refine QC.then_r ?_
                obtain rfl := Option.some.inj h
                obtain rfl := nextL_inr hk16
                obtain rfl := afterS_inr hk6
                exact retP1 (Ψ := Φ) [0] (by decide) rfl (RV.tmp rfl) rfl (fun w hΦ => hΦ.1) ⟨(), rfl, rfl, rfl⟩
              · replace h := iteF hb29 h
                refine CW.skip ?_
                refine QC.blk_n ?_
                refine QC.then_n ?_
                refine CW.region ?_
                refine RO.val (Wt.no rfl) rfl (PV.addW rfl rfl) ?_
                refine RO.val (Wt.no rfl) rfl (PV.move rfl) ?_
                refine RO.nil ?_
                obtain rfl := Option.some.inj h
                refine QC.roundP (n15, (w64 (v12 + 1))) (nextL_inl hk16) (by exact Nat.lt_succ_self _) [0, 1] (by decide) (by exact ⟨rfl, rfl, rfl, rfl, rfl, trivial⟩) rfl (fun w hΦ => hΦ)
            · replace hb24 := Bool.eq_false_iff.2 hb24
              replace h := iteF hb24 h
              refine CW.regD (pickM [0, 1, 2] _) _ (by kernel_rfl) (St.of (by decide) rfl (fun _ h => h)) ?_
              refine RD.take 0 rfl (by kernel_rfl) (by kernel_rfl) (by kernel_rfl) (Wt.no rfl) rfl (PV.loadM (l := S.t_Val.enc v18 (hf [])) 2 Try.TF80 rfl rfl (cut_self (S.t_Val.len _ _)) rfl (by decide)) ?_
              refine RD.take 1 rfl (by kernel_rfl) (by kernel_rfl) (by kernel_rfl) (Wt.no rfl) rfl (PV.fieldAddr Try.fa40_0 rfl) ?_
              refine RD.take 2 rfl (by kernel_rfl) (by kernel_rfl) (by kernel_rfl) (Wt.no rfl) rfl (PV.loadM (l := S.t_A8_int.enc a1.Known (hf [])) 1 Try.TF37 rfl rfl (cut_Bag_Known _ _) rfl (by decide)) ?_
              refine RD.one 3 (by kernel_rfl) ?_
              refine Up.eff rfl (Wt.no rfl) rfl (EV.call (K := _) Try.call103 rfl (SpecK.callV (W_bag_may v18 a1.Known hx22))) ?_ ?_
              · rintro _ _ _ ⟨_, rfl, rfl, rfl⟩; exact St.of' (by decide) (L' := [0, 1, 2]) rfl (fun _ h => h)
              rintro _ _ _ ⟨_, rfl, rfl, rfl⟩
              refine RD.take 4 rfl (by kernel_rfl) (by kernel_rfl) (by kernel_rfl) (Wt.no rfl) rfl (PV.not rfl) ?_
              refine RD.take 5 rfl (by kernel_rfl) (by kernel_rfl) (by kernel_rfl) (Wt.no rfl) rfl ((PV.move rfl).to (congrArg Value.bool hb23)) ?_
              refine RD.take 6 rfl (by kernel_rfl) (by kernel_rfl) (by kernel_rfl) (Wt.yes rfl rfl rfl rfl) rfl (PV.move rfl) ?_
              refine RD.take 7 rfl (by kernel_rfl) (by kernel_rfl) (by kernel_rfl) (Wt.yes rfl rfl rfl rfl) rfl (PV.gtr rfl rfl) ?_
              refine RD.take 8 rfl (by kernel_rfl) (by kernel_rfl) (by kernel_rfl) (Wt.yes rfl rfl rfl rfl) rfl ((PV.move rfl).to (congrArg Value.bool hb24)) ?_
              refine RD.takeNo 9 rfl (by kernel_rfl) (by kernel_rfl) (by kernel_rfl) (Un.mk rfl rfl rfl rfl) rfl ?_
              refine RD.takeNo 10 rfl (by kernel_rfl) (by kernel_rfl) (by kernel_rfl) (Un.mk rfl rfl rfl rfl) rfl ?_
              refine RD.takeNo 11 rfl (by kernel_rfl) (by kernel_rfl) (by kernel_rfl) (Un.mk rfl rfl rfl rfl) rfl ?_
              refine RD.takeNo 12 rfl (by kernel_rfl) (by kernel_rfl) (by kernel_rfl) (Un.mk rfl rfl rfl rfl) rfl ?_
              refine RD.takeNo 13 rfl (by kernel_rfl) (by kernel_rfl) (by kernel_rfl) (Un.mk rfl rfl rfl rfl) rfl ?_
              refine RD.takeNo 14 rfl (by kernel_rfl) (by kernel_rfl) (by kernel_rfl) (Un.mk rfl rfl rfl rfl) rfl ?_
              refine RD.takeNo 15 rfl (by kernel_rfl) (by kernel_rfl) (by kernel_rfl) (Un.mk rfl rfl rfl rfl) rfl ?_
              refine RD.takeNo 16 rfl (by kernel_rfl) (by kernel_rfl) (by kernel_rfl) (Un.mk rfl rfl rfl rfl) rfl ?_
              refine RD.takeNo 17 rfl (by kernel_rfl) (by kernel_rfl) (by kernel_rfl) (Un.mk rfl rfl rfl rfl) rfl ?_
              refine RD.takeNo 18 rfl (by kernel_rfl) (by kernel_rfl) (by kernel_rfl) (Un.mk rfl rfl rfl rfl) rfl ?_
              refine RD.takeNo 19 rfl (by kernel_rfl) (by kernel_rfl) (by kernel_rfl) (Un.mk rfl rfl rfl rfl) rfl ?_
              refine RD.take 20 rfl (by kernel_rfl) (by kernel_rfl) (by kernel_rfl) (Wt.yes rfl rfl rfl rfl) rfl (PV.pickF rfl rfl) ?_
              refine RD.take 21 rfl (by kernel_rfl) (by kernel_rfl) (by kernel_rfl) (Wt.no rfl) rfl (PV.pickF rfl rfl) ?_
              refine RD.done (by kernel_rfl) ?_
              refine CW.condF rfl ?_
              refine CW.skip ?_
              refine QC.blk_n ?_
              refine QC.then_n ?_
              refine CW.region ?_
              refine RO.val (Wt.no rfl) rfl (PV.addW rfl rfl) ?_
              refine RO.val (Wt.no rfl) rfl (PV.move rfl) ?_
              refine RO.nil ?_
              obtain rfl := Option.some.inj h
              refine QC.roundP (n15, (w64 (v12 + 1))) (nextL_inl hk16) (by exact Nat.lt_succ_self _) [0, 1] (by decide) (by exact ⟨rfl, rfl, rfl, rfl, rfl, trivial⟩) rfl (fun w hΦ => hΦ)
        · replace h := iteF hb17 h
          refine CW.exit ?_
          refine QC.then_x ?_
          refine QC.then_x ?_
          refine QC.blk_x ?_
          obtain rfl := Option.some.inj h
          obtain rfl := nextL_inr hk16
          refine QC.meetP () (afterS_inl hk6) [0, 1] (by decide) (by exact ⟨rfl, trivial⟩) rfl (fun w hΦ => hΦ)
      · rintro ⟨⟩ h
        try dsimp only at h ⊢
        unfold S.bag_May_j3 at h
        refine CW.reg ?_
        refine RO.val (Wt.no rfl) rfl (PV.assign rfl) ?_
        refine RO.nil ?_
        refine CW.ret ?_
        obtain rfl := Option.some.inj h
        exact retP1 (Ψ := Φ) [0] (by decide) rfl (RV.tmp rfl) rfl (fun w hΦ => hΦ.1) ⟨(), rfl, rfl, rfl⟩

theorem W_ledger_May {D : Mem} {Φ : World → Prop} (a1 : S.Deed) (b1_0 : Hd) (b1_1 : Hd) {r : Bool} (h : S.ledger_May a1 = some r) (hR : ∀ w, Φ w → (slR S.t_Val w a1.Bag.Values b1_0 ∧ slR (tInt .i64) w a1.Ring.Plan.Targets b1_1)) :
    SpecK Try.prog 113 [.agg (S.t_Deed.enc a1 (hf [b1_0, b1_1])).toArray] D [] Φ (fun x : Unit => .bool r) (fun x => []) (fun x => []) (fun _ => Φ) := by
  refine enterK Try.func113 rfl Try.ntmps113 rfl ?_
  unfold S.ledger_May at h
  refine CW.reg ?_
  refine RO.eff (Wt.no rfl) rfl (EV.boxB (B := S.t_Deed.enc a1 (hf [b1_0, b1_1])) rfl rfl) ?_
  rintro _ _ _ ⟨g1, rfl, rfl, rfl⟩
  refine RO.val (Wt.no rfl) rfl (PV.assign rfl) ?_
  refine RO.nil ?_
  refine CW.seq ?_
  replace h := bindS h
  obtain ⟨v2, hx3, h⟩ := h
  replace h := bindS h
  obtain ⟨v7, hx8, h⟩ := h
  refine CW.regD (pickM [0, 1] _) _ (by kernel_rfl) (St.of (by decide) rfl (fun _ h => h)) ?_
  refine RD.take 0 rfl (by kernel_rfl) (by kernel_rfl) (by kernel_rfl) (Wt.no rfl) rfl (PV.loadM (l := S.t_Deed.enc a1 (hf [b1_0, b1_1])) 1 Try.TF106 rfl rfl (cut_self (S.t_Deed.len _ _)) rfl (by decide)) ?_
  refine RD.take 1 rfl (by kernel_rfl) (by kernel_rfl) (by kernel_rfl) (Wt.no rfl) rfl (PV.loadM (l := S.t_Deed.enc a1 (hf [b1_0, b1_1])) 1 Try.TF106 rfl rfl (cut_self (S.t_Deed.len _ _)) rfl (by decide)) ?_
  refine RD.one 2 (by kernel_rfl) ?_
  refine Up.eff rfl (Wt.no rfl) rfl (EV.call (K := _) Try.call140 rfl (SpecK.callV (W_ledger_named a1 b1_0 b1_1 hx3 (fun w hΦ => ⟨(hR w (hΦ.1)).1, (hR w (hΦ.1)).2⟩)))) ?_ ?_
  · rintro _ _ _ ⟨⟨q4, q5⟩, rfl, rfl, rfl⟩; exact St.of' (by decide) (L' := [0, 1]) rfl (fun _ h => h.1)
  rintro _ _ _ ⟨⟨q4, q5⟩, rfl, rfl, rfl⟩
  refine RD.one 3 (by kernel_rfl) ?_
  refine Up.eff rfl (Wt.no rfl) rfl (EV.call (K := _) Try.call139 rfl (SpecK.callV (W_ledger_Same a1 v2 b1_0 b1_1 q4 q5 hx8 (fun w hm hΦ => ⟨(hR w (hΦ.1.1)).1, (hR w (hΦ.1.1)).2, (hΦ.2.1), (hΦ.2.2)⟩)))) ?_ ?_
  · rintro _ _ _ ⟨_, rfl, rfl, rfl⟩; exact St.of' (by decide) (L' := [0, 1]) rfl (fun _ h => h.1)
  rintro _ _ _ ⟨_, rfl, rfl, rfl⟩
  refine RD.take 4 rfl (by kernel_rfl) (by kernel_rfl) (by kernel_rfl) (Wt.no rfl) rfl (PV.not rfl) ?_
  refine RD.done (by kernel_rfl) ?_
  refine CW.cond rfl (fun hb9 => ?_) (fun hb9 => ?_)
  · replace h := iteT hb9 h
    refine CW.reg ?_
    refine RO.val (Wt.no rfl) rfl (PV.assign rfl) ?_
    refine RO.nil ?_
    refine CW.ret ?_
    refine QC.then_r ?_
    obtain rfl := Option.some.inj h
    exact retP1 (Ψ := Φ) [0] (by decide) rfl (RV.tmp rfl) rfl (fun w hΦ => hΦ.1.1) ⟨(), rfl, rfl, rfl⟩
  · replace h := iteF hb9 h
    refine CW.skip ?_
    refine QC.then_n ?_
    refine CW.seq ?_
    refine CW.reg ?_
    refine RO.val (Wt.no rfl) rfl (PV.fieldAddr Try.fa106_0 rfl) ?_
    refine RO.val (Wt.no rfl) rfl (PV.loadM (l := [.int .i64 a1.Kind]) 1 Try.TF3 rfl rfl (cut_Deed_Kind _ _) rfl (by decide)) ?_
    refine RO.nil ?_
    refine CW.block ?_
    refine CW.reg ?_
    refine RO.val (Wt.no rfl) rfl (PV.eql rfl rfl) ?_
    refine RO.val (Wt.no rfl) rfl (PV.assign rfl) ?_
    refine RO.nil ?_
    refine CW.cond rfl (fun hb10 => ?_) (fun hb10 => ?_)
    · replace h := iteT hb10 h
      replace h := bindS h
      obtain ⟨v11, hx12, h⟩ := h
      refine CW.reg ?_
      refine RO.val (Wt.no rfl) rfl (PV.fieldAddr Try.fa106_1 rfl) ?_
      refine RO.val (Wt.no rfl) rfl (PV.loadM (l := [.int .i64 a1.N]) 1 Try.TF3 rfl rfl (cut_Deed_N _ _) rfl (by decide)) ?_
      refine RO.eff (Wt.no rfl) rfl (EV.call (K := _) Try.call141 rfl (SpecK.callV (W_ledger_within a1.N 1000000 hx12))) ?_
      rintro _ _ _ ⟨_, rfl, rfl, rfl⟩
      refine RO.val (Wt.no rfl) rfl (PV.assign rfl) ?_
      refine RO.nil ?_
      refine CW.ret ?_
      refine QC.blk_r ?_
      refine QC.then_r ?_
      obtain rfl := Option.some.inj h
      exact retP1 (Ψ := Φ) [0] (by decide) rfl (RV.tmp rfl) rfl (fun w hΦ => hΦ.1.1) ⟨(), rfl, rfl, rfl⟩
    · replace h := iteF hb10 h
      refine CW.reg ?_
      refine RO.val (Wt.no rfl) rfl (PV.eql rfl rfl) ?_
      refine RO.val (Wt.no rfl) rfl (PV.assign rfl) ?_
      refine RO.nil ?_
      refine CW.cond rfl (fun hb13 => ?_) (fun hb13 => ?_)
      · replace h := iteT hb13 h
        replace h := bindS h
        obtain ⟨v14, hx15, h⟩ := h
        refine CW.reg ?_
        refine RO.val (Wt.no rfl) rfl (PV.fieldAddr Try.fa106_4 rfl) ?_
        refine RO.val (Wt.no rfl) rfl (PV.loadM (l := S.t_Ring.enc a1.Ring (hf [b1_1])) 1 Try.TF33 rfl rfl (cut_Deed_Ring _ _) rfl (by decide)) ?_
        refine RO.eff (Wt.no rfl) rfl (EV.call (K := _) Try.call115 rfl (SpecK.callV (W_ring_May a1.Ring b1_1 hx15 (fun w hm hΦ => (hR w (hΦ.1.1)).2)))) ?_
        rintro _ _ _ ⟨_, rfl, rfl, rfl⟩
        refine RO.val (Wt.no rfl) rfl (PV.assign rfl) ?_
        refine RO.nil ?_
        refine CW.ret ?_
        refine QC.blk_r ?_
        refine QC.then_r ?_
        obtain rfl := Option.some.inj h
        exact retP1 (Ψ := Φ) [0] (by decide) rfl (RV.tmp rfl) rfl (fun w hΦ => hΦ.1.1) ⟨(), rfl, rfl, rfl⟩
      · replace h := iteF hb13 h
        refine CW.reg ?_
        refine RO.val (Wt.no rfl) rfl (PV.eql rfl rfl) ?_
        refine RO.val (Wt.no rfl) rfl (PV.assign rfl) ?_
        refine RO.nil ?_
        refine CW.cond rfl (fun hb16 => ?_) (fun hb16 => ?_)
        · replace h := iteT hb16 h
          replace h := bindS h
          obtain ⟨v17, hx18, h⟩ := h
          by_cases hb19 : v17 = true
          · replace h := iteT hb19 h
            subst hb19
            replace h := bindS h
            obtain ⟨v20, hx21, h⟩ := h
            by_cases hb22 : v20 = true
            · replace h := iteT hb22 h
              subst hb22
              replace h := bindS h
              obtain ⟨v23, hx24, h⟩ := h
              refine CW.reg ?_
              refine RO.val (Wt.no rfl) rfl (PV.fieldAddr Try.fa106_2 rfl) ?_
              refine RO.val (Wt.no rfl) rfl (PV.loadM (l := [.string a1.Key]) 1 Try.TF9 rfl rfl (cut_Deed_Key _ _) rfl (by decide)) ?_
              refine RO.val (Wt.no rfl) rfl (PV.lenStr Try.underlying9 rfl) ?_
              refine RO.val (Wt.no rfl) rfl (PV.subW rfl rfl) ?_
              refine RO.eff (Wt.no rfl) rfl (EV.call (K := _) Try.call141 rfl (SpecK.callV (W_ledger_within (w64 ((a1.Key.size : Int) - 1)) 31 hx18))) ?_
              rintro _ _ _ ⟨_, rfl, rfl, rfl⟩
              refine RO.val (Wt.no rfl) rfl (PV.move rfl) ?_
              refine RO.val (Wt.yes rfl rfl rfl rfl) rfl (PV.fieldAddr Try.fa106_3 rfl) ?_
              refine RO.val (Wt.yes rfl rfl rfl rfl) rfl (PV.loadM (l := S.t_Bag.enc a1.Bag (hf [b1_0])) 1 Try.TF40 rfl rfl (cut_Deed_Bag _ _) rfl (by decide)) ?_
              refine RO.eff (Wt.yes rfl rfl rfl rfl) rfl (EV.call (K := _) Try.call73 rfl (SpecK.callV (W_bag_May a1.Bag b1_0 hx21 (fun w hm hΦ => (hR w (hΦ.1.1)).1)))) ?_
              rintro _ _ _ ⟨_, rfl, rfl, rfl⟩
              refine RO.val (Wt.no rfl) rfl (PV.pickT rfl rfl) ?_
              refine RO.val (Wt.no rfl) rfl (PV.move rfl) ?_
              refine RO.val (Wt.yes rfl rfl rfl rfl) rfl (PV.fieldAddr Try.fa106_1 rfl) ?_
              refine RO.val (Wt.yes rfl rfl rfl rfl) rfl (PV.loadM (l := [.int .i64 a1.N]) 1 Try.TF3 rfl rfl (cut_Deed_N _ _) rfl (by decide)) ?_
              refine RO.eff (Wt.yes rfl rfl rfl rfl) rfl (EV.call (K := _) Try.call141 rfl (SpecK.callV (W_ledger_within a1.N 1000000 hx24))) ?_
              rintro _ _ _ ⟨_, rfl, rfl, rfl⟩
              refine RO.val (Wt.no rfl) rfl (PV.pickT rfl rfl) ?_
              refine RO.val (Wt.no rfl) rfl (PV.assign rfl) ?_
              refine RO.nil ?_
              refine CW.ret ?_
              refine QC.blk_r ?_
              refine QC.then_r ?_
              obtain rfl := Option.some.inj h
              exact retP1 (Ψ := Φ) [0] (by decide) rfl (RV.tmp rfl) rfl (fun w hΦ => hΦ.1.1) ⟨(), rfl, rfl, rfl⟩
            · replace hb22 := Bool.eq_false_iff.2 hb22
              replace h := iteF hb22 h
              subst hb22
              refine CW.reg ?_
              refine RO.val (Wt.no rfl) rfl (PV.fieldAddr Try.fa106_2 rfl) ?_
              refine RO.val (Wt.no rfl) rfl (PV.loadM (l := [.string a1.Key]) 1 Try.TF9 rfl rfl (cut_Deed_Key _ _) rfl (by decide)) ?_
              refine RO.val (Wt.no rfl) rfl (PV.lenStr Try.underlying9 rfl) ?_
              refine RO.val (Wt.no rfl) rfl (PV.subW rfl rfl) ?_
              refine RO.eff (Wt.no rfl) rfl (EV.call (K := _) Try.call141 rfl (SpecK.callV (W_ledger_within (w64 ((a1.Key.size : Int) - 1)) 31 hx18))) ?_
              rintro _ _ _ ⟨_, rfl, rfl, rfl⟩
              refine RO.val (Wt.no rfl) rfl (PV.move rfl) ?_
              refine RO.val (Wt.yes rfl rfl rfl rfl) rfl (PV.fieldAddr Try.fa106_3 rfl) ?_
              refine RO.val (Wt.yes rfl rfl rfl rfl) rfl (PV.loadM (l := S.t_Bag.enc a1.Bag (hf [b1_0])) 1 Try.TF40 rfl rfl (cut_Deed_Bag _ _) rfl (by decide)) ?_
              refine RO.eff (Wt.yes rfl rfl rfl rfl) rfl (EV.call (K := _) Try.call73 rfl (SpecK.callV (W_bag_May a1.Bag b1_0 hx21 (fun w hm hΦ => (hR w (hΦ.1.1)).1)))) ?_
              rintro _ _ _ ⟨_, rfl, rfl, rfl⟩
              refine RO.val (Wt.no rfl) rfl (PV.pickT rfl rfl) ?_
              refine RO.val (Wt.no rfl) rfl (PV.move rfl) ?_
              refine RO.skip (Un.mk rfl rfl rfl rfl) rfl ?_
              refine RO.skip (Un.mk rfl rfl rfl rfl) rfl ?_
              refine RO.skip (Un.mk rfl rfl rfl rfl) rfl ?_
              refine RO.val (Wt.no rfl) rfl (PV.pickF rfl rfl) ?_
              refine RO.val (Wt.no rfl) rfl (PV.assign rfl) ?_
              refine RO.nil ?_
              refine CW.ret ?_
              refine QC.blk_r ?_
              refine QC.then_r ?_
              obtain rfl := Option.some.inj h
              exact retP1 (Ψ := Φ) [0] (by decide) rfl (RV.tmp rfl) rfl (fun w hΦ => hΦ.1.1) ⟨(), rfl, rfl, rfl⟩
          · replace hb19 := Bool.eq_false_iff.2 hb19
            replace h := iteF hb19 h
            subst hb19
            refine CW.reg ?_
            refine RO.val (Wt.no rfl) rfl (PV.fieldAddr Try.fa106_2 rfl) ?_
            refine RO.val (Wt.no rfl) rfl (PV.loadM (l := [.string a1.Key]) 1 Try.TF9 rfl rfl (cut_Deed_Key _ _) rfl (by decide)) ?_
            refine RO.val (Wt.no rfl) rfl (PV.lenStr Try.underlying9 rfl) ?_
            refine RO.val (Wt.no rfl) rfl (PV.subW rfl rfl) ?_
            refine RO.eff (Wt.no rfl) rfl (EV.call (K := _) Try.call141 rfl (SpecK.callV (W_ledger_within (w64 ((a1.Key.size : Int) - 1)) 31 hx18))) ?_
            rintro _ _ _ ⟨_, rfl, rfl, rfl⟩
            refine RO.val (Wt.no rfl) rfl (PV.move rfl) ?_
            refine RO.skip (Un.mk rfl rfl rfl rfl) rfl ?_
            refine RO.skip (Un.mk rfl rfl rfl rfl) rfl ?_
            refine RO.skip (Un.mk rfl rfl rfl rfl) rfl ?_
            refine RO.val (Wt.no rfl) rfl (PV.pickF rfl rfl) ?_
            refine RO.val (Wt.no rfl) rfl (PV.move rfl) ?_
            refine RO.skip (Un.mk rfl rfl rfl rfl) rfl ?_
            refine RO.skip (Un.mk rfl rfl rfl rfl) rfl ?_
            refine RO.skip (Un.mk rfl rfl rfl rfl) rfl ?_
            refine RO.val (Wt.no rfl) rfl (PV.pickF rfl rfl) ?_
            refine RO.val (Wt.no rfl) rfl (PV.assign rfl) ?_
            refine RO.nil ?_
            refine CW.ret ?_
            refine QC.blk_r ?_
            refine QC.then_r ?_
            obtain rfl := Option.some.inj h
            exact retP1 (Ψ := Φ) [0] (by decide) rfl (RV.tmp rfl) rfl (fun w hΦ => hΦ.1.1) ⟨(), rfl, rfl, rfl⟩
        · replace h := iteF hb16 h
          refine CW.reg ?_
          refine RO.val (Wt.no rfl) rfl (PV.eql rfl rfl) ?_
          refine RO.val (Wt.no rfl) rfl (PV.assign rfl) ?_
          refine RO.nil ?_
          refine CW.cond rfl (fun hb25 => ?_) (fun hb25 => ?_)
          · replace h := iteT hb25 h
            replace h := bindS h
            obtain ⟨v26, hx27, h⟩ := h
            refine CW.reg ?_
            refine RO.val (Wt.no rfl) rfl (PV.fieldAddr Try.fa106_5 rfl) ?_
            refine RO.val (Wt.no rfl) rfl (PV.loadM (l := [.int .i64 a1.Part]) 1 Try.TF3 rfl rfl (cut_Deed_Part _ _) rfl (by decide)) ?_
            refine RO.eff (Wt.no rfl) rfl (EV.call (K := _) Try.call141 rfl (SpecK.callV (W_ledger_within a1.Part 15 hx27))) ?_
            rintro _ _ _ ⟨_, rfl, rfl, rfl⟩
            refine RO.val (Wt.no rfl) rfl (PV.assign rfl) ?_
            refine RO.nil ?_
            refine CW.ret ?_
            refine QC.blk_r ?_
            refine QC.then_r ?_
            obtain rfl := Option.some.inj h
            exact retP1 (Ψ := Φ) [0] (by decide) rfl (RV.tmp rfl) rfl (fun w hΦ => hΦ.1.1) ⟨(), rfl, rfl, rfl⟩
          · replace h := iteF hb25 h
            refine CW.skip ?_
            refine QC.blk_n ?_
            refine QC.then_n ?_
            refine CW.reg ?_
            refine RO.val (Wt.no rfl) rfl (PV.assign rfl) ?_
            refine RO.nil ?_
            refine CW.ret ?_
            obtain rfl := Option.some.inj h
            exact retP1 (Ψ := Φ) [0] (by decide) rfl (RV.tmp rfl) rfl (fun w hΦ => hΦ.1.1) ⟨(), rfl, rfl, rfl⟩

theorem W_ledger_Ledger_Room {D : Mem} {Φ : World → Prop} (a1 : S.ledger_Ledger) (ga1_0 : Nat) (b1_0 : Hd) {r : Int} (h : S.ledger_Ledger_Room a1 = some r) (hR : ∀ w, MemOk D w → Φ w → (rdS S.t_Deed w a1.l b1_0.sub)) :
    SpecK Try.prog 114 [.pointer (pq ga1_0).a] D [.blk ga1_0 (S.t_ledger_Ledger.enc a1 (hf [b1_0])), rowE S.t_Deed 106 a1.l b1_0] Φ (fun x : Unit => .int .i64 r) (fun x => [.blk ga1_0 (S.t_ledger_Ledger.enc a1 (hf [b1_0])), rowE S.t_Deed 106 a1.l b1_0]) (fun x => []) (fun _ => Φ) := by
  refine enterK Try.func114 rfl Try.ntmps114 rfl ?_
  unfold S.ledger_Ledger_Room at h
  refine CW.reg ?_
  refine RO.val (Wt.no rfl) rfl (PV.assign rfl) ?_
  refine RO.nil ?_
  refine CW.seq ?_
  refine CW.reg ?_
  refine RO.val (Wt.no rfl) rfl (PV.move rfl) ?_
  refine RO.val (Wt.no rfl) rfl ((PV.eqlPtr Try.underlying48 rfl rfl).to rfl) ?_
  refine RO.nil ?_
  refine CW.condF rfl ?_
  refine CW.skip ?_
  refine QC.then_n ?_
  refine CW.regD (pickM [0, 1, 2] _) _ (by kernel_rfl) (St.of (by decide) rfl (fun _ h => h)) ?_
  refine RD.take 0 rfl (by kernel_rfl) (by kernel_rfl) (by kernel_rfl) (Wt.no rfl) rfl (PV.move rfl) ?_
  refine RD.take 1 rfl (by kernel_rfl) (by kernel_rfl) (by kernel_rfl) (Wt.no rfl) rfl (PV.nilCheck rfl) ?_
  refine RD.take 2 rfl (by kernel_rfl) (by kernel_rfl) (by kernel_rfl) (Wt.no rfl) rfl (PV.fieldAddr Try.fa108_2 rfl) ?_
  refine RD.take 3 rfl (by kernel_rfl) (by kernel_rfl) (by kernel_rfl) (Wt.no rfl) rfl (PV.loadM (l := [.int .i64 a1.room_]) 1 Try.TF3 rfl rfl (cut_ledger_Ledger_room_ _ _) rfl (by decide)) ?_
  refine RD.take 4 rfl (by kernel_rfl) (by kernel_rfl) (by kernel_rfl) (Wt.no rfl) rfl (PV.move rfl) ?_
  refine RD.take 5 rfl (by kernel_rfl) (by kernel_rfl) (by kernel_rfl) (Wt.no rfl) rfl (PV.nilCheck rfl) ?_
  refine RD.take 6 rfl (by kernel_rfl) (by kernel_rfl) (by kernel_rfl) (Wt.no rfl) rfl (PV.fieldAddr Try.fa108_0 rfl) ?_
  refine RD.take 7 rfl (by kernel_rfl) (by kernel_rfl) (by kernel_rfl) (Wt.no rfl) rfl (PV.loadM (l := [.slice b1_0.a a1.l.length b1_0.cap]) 1 Try.TF103 rfl rfl (cut_ledger_Ledger_l _ _) rfl (by decide)) ?_
  refine RD.take 8 rfl (by kernel_rfl) (by kernel_rfl) (by kernel_rfl) (Wt.no rfl) rfl (PV.lenS Try.underlying103 rfl) ?_
  refine RD.take 9 rfl (by kernel_rfl) (by kernel_rfl) (by kernel_rfl) (Wt.no rfl) rfl (PV.subW rfl rfl) ?_
  refine RD.take 10 rfl (by kernel_rfl) (by kernel_rfl) (by kernel_rfl) (Wt.no rfl) rfl (PV.assign rfl) ?_
  refine RD.done (by kernel_rfl) ?_
  refine CW.ret ?_
  obtain rfl := Option.some.inj h
  exact retP1 (Ψ := Φ) [0, 1, 2] (by decide) rfl (RV.tmp rfl) rfl (fun w hΦ => hΦ.1) ⟨(), rfl, rfl, rfl⟩

theorem W_ledger_Ledger_Write {D : Mem} {Φ : World → Prop} (a1 : S.ledger_Ledger) (a2 : S.Deed) (ga1_0 : Nat) (b1_0 : Hd) (b2_0 : Hd) (b2_1 : Hd) {r : Int × S.ledger_Ledger} (h : S.ledger_Ledger_Write a1 a2 = some r) (hR : ∀ w, Φ w → (rdS S.t_Deed w a1.l b1_0.sub ∧ slR S.t_Val w a2.Bag.Values b2_0 ∧ slR (tInt .i64) w a2.Ring.Plan.Targets b2_1)) :
    SpecK Try.prog 87 [.pointer (pq ga1_0).a, .agg (S.t_Deed.enc a2 (hf [b2_0, b2_1])).toArray] D [.blk ga1_0 (S.t_ledger_Ledger.enc a1 (hf [b1_0])), rowE S.t_Deed 106 a1.l b1_0] Φ (fun x : Hd => .int .i64 r.1) (fun x => [.blk ga1_0 (S.t_ledger_Ledger.enc r.2 (hf [x])), rowE S.t_Deed 106 r.2.l x]) (fun x => []) (fun x w => Φ w ∧ (rdS S.t_Deed w r.2.l x.sub)) := by
  refine enterK Try.func87 rfl Try.ntmps87 rfl ?_
  unfold S.ledger_Ledger_Write at h
  refine CW.reg ?_
  refine RO.eff (Wt.no rfl) rfl (EV.boxB (B := S.t_Deed.enc a2 (hf [b2_0, b2_1])) rfl rfl) ?_
  rintro _ _ _ ⟨g1, rfl, rfl, rfl⟩
  refine RO.val (Wt.no rfl) rfl (PV.assign rfl) ?_
  refine RO.nil ?_
  refine CW.seq ?_
  refine CW.block ?_
  replace h := bindS h
  obtain ⟨v2, hx3, h⟩ := h
  refine CW.reg ?_
  refine RO.val (Wt.no rfl) rfl (PV.move rfl) ?_
  refine RO.val (Wt.no rfl) rfl ((PV.eqlPtr Try.underlying48 rfl rfl).to rfl) ?_
  refine RO.val (Wt.no rfl) rfl (PV.move rfl) ?_
  refine RO.val (Wt.yes rfl rfl rfl rfl) rfl (PV.loadM (l := S.t_Deed.enc a2 (hf [b2_0, b2_1])) 3 Try.TF106 rfl rfl (cut_self (S.t_Deed.len _ _)) rfl (by decide)) ?_
  refine RO.eff (Wt.yes rfl rfl rfl rfl) rfl (EV.call (K := _) Try.call113 rfl (SpecK.callV (W_ledger_May a2 b2_0 b2_1 hx3 (fun w hΦ => ⟨(hR w (hΦ.1)).2.1, (hR w (hΦ.1)).2.2⟩)))) ?_
  rintro _ _ _ ⟨_, rfl, rfl, rfl⟩
  refine RO.val (Wt.yes rfl rfl rfl rfl) rfl (PV.not rfl) ?_
  refine RO.val (Wt.no rfl) rfl (PV.pickF rfl rfl) ?_
  refine RO.val (Wt.no rfl) rfl (PV.assign rfl) ?_
  refine RO.nil ?_
  refine CW.cond rfl (fun hb4 => ?_) (fun hb4 => ?_)
  · replace h := iteT hb4 h
    refine CW.reg ?_
    refine RO.val (Wt.no rfl) rfl (PV.assign rfl) ?_
    refine RO.nil ?_
    refine CW.ret ?_
    refine QC.blk_r ?_
    refine QC.then_r ?_
    obtain rfl := Option.some.inj h
    exact retP1 (Ψ := fun w => Φ w ∧ (rdS S.t_Deed w a1.l b1_0.sub)) [0, 1, 2] (by decide) rfl (RV.tmp rfl) rfl (fun w hΦ => ⟨hΦ.1, (hR w (hΦ.1)).1⟩) ⟨b1_0, rfl, rfl, rfl⟩
  · replace h := iteF hb4 h
    replace h := bindS h
    obtain ⟨v5, hx6, h⟩ := h
    refine CW.reg ?_
    refine RO.val (Wt.no rfl) rfl (PV.move rfl) ?_
    refine RO.eff (Wt.no rfl) rfl (EV.call (K := _) Try.call114 rfl (SpecK.call [1, 2] (fun x : Unit => [frame D, .blk ga1_0 (S.t_ledger_Ledger.enc a1 (hf [b1_0])), rowE S.t_Deed 106 a1.l b1_0, .blk g1 (S.t_Deed.enc a2 (hf [b2_0, b2_1]))]) (Outs.cons rfl (Outs.cons rfl Outs.nil)) (fun _ => (Outs.cons rfl (Outs.cons rfl Outs.nil))) (W_ledger_Ledger_Room a1 ga1_0 b1_0 hx6 (fun w hm hΦ => (hR w (hΦ.1)).1)))) ?_
    rintro _ _ _ ⟨_, rfl, rfl, rfl⟩
    refine RO.val (Wt.no rfl) rfl (PV.eql rfl rfl) ?_
    refine RO.val (Wt.no rfl) rfl (PV.assign rfl) ?_
    refine RO.nil ?_
    refine CW.cond rfl (fun hb7 => ?_) (fun hb7 => ?_)
    · replace h := iteT hb7 h
      refine CW.reg ?_
      refine RO.val (Wt.no rfl) rfl (PV.assign rfl) ?_
      refine RO.nil ?_
      refine CW.ret ?_
      refine QC.blk_r ?_
      refine QC.then_r ?_
      obtain rfl := Option.some.inj h
      exact retP1 (Ψ := fun w => Φ w ∧ (rdS S.t_Deed w a1.l b1_0.sub)) [0, 1, 2] (by decide) rfl (RV.tmp rfl) rfl (fun w hΦ => ⟨hΦ.1, (hR w (hΦ.1)).1⟩) ⟨b1_0, rfl, rfl, rfl⟩
    · replace h := iteF hb7 h
      refine CW.skip ?_
      refine QC.blk_n ?_
      refine QC.then_n ?_
      replace h := bindS h
      obtain ⟨e13, h, hk12⟩ := h
      refine CW.meet (X := S.ledger_Ledger × (List S.Deed) × Hd) (fun x => [(4, .int .i64 0)]) (fun x => [frame D, .blk ga1_0 (S.t_ledger_Ledger.enc ({ x.1 with l := x.2.1 } : S.ledger_Ledger) (hf [x.2.2])), rowE S.t_Deed 106 x.2.1 x.2.2, .blk g1 (S.t_Deed.enc a2 (hf [b2_0, b2_1]))]) (fun x w => (Φ w ∧ True) ∧ (rdS S.t_Deed w x.2.1 x.2.2.sub)) (fun x => S.ledger_Ledger_Write_j1 x.1 x.2.1 = some r) ?_ ?_
      · skip
        replace h := bindS h
        obtain ⟨v14, hx15, h⟩ := h
        replace h := bindS h
        obtain ⟨v20, hx21, h⟩ := h
        refine CW.regionD (pickM [0, 3] _) _ (by kernel_rfl) (St.of (by decide) rfl (fun _ h => h)) ?_
        refine RD.take 0 rfl (by kernel_rfl) (by kernel_rfl) (by kernel_rfl) (Wt.no rfl) rfl (PV.move rfl) ?_
        refine RD.take 1 rfl (by kernel_rfl) (by kernel_rfl) (by kernel_rfl) (Wt.no rfl) rfl (PV.move rfl) ?_
        refine RD.take 2 rfl (by kernel_rfl) (by kernel_rfl) (by kernel_rfl) (Wt.no rfl) rfl (PV.nilCheck rfl) ?_
        refine RD.take 3 rfl (by kernel_rfl) (by kernel_rfl) (by kernel_rfl) (Wt.no rfl) rfl (PV.fieldAddr Try.fa108_0 rfl) ?_
        refine RD.take 5 rfl (by kernel_rfl) (by kernel_rfl) (by kernel_rfl) (Wt.no rfl) rfl (PV.loadM (l := S.t_Deed.enc a2 (hf [b2_0, b2_1])) 1 Try.TF106 rfl rfl (cut_self (S.t_Deed.len _ _)) rfl (by decide)) ?_
        refine RD.two 4 6 (by kernel_rfl) ?_ ?_
        · skip
          refine Up.val rfl (Wt.no rfl) rfl (PV.loadM (l := [.slice b1_0.a a1.l.length b1_0.cap]) 1 Try.TF103 rfl rfl (cut_ledger_Ledger_l _ _) rfl (by decide)) ?_
          refine RD.one 6 (by kernel_rfl) ?_
          refine Up.eff rfl (Wt.no rfl) rfl (EV.call (K := _) Try.call86 rfl (SpecK.callV (W_ledger_copied a2 b2_0 b2_1 hx15 (fun w hm hΦ => ⟨(hR w (hΦ.1)).2.1, (hR w (hΦ.1)).2.2⟩)))) ?_ ?_
          · rintro _ _ _ ⟨⟨q16, q17⟩, rfl, rfl, rfl⟩; exact St.of' (by decide) (L' := [0, 3]) rfl (fun _ h => h.1)
          rintro _ _ _ ⟨⟨q16, q17⟩, rfl, rfl, rfl⟩
          refine RD.one 7 (by kernel_rfl) ?_
          refine Up.eff rfl (Wt.no rfl) rfl (EV.buildSlice (xs := [.tmp 23]) rfl Try.underlying103 Try.sizeOf106 Try.zeroValue106 rfl rfl rfl rfl) ?_ ?_
          · rintro _ _ _ ⟨g19, rfl, rfl, rfl⟩; exact St.of' (by decide) (L' := [0, 3]) rfl (fun _ h => h.1)
          rintro _ _ _ ⟨g19, rfl, rfl, rfl⟩
          refine RD.one 8 (by kernel_rfl) ?_
          refine Up.eff rfl (Wt.no rfl) rfl (EV.appQ (bytes := 488) (t := S.t_Deed) (l := a1.l) (q := b1_0) (y := v14) (hy := hf [q16, q17]) 2 4 Try.underlying103 Try.inf106 rfl rfl rfl rfl (by decide) rfl rfl rfl rfl hx21 (by decide)) ?_ ?_
          · rintro _ _ _ ⟨a22, c23, rfl, rfl, rfl⟩; exact St.of' (by decide) (L' := [0, 3]) rfl (fun _ h => h.1)
          rintro _ _ _ ⟨a22, c23, rfl, rfl, rfl⟩
          refine RD.take 9 rfl (by kernel_rfl) (by kernel_rfl) (by kernel_rfl) (Wt.no rfl) rfl (PV.nilCheck rfl) ?_
          refine RD.take 10 rfl (by kernel_rfl) (by kernel_rfl) (by kernel_rfl) (Wt.no rfl) rfl (PV.fieldAddr Try.fa108_0 rfl) ?_
          refine RD.one 11 (by kernel_rfl) ?_
          refine Up.eff rfl (Wt.no rfl) rfl (EV.storeB (B := S.t_ledger_Ledger.enc ({ a1 with l := v20 } : S.ledger_Ledger) (hf [(Hd.mk a22 c23 (snocS a1.l.length b1_0.sub (hf [q16, q17])))])) 1 Try.TF103 rfl rfl rfl rfl rfl (by rw [S.t_ledger_Ledger.len]; decide) (wr_ledger_Ledger_l a1 b1_0 (Hd.mk a22 c23 (snocS a1.l.length b1_0.sub (hf [q16, q17]))) v20)) ?_ ?_
          · rintro _ _ _ ⟨rfl, rfl, rfl⟩; exact St.of' (by decide) (L' := [0, 3]) rfl (fun _ h => h.1)
          rintro _ _ _ ⟨rfl, rfl, rfl⟩
          refine RD.done (by kernel_rfl) ?_
          obtain rfl := Option.some.inj h
          refine QC.meetP (({ a1 with l := v20 } : S.ledger_Ledger), v20, (Hd.mk a22 c23 (snocS a1.l.length b1_0.sub (hf [q16, q17])))) hk12 [0, 1, 2, 3] (by decide) (by exact ⟨rfl, trivial⟩) rfl (fun w hΦ => ⟨hΦ.1, (rdS.snocG (hf [q16, q17]) hx21 (hR w (hΦ.1.1)).1 ⟨(hΦ.2.1), (hΦ.2.2)⟩)⟩)
        · skip
          refine Up.eff rfl (Wt.no rfl) rfl (EV.call (K := _) Try.call86 rfl (SpecK.callV (W_ledger_copied a2 b2_0 b2_1 hx15 (fun w hm hΦ => ⟨(hR w (hΦ.1)).2.1, (hR w (hΦ.1)).2.2⟩)))) ?_ ?_
          · rintro _ _ _ ⟨⟨q16, q17⟩, rfl, rfl, rfl⟩; exact St.of' (by decide) (L' := [0, 3]) rfl (fun _ h => h.1)
          rintro _ _ _ ⟨⟨q16, q17⟩, rfl, rfl, rfl⟩
          refine RD.two 4 7 (by kernel_rfl) ?_ ?_
          · skip
            refine Up.val rfl (Wt.no rfl) rfl (PV.loadM (l := [.slice b1_0.a a1.l.length b1_0.cap]) 1 Try.TF103 rfl rfl (cut_ledger_Ledger_l _ _) rfl (by decide)) ?_
            refine RD.one 7 (by kernel_rfl) ?_
            refine Up.eff rfl (Wt.no rfl) rfl (EV.buildSlice (xs := [.tmp 23]) rfl Try.underlying103 Try.sizeOf106 Try.zeroValue106 rfl rfl rfl rfl) ?_ ?_
            · rintro _ _ _ ⟨g19, rfl, rfl, rfl⟩; exact St.of' (by decide) (L' := [0, 3]) rfl (fun _ h => h.1)
            rintro _ _ _ ⟨g19, rfl, rfl, rfl⟩
            refine RD.one 8 (by kernel_rfl) ?_
            refine Up.eff rfl (Wt.no rfl) rfl (EV.appQ (bytes := 488) (t := S.t_Deed) (l := a1.l) (q := b1_0) (y := v14) (hy := hf [q16, q17]) 2 4 Try.underlying103 Try.inf106 rfl rfl rfl rfl (by decide) rfl rfl rfl rfl hx21 (by decide)) ?_ ?_
            · rintro _ _ _ ⟨a22, c23, rfl, rfl, rfl⟩; exact St.of' (by decide) (L' := [0, 3]) rfl (fun _ h => h.1)
            rintro _ _ _ ⟨a22, c23, rfl, rfl, rfl⟩
            refine RD.take 9 rfl (by kernel_rfl) (by kernel_rfl) (by kernel_rfl) (Wt.no rfl) rfl (PV.nilCheck rfl) ?_
            refine RD.take 10 rfl (by kernel_rfl) (by kernel_rfl) (by kernel_rfl) (Wt.no rfl) rfl (PV.fieldAddr Try.fa108_0 rfl) ?_
            refine RD.one 11 (by kernel_rfl) ?_
            refine Up.eff rfl (Wt.no rfl) rfl (EV.storeB (B := S.t_ledger_Ledger.enc ({ a1 with l := v20 } : S.ledger_Ledger) (hf [(Hd.mk a22 c23 (snocS a1.l.length b1_0.sub (hf [q16, q17])))])) 1 Try.TF103 rfl rfl rfl rfl rfl (by rw [S.t_ledger_Ledger.len]; decide) (wr_ledger_Ledger_l a1 b1_0 (Hd.mk a22 c23 (snocS a1.l.length b1_0.sub (hf [q16, q17]))) v20)) ?_ ?_
            · rintro _ _ _ ⟨rfl, rfl, rfl⟩; exact St.of' (by decide) (L' := [0, 3]) rfl (fun _ h => h.1)
            rintro _ _ _ ⟨rfl, rfl, rfl⟩
            refine RD.done (by kernel_rfl) ?_
            obtain rfl := Option.some.inj h
            refine QC.meetP (({ a1 with l := v20 } : S.ledger_Ledger), v20, (Hd.mk a22 c23 (snocS a1.l.length b1_0.sub (hf [q16, q17])))) hk12 [0, 1, 2, 3] (by decide) (by exact ⟨rfl, trivial⟩) rfl (fun w hΦ => ⟨hΦ.1, (rdS.snocG (hf [q16, q17]) hx21 (hR w (hΦ.1.1)).1 ⟨(hΦ.2.1), (hΦ.2.2)⟩)⟩)
          · skip
            refine Up.eff rfl (Wt.no rfl) rfl (EV.buildSlice (xs := [.tmp 23]) rfl Try.underlying103 Try.sizeOf106 Try.zeroValue106 rfl rfl rfl rfl) ?_ ?_
            · rintro _ _ _ ⟨g19, rfl, rfl, rfl⟩; exact St.of' (by decide) (L' := [0, 3]) rfl (fun _ h => h.1)
            rintro _ _ _ ⟨g19, rfl, rfl, rfl⟩
            refine RD.one 4 (by kernel_rfl) ?_
            refine Up.val rfl (Wt.no rfl) rfl (PV.loadM (l := [.slice b1_0.a a1.l.length b1_0.cap]) 1 Try.TF103 rfl rfl (cut_ledger_Ledger_l _ _) rfl (by decide)) ?_
            refine RD.one 8 (by kernel_rfl) ?_
            refine Up.eff rfl (Wt.no rfl) rfl (EV.appQ (bytes := 488) (t := S.t_Deed) (l := a1.l) (q := b1_0) (y := v14) (hy := hf [q16, q17]) 2 4 Try.underlying103 Try.inf106 rfl rfl rfl rfl (by decide) rfl rfl rfl rfl hx21 (by decide)) ?_ ?_
            · rintro _ _ _ ⟨a22, c23, rfl, rfl, rfl⟩; exact St.of' (by decide) (L' := [0, 3]) rfl (fun _ h => h.1)
            rintro _ _ _ ⟨a22, c23, rfl, rfl, rfl⟩
            refine RD.take 9 rfl (by kernel_rfl) (by kernel_rfl) (by kernel_rfl) (Wt.no rfl) rfl (PV.nilCheck rfl) ?_
            refine RD.take 10 rfl (by kernel_rfl) (by kernel_rfl) (by kernel_rfl) (Wt.no rfl) rfl (PV.fieldAddr Try.fa108_0 rfl) ?_
            refine RD.one 11 (by kernel_rfl) ?_
            refine Up.eff rfl (Wt.no rfl) rfl (EV.storeB (B := S.t_ledger_Ledger.enc ({ a1 with l := v20 } : S.ledger_Ledger) (hf [(Hd.mk a22 c23 (snocS a1.l.length b1_0.sub (hf [q16, q17])))])) 1 Try.TF103 rfl rfl rfl rfl rfl (by rw [S.t_ledger_Ledger.len]; decide) (wr_ledger_Ledger_l a1 b1_0 (Hd.mk a22 c23 (snocS a1.l.length b1_0.sub (hf [q16, q17]))) v20)) ?_ ?_
            · rintro _ _ _ ⟨rfl, rfl, rfl⟩; exact St.of' (by decide) (L' := [0, 3]) rfl (fun _ h => h.1)
            rintro _ _ _ ⟨rfl, rfl, rfl⟩
            refine RD.done (by kernel_rfl) ?_
            obtain rfl := Option.some.inj h
            refine QC.meetP (({ a1 with l := v20 } : S.ledger_Ledger), v20, (Hd.mk a22 c23 (snocS a1.l.length b1_0.sub (hf [q16, q17])))) hk12 [0, 1, 2, 3] (by decide) (by exact ⟨rfl, trivial⟩) rfl (fun w hΦ => ⟨hΦ.1, (rdS.snocG (hf [q16, q17]) hx21 (hR w (hΦ.1.1)).1 ⟨(hΦ.2.1), (hΦ.2.2)⟩)⟩)
      · rintro ⟨v9, v10, q11⟩ h
        try dsimp only at h ⊢
        unfold S.ledger_Ledger_Write_j1 at h
        refine CW.reg ?_
        refine RO.val (Wt.no rfl) rfl (PV.assign rfl) ?_
        refine RO.nil ?_
        refine CW.ret ?_
        obtain rfl := Option.some.inj h
        exact retP1 (Ψ := fun w => Φ w ∧ (rdS S.t_Deed w (({ v9 with l := v10 } : S.ledger_Ledger).l) q11.sub)) [0, 1, 2] (by decide) rfl (RV.tmp rfl) rfl (fun w hΦ => ⟨hΦ.1.1, (hΦ.2)⟩) ⟨q11, rfl, rfl, rfl⟩

theorem W_vault_Vault_write {D : Mem} {Φ : World → Prop} (a1 : S.vault_Vault) (a2 : S.Deed) (ga1_0 ga1_1 ga1_2 : Nat) (b1_0 : Hd) (b1_1 : Hd) (b1_2 : (Nat → Hs)) (b2_0 : Hd) (b2_1 : Hd) {r : Int × S.vault_Vault} (h : S.vault_Vault_write a1 a2 = some r) (hR : ∀ w, Φ w → (rdS S.t_Deed w a1.l.l b1_0.sub ∧ slR (tInt .i64) w a1.ring.Plan.Targets b1_1 ∧ mpR S.t_Bag w a1.bags b1_2 ∧ slR S.t_Val w a2.Bag.Values b2_0 ∧ slR (tInt .i64) w a2.Ring.Plan.Targets b2_1)) :
    SpecK Try.prog 54 [.pointer (pq ga1_0).a, .agg (S.t_Deed.enc a2 (hf [b2_0, b2_1])).toArray] D [.blk ga1_0 (S.t_vault_Vault.enc a1 (hf [(pq ga1_1), b1_1, (pq ga1_2)])), .blk ga1_1 (S.t_ledger_Ledger.enc a1.l (hf [b1_0])), rowE S.t_Deed 106 a1.l.l b1_0, mpE Value.string S.t_Bag ga1_2 a1.bags b1_2] Φ (fun x : Hd × Hd × (Nat → Hs) => .int .i64 r.1) (fun x => [.blk ga1_0 (S.t_vault_Vault.enc r.2 (hf [(pq ga1_1), x.2.1, (pq ga1_2)])), .blk ga1_1 (S.t_ledger_Ledger.enc r.2.l (hf [x.1])), rowE S.t_Deed 106 r.2.l.l x.1, mpE Value.string S.t_Bag ga1_2 r.2.bags x.2.2]) (fun x => []) (fun x w => Φ w ∧ (rdS S.t_Deed w r.2.l.l x.1.sub ∧ slR (tInt .i64) w r.2.ring.Plan.Targets x.2.1 ∧ mpR S.t_Bag w r.2.bags x.2.2)) := by
  refine enterK Try.func54 rfl Try.ntmps54 rfl ?_
  unfold S.vault_Vault_write at h
  refine CW.reg ?_
  refine RO.eff (Wt.no rfl) rfl (EV.boxB (B := S.t_Deed.enc a2 (hf [b2_0, b2_1])) rfl rfl) ?_
  rintro _ _ _ ⟨g1, rfl, rfl, rfl⟩
  refine RO.val (Wt.no rfl) rfl (PV.assign rfl) ?_
  refine RO.nil ?_
  refine CW.seq ?_
  refine CW.reg ?_
  refine RO.val (Wt.no rfl) rfl (PV.move rfl) ?_
  refine RO.val (Wt.no rfl) rfl ((PV.eqlPtr Try.underlying46 rfl rfl).to rfl) ?_
  refine RO.nil ?_
  refine CW.condF rfl ?_
  refine CW.skip ?_
  refine QC.then_n ?_
  replace h := bindS h
  obtain ⟨⟨v2, v3⟩, hx4, h⟩ := h
  dsimp only at h
  refine CW.regD (pickM [0, 1, 4, 5] _) _ (by kernel_rfl) (St.of (by decide) rfl (fun _ h => h)) ?_
  refine RD.take 0 rfl (by kernel_rfl) (by kernel_rfl) (by kernel_rfl) (Wt.no rfl) rfl (PV.move rfl) ?_
  refine RD.take 1 rfl (by kernel_rfl) (by kernel_rfl) (by kernel_rfl) (Wt.no rfl) rfl (PV.nilCheck rfl) ?_
  refine RD.take 2 rfl (by kernel_rfl) (by kernel_rfl) (by kernel_rfl) (Wt.no rfl) rfl (PV.fieldAddr Try.fa101_0 rfl) ?_
  refine RD.take 3 rfl (by kernel_rfl) (by kernel_rfl) (by kernel_rfl) (Wt.no rfl) rfl (PV.loadM (l := [.pointer (pq ga1_1).a]) 1 Try.TF48 rfl rfl (cut_vault_Vault_l _ _) rfl (by decide)) ?_
  refine RD.take 4 rfl (by kernel_rfl) (by kernel_rfl) (by kernel_rfl) (Wt.no rfl) rfl (PV.loadM (l := S.t_Deed.enc a2 (hf [b2_0, b2_1])) 3 Try.TF106 rfl rfl (cut_self (S.t_Deed.len _ _)) rfl (by decide)) ?_
  refine RD.one 5 (by kernel_rfl) ?_
  refine Up.eff rfl (Wt.no rfl) rfl (EV.call (K := _) Try.call87 rfl (SpecK.call [2, 3] (fun x : Hd => [frame D, .blk ga1_0 (S.t_vault_Vault.enc a1 (hf [(pq ga1_1), b1_1, (pq ga1_2)])), .blk ga1_1 (S.t_ledger_Ledger.enc v3 (hf [x])), rowE S.t_Deed 106 v3.l x, mpE Value.string S.t_Bag ga1_2 a1.bags b1_2, .blk g1 (S.t_Deed.enc a2 (hf [b2_0, b2_1]))]) (Outs.cons rfl (Outs.cons rfl Outs.nil)) (fun _ => (Outs.cons rfl (Outs.cons rfl Outs.nil))) (W_ledger_Ledger_Write a1.l a2 ga1_1 b1_0 b2_0 b2_1 hx4 (fun w hΦ => ⟨(hR w (hΦ.1)).1, (hR w (hΦ.1)).2.2.2.1, (hR w (hΦ.1)).2.2.2.2⟩)))) ?_ ?_
  · rintro _ _ _ ⟨q5, rfl, rfl, rfl⟩; exact St.of' (by decide) (L' := [0, 1, 4, 5]) rfl (fun _ h => h.1)
  rintro _ _ _ ⟨q5, rfl, rfl, rfl⟩
  refine RD.take 6 rfl (by kernel_rfl) (by kernel_rfl) (by kernel_rfl) (Wt.no rfl) rfl (PV.assign rfl) ?_
  refine RD.done (by kernel_rfl) ?_
  refine CW.seq ?_
  refine CW.reg ?_
  refine RO.val (Wt.no rfl) rfl (PV.move rfl) ?_
  refine RO.val (Wt.no rfl) rfl (PV.eql rfl rfl) ?_
  refine RO.nil ?_
  refine CW.cond rfl (fun hb7 => ?_) (fun hb7 => ?_)
  · replace h := iteT hb7 h
    replace h := bindS h
    obtain ⟨v8, hx9, h⟩ := h
    refine CW.region ?_
    refine RO.val (Wt.no rfl) rfl (PV.move rfl) ?_
    refine RO.val (Wt.no rfl) rfl (PV.loadM (l := S.t_Deed.enc a2 (hf [b2_0, b2_1])) 5 Try.TF106 rfl rfl (cut_self (S.t_Deed.len _ _)) rfl (by decide)) ?_
    refine RO.eff (Wt.no rfl) rfl (EV.call (K := _) Try.call52 rfl (SpecK.call [1, 2, 3, 4] (fun x : Hd × Hd × (Nat → Hs) => [frame D, .blk ga1_0 (S.t_vault_Vault.enc v8 (hf [(pq ga1_1), x.2.1, (pq ga1_2)])), .blk ga1_1 (S.t_ledger_Ledger.enc v8.l (hf [x.1])), rowE S.t_Deed 106 v8.l.l x.1, mpE Value.string S.t_Bag ga1_2 v8.bags x.2.2, .blk g1 (S.t_Deed.enc a2 (hf [b2_0, b2_1]))]) (Outs.cons rfl (Outs.cons rfl (Outs.cons rfl (Outs.cons rfl Outs.nil)))) (fun _ => (Outs.cons rfl (Outs.cons rfl (Outs.cons rfl (Outs.cons rfl Outs.nil))))) (W_vault_Vault_counts ({ a1 with l := v3 } : S.vault_Vault) a2 ga1_0 ga1_1 ga1_2 q5 b1_1 b1_2 b2_0 b2_1 hx9 (fun w hΦ => ⟨(hΦ.2), (hR w (hΦ.1.1)).2.1, (hR w (hΦ.1.1)).2.2.1, (hR w (hΦ.1.1)).2.2.2.1, (hR w (hΦ.1.1)).2.2.2.2⟩)))) ?_
    rintro _ _ _ ⟨⟨q10, q11, q12⟩, rfl, rfl, rfl⟩
    refine RO.nil ?_
    refine QC.then_n ?_
    refine CW.reg ?_
    refine RO.val (Wt.no rfl) rfl (PV.move rfl) ?_
    refine RO.val (Wt.no rfl) rfl (PV.assign rfl) ?_
    refine RO.nil ?_
    refine CW.ret ?_
    obtain rfl := Option.some.inj h
    exact retP1 (Ψ := fun w => Φ w ∧ (rdS S.t_Deed w v8.l.l q10.sub ∧ slR (tInt .i64) w v8.ring.Plan.Targets q11 ∧ mpR S.t_Bag w v8.bags q12)) [0, 1, 2, 3, 4] (by decide) rfl (RV.tmp rfl) rfl (fun w hΦ => ⟨hΦ.1.1.1, (hΦ.2.1), (hΦ.2.2.1), (hΦ.2.2.2)⟩) ⟨(q10, q11, q12), rfl, rfl, rfl⟩
  · replace h := iteF hb7 h
    refine CW.skip ?_
    refine QC.then_n ?_
    refine CW.reg ?_
    refine RO.val (Wt.no rfl) rfl (PV.move rfl) ?_
    refine RO.val (Wt.no rfl) rfl (PV.assign rfl) ?_
    refine RO.nil ?_
    refine CW.ret ?_
    obtain rfl := Option.some.inj h
    exact retP1 (Ψ := fun w => Φ w ∧ (rdS S.t_Deed w ((({ a1 with l := v3 } : S.vault_Vault).l).l) q5.sub ∧ slR (tInt .i64) w (((({ a1 with l := v3 } : S.vault_Vault).ring).Plan).Targets) b1_1 ∧ mpR S.t_Bag w (({ a1 with l := v3 } : S.vault_Vault).bags) b1_2)) [0, 1, 2, 3, 4] (by decide) rfl (RV.tmp rfl) rfl (fun w hΦ => ⟨hΦ.1.1, (hΦ.2), (hR w (hΦ.1.1)).2.1, (hR w (hΦ.1.1)).2.2.1⟩) ⟨(q5, b1_1, b1_2), rfl, rfl, rfl⟩

theorem W_vault_Vault_full {D : Mem} {Φ : World → Prop} (a1 : S.vault_Vault) (a2 : ByteArray) (ga1_0 ga1_1 ga1_2 : Nat) (b1_0 : Hd) (b1_1 : Hd) (b1_2 : (Nat → Hs)) {r : Bool} (h : S.vault_Vault_full a1 a2 = some r) (hR : ∀ w, MemOk D w → Φ w → (rdS S.t_Deed w a1.l.l b1_0.sub ∧ slR (tInt .i64) w a1.ring.Plan.Targets b1_1 ∧ mpR S.t_Bag w a1.bags b1_2)) :
    SpecK Try.prog 79 [.pointer (pq ga1_0).a, .string a2] D [.blk ga1_0 (S.t_vault_Vault.enc a1 (hf [(pq ga1_1), b1_1, (pq ga1_2)])), .blk ga1_1 (S.t_ledger_Ledger.enc a1.l (hf [b1_0])), rowE S.t_Deed 106 a1.l.l b1_0, mpE Value.string S.t_Bag ga1_2 a1.bags b1_2] Φ (fun x : Unit => .bool r) (fun x => [.blk ga1_0 (S.t_vault_Vault.enc a1 (hf [(pq ga1_1), b1_1, (pq ga1_2)])), .blk ga1_1 (S.t_ledger_Ledger.enc a1.l (hf [b1_0])), rowE S.t_Deed 106 a1.l.l b1_0, mpE Value.string S.t_Bag ga1_2 a1.bags b1_2]) (fun x => []) (fun _ => Φ) := by
  refine enterK Try.func79 rfl Try.ntmps79 rfl ?_
  unfold S.vault_Vault_full at h
  refine CW.reg ?_
  refine RO.val (Wt.no rfl) rfl (PV.assign rfl) ?_
  refine RO.nil ?_
  refine CW.reg ?_
  refine RO.val (Wt.no rfl) rfl (PV.move rfl) ?_
  refine RO.val (Wt.no rfl) rfl (PV.nilCheck rfl) ?_
  refine RO.val (Wt.no rfl) rfl (PV.fieldAddr Try.fa101_5 rfl) ?_
  refine RO.val (Wt.no rfl) rfl (PV.loadM (l := [.map (mb (pq ga1_2))]) 1 Try.TF99 rfl rfl (cut_vault_Vault_bags _ _) rfl (by decide)) ?_
  refine RO.val (Wt.no rfl) rfl (PV.move rfl) ?_
  refine RO.val (Wt.no rfl) rfl (PV.lookupQ2 (kv := Value.string) (tv := S.t_Bag) (l := a1.bags) (hh := b1_2) (k := a2) 4 (strKey Try.underlying9) str_dom str_inj Try.underlying99 Try.zeroValue40 rfl rfl rfl) ?_
  refine RO.val (Wt.no rfl) rfl (PV.move rfl) ?_
  refine RO.val (Wt.no rfl) rfl (PV.extract rfl rfl) ?_
  refine RO.val (Wt.no rfl) rfl (PV.extract rfl rfl) ?_
  refine RO.eff (Wt.no rfl) rfl (EV.allocB (B := S.t_Bag.enc S.Bag.z (hf [Hd.z])) Try.zeroValue40 rfl) ?_
  rintro _ _ _ ⟨g1, rfl, rfl, rfl⟩
  refine RO.eff (Wt.no rfl) rfl (EV.storeW (B := S.t_Bag.enc ((mget a1.bags a2).getD S.Bag.z) (hf [(mgetH a1.bags b1_2 a2 0)])) 5 Try.TF40 rfl rfl rfl (by exact S.t_Bag.len ((mget a1.bags a2).getD S.Bag.z) (hf [(mgetH a1.bags b1_2 a2 0)])) (by exact S.t_Bag.one ((mget a1.bags a2).getD S.Bag.z) (hf [(mgetH a1.bags b1_2 a2 0)])) (S.t_Bag.len S.Bag.z (hf [Hd.z])) rfl) ?_
  rintro _ _ _ ⟨rfl, rfl, rfl⟩
  refine RO.val (Wt.no rfl) rfl (PV.assign rfl) ?_
  refine RO.nil ?_
  by_cases hb2 : (!((mget a1.bags a2).isSome)) = true
  · replace h := iteT hb2 h
    refine CW.reg ?_
    refine RO.val (Wt.no rfl) rfl (PV.move rfl) ?_
    refine RO.val (Wt.no rfl) rfl (PV.not rfl) ?_
    refine RO.val (Wt.no rfl) rfl ((PV.move rfl).to (congrArg Value.bool hb2)) ?_
    refine RO.val (Wt.yes rfl rfl rfl rfl) rfl (PV.move rfl) ?_
    refine RO.val (Wt.yes rfl rfl rfl rfl) rfl (PV.nilCheck rfl) ?_
    refine RO.val (Wt.yes rfl rfl rfl rfl) rfl (PV.fieldAddr Try.fa101_5 rfl) ?_
    refine RO.val (Wt.yes rfl rfl rfl rfl) rfl (PV.loadM (l := [.map (mb (pq ga1_2))]) 1 Try.TF99 rfl rfl (cut_vault_Vault_bags _ _) rfl (by decide)) ?_
    refine RO.val (Wt.yes rfl rfl rfl rfl) rfl (PV.lenMapQ (kv := Value.string) (tv := S.t_Bag) (l := a1.bags) (hh := b1_2) 4 Try.underlying99 rfl rfl) ?_
    refine RO.val (Wt.yes rfl rfl rfl rfl) rfl (PV.geq rfl rfl) ?_
    refine RO.val (Wt.no rfl) rfl (PV.pickT rfl rfl) ?_
    refine RO.val (Wt.no rfl) rfl (PV.assign rfl) ?_
    refine RO.nil ?_
    refine CW.ret ?_
    obtain rfl := Option.some.inj h
    exact retP1 (Ψ := Φ) [0, 1, 2, 3, 4] (by decide) rfl (RV.tmp rfl) rfl (fun w hΦ => hΦ.1) ⟨(), rfl, rfl, rfl⟩
  · replace hb2 := Bool.eq_false_iff.2 hb2
    replace h := iteF hb2 h
    refine CW.reg ?_
    refine RO.val (Wt.no rfl) rfl (PV.move rfl) ?_
    refine RO.val (Wt.no rfl) rfl (PV.not rfl) ?_
    refine RO.val (Wt.no rfl) rfl ((PV.move rfl).to (congrArg Value.bool hb2)) ?_
    refine RO.skip (Un.mk rfl rfl rfl rfl) rfl ?_
    refine RO.skip (Un.mk rfl rfl rfl rfl) rfl ?_
    refine RO.skip (Un.mk rfl rfl rfl rfl) rfl ?_
    refine RO.skip (Un.mk rfl rfl rfl rfl) rfl ?_
    refine RO.skip (Un.mk rfl rfl rfl rfl) rfl ?_
    refine RO.skip (Un.mk rfl rfl rfl rfl) rfl ?_
    refine RO.val (Wt.no rfl) rfl (PV.pickF rfl rfl) ?_
    refine RO.val (Wt.no rfl) rfl (PV.assign rfl) ?_
    refine RO.nil ?_
    refine CW.ret ?_
    obtain rfl := Option.some.inj h
    exact retP1 (Ψ := Φ) [0, 1, 2, 3, 4] (by decide) rfl (RV.tmp rfl) rfl (fun w hΦ => hΦ.1) ⟨(), rfl, rfl, rfl⟩

theorem W_clock_Join {D : Mem} {Φ : World → Prop} (a1 : Vector Int 8) (a2 : Vector Int 8) {r : (Vector Int 8)} (h : S.clock_Join a1 a2 = some r) :
    SpecK Try.prog 93 [.agg (S.t_A8_int.enc a1 (hf [])).toArray, .agg (S.t_A8_int.enc a2 (hf [])).toArray] D [] Φ (fun x : Unit => .agg (S.t_A8_int.enc r (hf [])).toArray) (fun x => []) (fun x => []) (fun _ => Φ) := by
  refine enterK Try.func93 rfl Try.ntmps93 rfl ?_
  unfold S.clock_Join at h
  refine CW.reg ?_
  refine RO.eff (Wt.no rfl) rfl (EV.boxB (B := S.t_A8_int.enc a1 (hf [])) rfl rfl) ?_
  rintro _ _ _ ⟨g1, rfl, rfl, rfl⟩
  refine RO.eff (Wt.no rfl) rfl (EV.boxB (B := S.t_A8_int.enc a2 (hf [])) rfl rfl) ?_
  rintro _ _ _ ⟨g2, rfl, rfl, rfl⟩
  refine RO.eff (Wt.no rfl) rfl (EV.allocB (B := S.t_A8_int.enc (Vector.replicate 8 (0 : Int)) (hf [])) Try.zeroValue37 rfl) ?_
  rintro _ _ _ ⟨g3, rfl, rfl, rfl⟩
  refine RO.nil ?_
  replace h := bindS h
  obtain ⟨e7, h, hk6⟩ := h
  refine CW.meet (X := (Vector Int 8)) (fun x => [(2, .pointer (some ⟨g1, 0, none⟩)), (4, .pointer (some ⟨g3, 0, none⟩))]) (fun x => [frame D, .blk g1 (S.t_A8_int.enc x (hf [])), .blk g2 (S.t_A8_int.enc a2 (hf [])), .blk g3 (S.t_A8_int.enc (Vector.replicate 8 (0 : Int)) (hf []))]) (fun x w => (Φ w ∧ True)) (fun x => S.clock_Join_j2 x = some r) ?_ ?_
  · skip
    refine CW.reg ?_
    refine RO.val (Wt.no rfl) rfl (PV.loadM (l := S.t_A8_int.enc a2 (hf [])) 2 Try.TF37 rfl rfl (cut_self (S.t_A8_int.len _ _)) rfl (by decide)) ?_
    refine RO.val (Wt.no rfl) rfl (PV.move rfl) ?_
    refine RO.nil ?_
    refine CW.block ?_
    refine CW.loopE (X := Nat × (Vector Int 8) × Int) (fun x => [(2, .pointer (some ⟨g1, 0, none⟩)), (4, .pointer (some ⟨g3, 0, none⟩)), (7, .agg (S.t_A8_int.enc a2 (hf [])).toArray), (8, .int .i64 x.2.2)]) (fun x => [frame D, .blk g1 (S.t_A8_int.enc x.2.1 (hf [])), .blk g2 (S.t_A8_int.enc a2 (hf [])), .blk g3 (S.t_A8_int.enc (Vector.replicate 8 (0 : Int)) (hf []))]) (fun x w => (Φ w ∧ True)) (fun x => loopN (S.clock_Join_l3 a2) x.1 (x.2.1, x.2.2) = some e7) (fun x => x.1) (FUEL, a1, 0) h (by exact ⟨rfl, rfl, rfl, rfl, trivial⟩) rfl (fun w hΦ => hΦ) ?_
    rintro ⟨n17', v13, v14⟩ hI15
    try dsimp only at hI15 ⊢
    obtain ⟨n17, y16, rfl, h, hk18⟩ := loopN_some hI15
    unfold S.clock_Join_l3 at h
    try dsimp only at h
    refine CW.reg ?_
    refine RO.val (Wt.no rfl) rfl (PV.lss rfl rfl) ?_
    refine RO.nil ?_
    refine CW.seq ?_
    refine CW.cond rfl (fun hb19 => ?_) (fun hb19 => ?_)
    · replace h := iteT hb19 h
      refine CW.skip ?_
      refine QC.then_n ?_
      refine CW.seq ?_
      refine CW.block ?_
      replace h := bindS h
      obtain ⟨v20, hx21, h⟩ := h
      obtain ⟨hn22, hn23, he24⟩ := aget_some hx21
      refine CW.reg ?_
      refine RO.val (Wt.no rfl) rfl (PV.move rfl) ?_
      refine RO.val (Wt.no rfl) rfl (PV.index (l := [.int .i64 v20]) Try.underlying37 Try.TF3 rfl rfl hn23 (by omega) (by rw [idx_A8_int _ _ _ hn22, he24]) rfl (by decide)) ?_
      refine RO.val (Wt.no rfl) rfl (PV.assign rfl) ?_
      refine RO.val (Wt.no rfl) rfl (PV.assign rfl) ?_
      refine RO.nil ?_
      replace h := bindS h
      obtain ⟨v25, hx26, h⟩ := h
      obtain ⟨hn27, hn28, he29⟩ := aget_some hx26
      replace h := bindS h
      obtain ⟨v30, hx31, h⟩ := h
      obtain ⟨hn32, hn33, he34⟩ := aset_some hx31
      refine CW.region ?_
      refine RO.val (Wt.no rfl) rfl (PV.move rfl) ?_
      refine RO.val (Wt.no rfl) rfl (PV.move rfl) ?_
      refine RO.val (Wt.no rfl) rfl (PV.idxA Try.underlying37 Try.sizeOf3 rfl rfl hn28 (by omega)) ?_
      refine RO.val (Wt.no rfl) rfl (PV.loadM (l := [.int .i64 v25]) 1 Try.TF3 rfl rfl (by rw [cut_A8_int_i _ _ _ hn27, he29]) rfl (by decide)) ?_
      refine RO.val (Wt.no rfl) rfl (PV.move rfl) ?_
      refine RO.val (Wt.no rfl) rfl (PV.max rfl rfl) ?_
      refine RO.val (Wt.no rfl) rfl (PV.idxA Try.underlying37 Try.sizeOf3 rfl rfl hn33 (by omega)) ?_
      refine RO.eff (Wt.no rfl) rfl (EV.storeB (B := S.t_A8_int.enc v30 (hf [])) 1 Try.TF3 rfl rfl rfl rfl rfl (by rw [S.t_A8_int.len]; show _ ≤ 8; omega) ((wr_A8_int_i v13 (max v25 v20) _ hn32).trans (by rw [he34]))) ?_
      rintro _ _ _ ⟨rfl, rfl, rfl⟩
      refine RO.nil ?_
      refine QC.blk_n ?_
      refine QC.then_n ?_
      refine CW.region ?_
      refine RO.val (Wt.no rfl) rfl (PV.addW rfl rfl) ?_
      refine RO.val (Wt.no rfl) rfl (PV.move rfl) ?_
      refine RO.nil ?_
      obtain rfl := Option.some.inj h
      refine QC.roundP (n17, v30, (w64 (v14 + 1))) (nextL_inl hk18) (by exact Nat.lt_succ_self _) [0, 1, 2, 3] (by decide) (by exact ⟨rfl, rfl, rfl, rfl, trivial⟩) rfl (fun w hΦ => hΦ)
    · replace h := iteF hb19 h
      refine CW.exit ?_
      refine QC.then_x ?_
      refine QC.then_x ?_
      refine QC.blk_x ?_
      obtain rfl := Option.some.inj h
      obtain rfl := nextL_inr hk18
      refine QC.meetP v13 hk6 [0, 1, 2, 3] (by decide) (by exact ⟨rfl, rfl, trivial⟩) rfl (fun w hΦ => hΦ)
  · rintro v5 h
    try dsimp only at h ⊢
    unfold S.clock_Join_j2 at h
    refine CW.reg ?_
    refine RO.val (Wt.no rfl) rfl (PV.loadM (l := S.t_A8_int.enc v5 (hf [])) 1 Try.TF37 rfl rfl (cut_self (S.t_A8_int.len _ _)) rfl (by decide)) ?_
    refine RO.eff (Wt.no rfl) rfl (EV.storeW (B := S.t_A8_int.enc v5 (hf [])) 3 Try.TF37 rfl rfl rfl (by exact S.t_A8_int.len v5 (hf [])) (by exact S.t_A8_int.one v5 (hf [])) (S.t_A8_int.len (Vector.replicate 8 (0 : Int)) (hf [])) rfl) ?_
    rintro _ _ _ ⟨rfl, rfl, rfl⟩
    refine RO.nil ?_
    refine CW.ret ?_
    obtain rfl := Option.some.inj h
    exact retP1 (Ψ := Φ) [0] (by decide) rfl (RV.cell (A := S.t_A8_int.enc v5 (hf [])) 3 rfl Try.TF37 rfl (S.t_A8_int.len _ _) (by decide)) rfl (fun w hΦ => hΦ.1) ⟨(), rfl, rfl, rfl⟩

theorem W_bag_find_1 {D : Mem} {Φ : World → Prop} (a1 : S.Val) (a2 : S.Dot) {r : Int} (h : S.bag_find_1 a1 a2 = some r) :
    SpecK Try.prog 118 [.agg (S.t_Val.enc a1 (hf [])).toArray, .agg (S.t_Dot.enc a2 (hf [])).toArray] D [] Φ (fun x : Unit => .int .i64 r) (fun x => []) (fun x => []) (fun _ => Φ) := by
  refine enterK Try.func118 rfl Try.ntmps118 rfl ?_
  unfold S.bag_find_1 at h
  refine CW.reg ?_
  refine RO.eff (Wt.no rfl) rfl (EV.boxB (B := S.t_Val.enc a1 (hf [])) rfl rfl) ?_
  rintro _ _ _ ⟨g1, rfl, rfl, rfl⟩
  refine RO.eff (Wt.no rfl) rfl (EV.boxB (B := S.t_Dot.enc a2 (hf [])) rfl rfl) ?_
  rintro _ _ _ ⟨g2, rfl, rfl, rfl⟩
  refine RO.val (Wt.no rfl) rfl (PV.assign rfl) ?_
  refine RO.nil ?_
  replace h := bindS h
  obtain ⟨v3, hx4, h⟩ := h
  refine CW.reg ?_
  refine RO.val (Wt.no rfl) rfl (PV.fieldAddr Try.fa80_0 rfl) ?_
  refine RO.val (Wt.no rfl) rfl (PV.loadM (l := S.t_Dot.enc a1.Dot (hf [])) 1 Try.TF45 rfl rfl (cut_Val_Dot _ _) rfl (by decide)) ?_
  refine RO.val (Wt.no rfl) rfl (PV.loadM (l := S.t_Dot.enc a2 (hf [])) 2 Try.TF45 rfl rfl (cut_self (S.t_Dot.len _ _)) rfl (by decide)) ?_
  refine RO.eff (Wt.no rfl) rfl (EV.call (K := _) Try.call98 rfl (SpecK.callV (W_clock_Compare a1.Dot a2 hx4))) ?_
  rintro _ _ _ ⟨_, rfl, rfl, rfl⟩
  refine RO.val (Wt.no rfl) rfl (PV.assign rfl) ?_
  refine RO.nil ?_
  refine CW.ret ?_
  obtain rfl := Option.some.inj h
  exact retP1 (Ψ := Φ) [0] (by decide) rfl (RV.tmp rfl) rfl (fun w hΦ => hΦ.1) ⟨(), rfl, rfl, rfl⟩

theorem W_slices_BinarySearchFunc_api_Value_api_Value_api_Dot_bag_find_1 {D : Mem} {Φ : World → Prop} (a1 : List S.Val) (a2 : S.Dot) (b1_0 : Hd) {r : Int × Bool} (h : S.slices_BinarySearchFunc_api_Value_api_Value_api_Dot_bag_find_1 a1 a2 = some r) (hR : ∀ w, MemOk D w → Φ w → (slR S.t_Val w a1 b1_0)) :
    SpecK Try.prog 117 [.slice b1_0.a a1.length b1_0.cap, .agg (S.t_Dot.enc a2 (hf [])).toArray, .func (.func 118) #[] #[]] D [] Φ (fun x : Unit => .tuple #[.int .i64 r.1, .bool r.2]) (fun x => []) (fun x => []) (fun _ => Φ) := by
  refine enterK Try.func117 rfl Try.ntmps117 rfl ?_
  unfold S.slices_BinarySearchFunc_api_Value_api_Value_api_Dot_bag_find_1 at h
  refine CW.reg ?_
  refine RO.eff (Wt.no rfl) rfl (EV.boxB (B := S.t_Dot.enc a2 (hf [])) rfl rfl) ?_
  rintro _ _ _ ⟨g1, rfl, rfl, rfl⟩
  refine RO.val (Wt.no rfl) rfl (PV.assign rfl) ?_
  refine RO.val (Wt.no rfl) rfl (PV.assign rfl) ?_
  refine RO.nil ?_
  refine CW.reg ?_
  refine RO.val (Wt.no rfl) rfl (PV.move rfl) ?_
  refine RO.val (Wt.no rfl) rfl (PV.lenS Try.underlying38 rfl) ?_
  refine RO.val (Wt.no rfl) rfl (PV.assign rfl) ?_
  refine RO.nil ?_
  refine CW.reg ?_
  refine RO.val (Wt.no rfl) rfl (PV.move rfl) ?_
  refine RO.val (Wt.no rfl) rfl (PV.assign rfl) ?_
  refine RO.val (Wt.no rfl) rfl (PV.assign rfl) ?_
  refine RO.nil ?_
  replace h := bindS h
  obtain ⟨e10, h, hk9⟩ := h
  refine CW.meet (X := Int) (fun x => [(0, .slice b1_0.a a1.length b1_0.cap), (2, .func (.func 118) #[] #[]), (4, .pointer (some ⟨g1, 0, none⟩)), (6, .int .i64 0), (7, .bool false), (8, .int .i64 (a1.length : Int)), (9, .int .i64 x)]) (fun x => [frame D, .blk g1 (S.t_Dot.enc a2 (hf []))]) (fun x w => (Φ w ∧ True)) (fun x => S.slices_BinarySearchFunc_api_Value_api_Value_api_Dot_bag_find_1_j2 a1 a2 x = some r) ?_ ?_
  · skip
    refine CW.block ?_
    refine CW.loopE (X := Nat × Int × Int) (fun x => [(0, .slice b1_0.a a1.length b1_0.cap), (2, .func (.func 118) #[] #[]), (4, .pointer (some ⟨g1, 0, none⟩)), (6, .int .i64 0), (7, .bool false), (8, .int .i64 (a1.length : Int)), (9, .int .i64 x.2.1), (10, .int .i64 x.2.2)]) (fun x => [frame D, .blk g1 (S.t_Dot.enc a2 (hf []))]) (fun x w => (Φ w ∧ True)) (fun x => loopN (S.slices_BinarySearchFunc_api_Value_api_Value_api_Dot_bag_find_1_l3 a1 a2) x.1 (x.2.1, x.2.2) = some e10) (fun x => x.1) (FUEL, 0, (a1.length : Int)) h (by exact ⟨rfl, rfl, rfl, rfl, rfl, rfl, rfl, rfl, trivial⟩) rfl (fun w hΦ => hΦ) ?_
    rintro ⟨n20', v16, v17⟩ hI18
    try dsimp only at hI18 ⊢
    obtain ⟨n20, y19, rfl, h, hk21⟩ := loopN_some hI18
    unfold S.slices_BinarySearchFunc_api_Value_api_Value_api_Dot_bag_find_1_l3 at h
    try dsimp only at h
    refine CW.seq ?_
    refine CW.reg ?_
    refine RO.val (Wt.no rfl) rfl (PV.move rfl) ?_
    refine RO.val (Wt.no rfl) rfl (PV.move rfl) ?_
    refine RO.val (Wt.no rfl) rfl (PV.lss rfl rfl) ?_
    refine RO.nil ?_
    refine CW.cond rfl (fun hb22 => ?_) (fun hb22 => ?_)
    · replace h := iteT hb22 h
      refine CW.skip ?_
      refine QC.then_n ?_
      refine CW.block ?_
      refine CW.reg ?_
      refine RO.val (Wt.no rfl) rfl (PV.move rfl) ?_
      refine RO.val (Wt.no rfl) rfl (PV.move rfl) ?_
      refine RO.val (Wt.no rfl) rfl (PV.addW rfl rfl) ?_
      refine RO.val (Wt.no rfl) rfl (PV.conv Try.underlying140 ⟨_, Try.underlying3⟩ rfl) ?_
      refine RO.val (Wt.no rfl) rfl (PV.shr rfl rfl (by decide)) ?_
      refine RO.val (Wt.no rfl) rfl (PV.conv Try.underlying3 ⟨_, Try.underlying140⟩ rfl) ?_
      refine RO.val (Wt.no rfl) rfl (PV.assign rfl) ?_
      refine RO.nil ?_
      replace h := bindS h
      obtain ⟨v23, hx24, h⟩ := h
      replace h := bindS h
      obtain ⟨v25, hx26, h⟩ := h
      refine CW.regD (pickM [0, 1] _) _ (by kernel_rfl) (St.of (by decide) rfl (fun _ h => h)) ?_
      refine RD.take 0 rfl (by kernel_rfl) (by kernel_rfl) (by kernel_rfl) (Wt.no rfl) rfl (PV.move rfl) ?_
      refine RD.take 1 rfl (by kernel_rfl) (by kernel_rfl) (by kernel_rfl) (Wt.no rfl) rfl (PV.move rfl) ?_
      refine RD.take 2 rfl (by kernel_rfl) (by kernel_rfl) (by kernel_rfl) (Wt.no rfl) rfl (PV.move rfl) ?_
      refine RD.take 3 rfl (by kernel_rfl) (by kernel_rfl) (by kernel_rfl) (Wt.no rfl) rfl (PV.idxQ (t := S.t_Val) (l := a1) (q := b1_0) Try.underlying38 Try.sizeOf80 (fun w hm hΦ => (hR w (hm.frameAt (i := 0) rfl) (hΦ.1))) rfl rfl hx24) ?_
      refine RD.take 4 rfl (by kernel_rfl) (by kernel_rfl) (by kernel_rfl) (Wt.no rfl) rfl (PV.loadQ (off := 0) (cs := S.t_Val.enc v23 (hf [])) (t := S.t_Val) (l := a1) (q := b1_0) Try.TF80 (fun w hm hΦ => (hR w (hm.frameAt (i := 0) rfl) (hΦ.1))) hx24 rfl rfl rfl (cut_self (S.t_Val.len _ _)) rfl (by decide)) ?_
      refine RD.take 5 rfl (by kernel_rfl) (by kernel_rfl) (by kernel_rfl) (Wt.no rfl) rfl (PV.loadM (l := S.t_Dot.enc a2 (hf [])) 1 Try.TF45 rfl rfl (cut_self (S.t_Dot.len _ _)) rfl (by decide)) ?_
      refine RD.one 6 (by kernel_rfl) ?_
      refine Up.eff rfl (Wt.no rfl) rfl (EV.callV2 (K := _) (pre := []) (caps := []) Try.call118 rfl rfl (SpecK.callV (W_bag_find_1 v23 a2 hx26))) ?_ ?_
      · rintro _ _ _ ⟨_, rfl, rfl, rfl⟩; exact St.of' (by decide) (L' := [0, 1]) rfl (fun _ h => h)
      rintro _ _ _ ⟨_, rfl, rfl, rfl⟩
      refine RD.take 7 rfl (by kernel_rfl) (by kernel_rfl) (by kernel_rfl) (Wt.no rfl) rfl (PV.lss rfl rfl) ?_
      refine RD.done (by kernel_rfl) ?_
      refine CW.cond rfl (fun hb27 => ?_) (fun hb27 => ?_)
      · replace h := iteT hb27 h
        refine CW.region ?_
        refine RO.val (Wt.no rfl) rfl (PV.move rfl) ?_
        refine RO.val (Wt.no rfl) rfl (PV.addW rfl rfl) ?_
        refine RO.val (Wt.no rfl) rfl (PV.assign rfl) ?_
        refine RO.nil ?_
        refine QC.blk_n ?_
        obtain rfl := Option.some.inj h
        refine QC.roundP (n20, (w64 ((IntKind.i64.wrap (shrI .u64 (IntKind.u64.wrap (w64 (v16 + v17))) 1)) + 1)), v17) (nextL_inl hk21) (by exact Nat.lt_succ_self _) [0, 1] (by decide) (by exact ⟨rfl, rfl, rfl, rfl, rfl, rfl, rfl, rfl, trivial⟩) rfl (fun w hΦ => hΦ)
      · replace h := iteF hb27 h
        refine CW.region ?_
        refine RO.val (Wt.no rfl) rfl (PV.move rfl) ?_
        refine RO.val (Wt.no rfl) rfl (PV.assign rfl) ?_
        refine RO.nil ?_
        refine QC.blk_n ?_
        obtain rfl := Option.some.inj h
        refine QC.roundP (n20, v16, (IntKind.i64.wrap (shrI .u64 (IntKind.u64.wrap (w64 (v16 + v17))) 1))) (nextL_inl hk21) (by exact Nat.lt_succ_self _) [0, 1] (by decide) (by exact ⟨rfl, rfl, rfl, rfl, rfl, rfl, rfl, rfl, trivial⟩) rfl (fun w hΦ => hΦ)
    · replace h := iteF hb22 h
      refine CW.exit ?_
      refine QC.then_x ?_
      refine QC.then_x ?_
      refine QC.blk_x ?_
      obtain rfl := Option.some.inj h
      obtain rfl := nextL_inr hk21
      refine QC.meetP v16 hk9 [0, 1] (by decide) (by exact ⟨rfl, rfl, rfl, rfl, rfl, rfl, rfl, trivial⟩) rfl (fun w hΦ => hΦ)
  · rintro v3 h
    try dsimp only at h ⊢
    unfold S.slices_BinarySearchFunc_api_Value_api_Value_api_Dot_bag_find_1_j2 at h
    by_cases hb4 : (decide (v3 < (a1.length : Int))) = true
    · replace h := iteT hb4 h
      replace h := bindS h
      obtain ⟨v5, hx6, h⟩ := h
      replace h := bindS h
      obtain ⟨v7, hx8, h⟩ := h
      refine CW.regD (pickM [0, 1] _) _ (by kernel_rfl) (St.of (by decide) rfl (fun _ h => h)) ?_
      refine RD.take 0 rfl (by kernel_rfl) (by kernel_rfl) (by kernel_rfl) (Wt.no rfl) rfl (PV.move rfl) ?_
      refine RD.take 1 rfl (by kernel_rfl) (by kernel_rfl) (by kernel_rfl) (Wt.no rfl) rfl (PV.move rfl) ?_
      refine RD.take 2 rfl (by kernel_rfl) (by kernel_rfl) (by kernel_rfl) (Wt.no rfl) rfl (PV.move rfl) ?_
      refine RD.take 3 rfl (by kernel_rfl) (by kernel_rfl) (by kernel_rfl) (Wt.no rfl) rfl (PV.lss rfl rfl) ?_
      refine RD.take 4 rfl (by kernel_rfl) (by kernel_rfl) (by kernel_rfl) (Wt.no rfl) rfl ((PV.move rfl).to (congrArg Value.bool hb4)) ?_
      refine RD.take 5 rfl (by kernel_rfl) (by kernel_rfl) (by kernel_rfl) (Wt.yes rfl rfl rfl rfl) rfl (PV.move rfl) ?_
      refine RD.take 6 rfl (by kernel_rfl) (by kernel_rfl) (by kernel_rfl) (Wt.yes rfl rfl rfl rfl) rfl (PV.move rfl) ?_
      refine RD.take 7 rfl (by kernel_rfl) (by kernel_rfl) (by kernel_rfl) (Wt.yes rfl rfl rfl rfl) rfl (PV.move rfl) ?_
      refine RD.take 8 rfl (by kernel_rfl) (by kernel_rfl) (by kernel_rfl) (Wt.yes rfl rfl rfl rfl) rfl (PV.idxQ (t := S.t_Val) (l := a1) (q := b1_0) Try.underlying38 Try.sizeOf80 (fun w hm hΦ => (hR w (hm.frameAt (i := 0) rfl) (hΦ.1))) rfl rfl hx6) ?_
      refine RD.take 9 rfl (by kernel_rfl) (by kernel_rfl) (by kernel_rfl) (Wt.yes rfl rfl rfl rfl) rfl (PV.loadQ (off := 0) (cs := S.t_Val.enc v5 (hf [])) (t := S.t_Val) (l := a1) (q := b1_0) Try.TF80 (fun w hm hΦ => (hR w (hm.frameAt (i := 0) rfl) (hΦ.1))) hx6 rfl rfl rfl (cut_self (S.t_Val.len _ _)) rfl (by decide)) ?_
      refine RD.take 10 rfl (by kernel_rfl) (by kernel_rfl) (by kernel_rfl) (Wt.yes rfl rfl rfl rfl) rfl (PV.loadM (l := S.t_Dot.enc a2 (hf [])) 1 Try.TF45 rfl rfl (cut_self (S.t_Dot.len _ _)) rfl (by decide)) ?_
      refine RD.one 11 (by kernel_rfl) ?_
      refine Up.eff rfl (Wt.yes rfl rfl rfl rfl) rfl (EV.callV2 (K := _) (pre := []) (caps := []) Try.call118 rfl rfl (SpecK.callV (W_bag_find_1 v5 a2 hx8))) ?_ ?_
      · rintro _ _ _ ⟨_, rfl, rfl, rfl⟩; exact St.of' (by decide) (L' := [0, 1]) rfl (fun _ h => h)
      rintro _ _ _ ⟨_, rfl, rfl, rfl⟩
      refine RD.take 12 rfl (by kernel_rfl) (by kernel_rfl) (by kernel_rfl) (Wt.yes rfl rfl rfl rfl) rfl (PV.eql rfl rfl) ?_
      refine RD.take 13 rfl (by kernel_rfl) (by kernel_rfl) (by kernel_rfl) (Wt.no rfl) rfl (PV.pickT rfl rfl) ?_
      refine RD.take 14 rfl (by kernel_rfl) (by kernel_rfl) (by kernel_rfl) (Wt.no rfl) rfl (PV.assign rfl) ?_
      refine RD.take 15 rfl (by kernel_rfl) (by kernel_rfl) (by kernel_rfl) (Wt.no rfl) rfl (PV.assign rfl) ?_
      refine RD.done (by kernel_rfl) ?_
      refine CW.ret ?_
      obtain rfl := Option.some.inj h
      exact retP2 (Ψ := Φ) [0] (by decide) rfl (RV.tmp rfl) (RV.tmp rfl) rfl (fun w hΦ => hΦ.1) ⟨(), rfl, rfl, rfl⟩
    · replace hb4 := Bool.eq_false_iff.2 hb4
      replace h := iteF hb4 h
      refine CW.regD (pickM [0, 1] _) _ (by kernel_rfl) (St.of (by decide) rfl (fun _ h => h)) ?_
      refine RD.take 0 rfl (by kernel_rfl) (by kernel_rfl) (by kernel_rfl) (Wt.no rfl) rfl (PV.move rfl) ?_
      refine RD.take 1 rfl (by kernel_rfl) (by kernel_rfl) (by kernel_rfl) (Wt.no rfl) rfl (PV.move rfl) ?_
      refine RD.take 2 rfl (by kernel_rfl) (by kernel_rfl) (by kernel_rfl) (Wt.no rfl) rfl (PV.move rfl) ?_
      refine RD.take 3 rfl (by kernel_rfl) (by kernel_rfl) (by kernel_rfl) (Wt.no rfl) rfl (PV.lss rfl rfl) ?_
      refine RD.take 4 rfl (by kernel_rfl) (by kernel_rfl) (by kernel_rfl) (Wt.no rfl) rfl ((PV.move rfl).to (congrArg Value.bool hb4)) ?_
      refine RD.takeNo 5 rfl (by kernel_rfl) (by kernel_rfl) (by kernel_rfl) (Un.mk rfl rfl rfl rfl) rfl ?_
      refine RD.takeNo 6 rfl (by kernel_rfl) (by kernel_rfl) (by kernel_rfl) (Un.mk rfl rfl rfl rfl) rfl ?_
      refine RD.takeNo 7 rfl (by kernel_rfl) (by kernel_rfl) (by kernel_rfl) (Un.mk rfl rfl rfl rfl) rfl ?_
      refine RD.takeNo 8 rfl (by kernel_rfl) (by kernel_rfl) (by kernel_rfl) (Un.mk rfl rfl rfl rfl) rfl ?_
      refine RD.takeNo 9 rfl (by kernel_rfl) (by kernel_rfl) (by kernel_rfl) (Un.mk rfl rfl rfl rfl) rfl ?_
      refine RD.takeNo 10 rfl (by kernel_rfl) (by kernel_rfl) (by kernel_rfl) (Un.mk rfl rfl rfl rfl) rfl ?_
      refine RD.takeNo 11 rfl (by kernel_rfl) (by kernel_rfl) (by kernel_rfl) (Un.mk rfl rfl rfl rfl) rfl ?_
      refine RD.takeNo 12 rfl (by kernel_rfl) (by kernel_rfl) (by kernel_rfl) (Un.mk rfl rfl rfl rfl) rfl ?_
      refine RD.take 13 rfl (by kernel_rfl) (by kernel_rfl) (by kernel_rfl) (Wt.no rfl) rfl (PV.pickF rfl rfl) ?_
      refine RD.take 14 rfl (by kernel_rfl) (by kernel_rfl) (by kernel_rfl) (Wt.no rfl) rfl (PV.assign rfl) ?_
      refine RD.take 15 rfl (by kernel_rfl) (by kernel_rfl) (by kernel_rfl) (Wt.no rfl) rfl (PV.assign rfl) ?_
      refine RD.done (by kernel_rfl) ?_
      refine CW.ret ?_
      obtain rfl := Option.some.inj h
      exact retP2 (Ψ := Φ) [0] (by decide) rfl (RV.tmp rfl) (RV.tmp rfl) rfl (fun w hΦ => hΦ.1) ⟨(), rfl, rfl, rfl⟩

theorem W_bag_find {D : Mem} {Φ : World → Prop} (a1 : List S.Val) (a2 : S.Dot) (b1_0 : Hd) {r : Int × Bool} (h : S.bag_find a1 a2 = some r) (hR : ∀ w, MemOk D w → Φ w → (slR S.t_Val w a1 b1_0)) :
    SpecK Try.prog 94 [.slice b1_0.a a1.length b1_0.cap, .agg (S.t_Dot.enc a2 (hf [])).toArray] D [] Φ (fun x : Unit => .tuple #[.int .i64 r.1, .bool r.2]) (fun x => []) (fun x => []) (fun _ => Φ) := by
  refine enterK Try.func94 rfl Try.ntmps94 rfl ?_
  unfold S.bag_find at h
  refine CW.reg ?_
  refine RO.eff (Wt.no rfl) rfl (EV.boxB (B := S.t_Dot.enc a2 (hf [])) rfl rfl) ?_
  rintro _ _ _ ⟨g1, rfl, rfl, rfl⟩
  refine RO.val (Wt.no rfl) rfl (PV.assign rfl) ?_
  refine RO.val (Wt.no rfl) rfl (PV.assign rfl) ?_
  refine RO.nil ?_
  replace h := bindS h
  obtain ⟨⟨v2, v3⟩, hx4, h⟩ := h
  dsimp only at h
  refine CW.reg ?_
  refine RO.val (Wt.no rfl) rfl (PV.move rfl) ?_
  refine RO.val (Wt.no rfl) rfl (PV.loadM (l := S.t_Dot.enc a2 (hf [])) 1 Try.TF45 rfl rfl (cut_self (S.t_Dot.len _ _)) rfl (by decide)) ?_
  refine RO.eff (Wt.no rfl) rfl (EV.call (K := _) Try.call117 rfl (SpecK.callV (W_slices_BinarySearchFunc_api_Value_api_Value_api_Dot_bag_find_1 a1 a2 b1_0 hx4 (fun w hm hΦ => (hR w (hm.frameAt (i := 0) rfl) (hΦ.1)))))) ?_
  rintro _ _ _ ⟨_, rfl, rfl, rfl⟩
  refine RO.val (Wt.no rfl) rfl (PV.extract rfl rfl) ?_
  refine RO.val (Wt.no rfl) rfl (PV.extract rfl rfl) ?_
  refine RO.val (Wt.no rfl) rfl (PV.assign rfl) ?_
  refine RO.val (Wt.no rfl) rfl (PV.assign rfl) ?_
  refine RO.nil ?_
  refine CW.ret ?_
  obtain rfl := Option.some.inj h
  exact retP2 (Ψ := Φ) [0] (by decide) rfl (RV.tmp rfl) (RV.tmp rfl) rfl (fun w hΦ => hΦ.1) ⟨(), rfl, rfl, rfl⟩

theorem W_bag_stays {D : Mem} {Φ : World → Prop} (a1 : S.Bag) (a2 : S.Bag) (b1_0 : Hd) (b2_0 : Hd) {r : (List S.Val)} (h : S.bag_stays a1 a2 = some r) (hR : ∀ w, MemOk D w → Φ w → (slR S.t_Val w a1.Values b1_0 ∧ slR S.t_Val w a2.Values b2_0)) :
    SpecK Try.prog 109 [.agg (S.t_Bag.enc a1 (hf [b1_0])).toArray, .agg (S.t_Bag.enc a2 (hf [b2_0])).toArray] D [] Φ (fun x : Hd => .slice x.a r.length x.cap) (fun x => []) (fun x => [rowE S.t_Val 80 r x]) (fun _ => Φ) := by
  refine enterK Try.func109 rfl Try.ntmps109 rfl ?_
  unfold S.bag_stays at h
  refine CW.reg ?_
  refine RO.eff (Wt.no rfl) rfl (EV.boxB (B := S.t_Bag.enc a1 (hf [b1_0])) rfl rfl) ?_
  rintro _ _ _ ⟨g1, rfl, rfl, rfl⟩
  refine RO.eff (Wt.no rfl) rfl (EV.boxB (B := S.t_Bag.enc a2 (hf [b2_0])) rfl rfl) ?_
  rintro _ _ _ ⟨g2, rfl, rfl, rfl⟩
  refine RO.val (Wt.no rfl) rfl (PV.assign rfl) ?_
  refine RO.nil ?_
  refine CW.reg ?_
  refine RO.val (Wt.no rfl) rfl (PV.assign rfl) ?_
  refine RO.nil ?_
  refine CW.row 80 3 ?_
  replace h := bindS h
  obtain ⟨e7, h, hk6⟩ := h
  refine CW.meet (X := (List S.Val) × Hd) (fun x => [(4, .slice Hd.z.a 0 Hd.z.cap), (5, .slice x.2.a x.1.length x.2.cap)]) (fun x => [frame D, .blk g1 (S.t_Bag.enc a1 (hf [b1_0])), .blk g2 (S.t_Bag.enc a2 (hf [b2_0])), rowE S.t_Val 80 x.1 x.2]) (fun x w => (Φ w ∧ True)) (fun x => S.bag_stays_j3 x.1 = some r) ?_ ?_
  · skip
    refine CW.reg ?_
    refine RO.val (Wt.no rfl) rfl (PV.fieldAddr Try.fa40_1 rfl) ?_
    refine RO.val (Wt.no rfl) rfl (PV.loadM (l := [.slice b1_0.a a1.Values.length b1_0.cap]) 1 Try.TF38 rfl rfl (cut_Bag_Values _ _) rfl (by decide)) ?_
    refine RO.val (Wt.no rfl) rfl (PV.lenS Try.underlying38 rfl) ?_
    refine RO.val (Wt.no rfl) rfl (PV.move rfl) ?_
    refine RO.nil ?_
    refine CW.block ?_
    refine CW.loopE (X := Nat × (List S.Val) × Int × Hd) (fun x => [(3, .pointer (some ⟨g2, 0, none⟩)), (4, .slice Hd.z.a 0 Hd.z.cap), (5, .slice x.2.2.2.a x.2.1.length x.2.2.2.cap), (11, .slice b1_0.a a1.Values.length b1_0.cap), (12, .int .i64 (a1.Values.length : Int)), (13, .int .i64 x.2.2.1)]) (fun x => [frame D, .blk g1 (S.t_Bag.enc a1 (hf [b1_0])), .blk g2 (S.t_Bag.enc a2 (hf [b2_0])), rowE S.t_Val 80 x.2.1 x.2.2.2]) (fun x w => (Φ w ∧ True)) (fun x => loopN (S.bag_stays_l4 a1 a2) x.1 (x.2.1, x.2.2.1) = some e7) (fun x => x.1) (FUEL, [], 0, Hd.z) h (by exact ⟨rfl, rfl, rfl, rfl, rfl, rfl, trivial⟩) rfl (fun w hΦ => hΦ) ?_
    rintro ⟨n19', v14, v16, q15⟩ hI17
    try dsimp only at hI17 ⊢
    obtain ⟨n19, y18, rfl, h, hk20⟩ := loopN_some hI17
    unfold S.bag_stays_l4 at h
    try dsimp only at h
    refine CW.reg ?_
    refine RO.val (Wt.no rfl) rfl (PV.lss rfl rfl) ?_
    refine RO.nil ?_
    refine CW.seq ?_
    refine CW.cond rfl (fun hb21 => ?_) (fun hb21 => ?_)
    · replace h := iteT hb21 h
      refine CW.skip ?_
      refine QC.then_n ?_
      refine CW.seq ?_
      refine CW.block ?_
      replace h := bindS h
      obtain ⟨v22, hx23, h⟩ := h
      refine CW.reg ?_
      refine RO.val (Wt.no rfl) rfl (PV.idxQ (t := S.t_Val) (l := a1.Values) (q := b1_0) Try.underlying38 Try.sizeOf80 (fun w hm hΦ => (hR w (hm.frameAt (i := 0) rfl) (hΦ.1)).1) rfl rfl hx23) ?_
      refine RO.val (Wt.no rfl) rfl (PV.loadQ (off := 0) (cs := S.t_Val.enc v22 (hf [])) (t := S.t_Val) (l := a1.Values) (q := b1_0) Try.TF80 (fun w hm hΦ => (hR w (hm.frameAt (i := 0) rfl) (hΦ.1)).1) hx23 rfl rfl rfl (cut_self (S.t_Val.len _ _)) rfl (by decide)) ?_
      refine RO.eff (Wt.no rfl) rfl (EV.allocB (B := S.t_Val.enc S.Val.z (hf [])) Try.zeroValue80 rfl) ?_
      rintro _ _ _ ⟨g24, rfl, rfl, rfl⟩
      refine RO.eff (Wt.no rfl) rfl (EV.storeW (B := S.t_Val.enc v22 (hf [])) 4 Try.TF80 rfl rfl rfl (by exact S.t_Val.len v22 (hf [])) (by exact S.t_Val.one v22 (hf [])) (S.t_Val.len S.Val.z (hf [])) rfl) ?_
      rintro _ _ _ ⟨rfl, rfl, rfl⟩
      refine RO.nil ?_
      replace h := bindS h
      obtain ⟨⟨v25, v26⟩, hx27, h⟩ := h
      dsimp only at h
      refine CW.reg ?_
      refine RO.val (Wt.no rfl) rfl (PV.fieldAddr Try.fa40_1 rfl) ?_
      refine RO.val (Wt.no rfl) rfl (PV.loadM (l := [.slice b2_0.a a2.Values.length b2_0.cap]) 2 Try.TF38 rfl rfl (cut_Bag_Values _ _) rfl (by decide)) ?_
      refine RO.val (Wt.no rfl) rfl (PV.fieldAddr Try.fa80_0 rfl) ?_
      refine RO.val (Wt.no rfl) rfl (PV.loadM (l := S.t_Dot.enc v22.Dot (hf [])) 4 Try.TF45 rfl rfl (cut_Val_Dot _ _) rfl (by decide)) ?_
      refine RO.eff (Wt.no rfl) rfl (EV.call (K := _) Try.call94 rfl (SpecK.callV (W_bag_find a2.Values v22.Dot b2_0 hx27 (fun w hm hΦ => (hR w (hm.frameAt (i := 0) rfl) (hΦ.1)).2)))) ?_
      rintro _ _ _ ⟨_, rfl, rfl, rfl⟩
      refine RO.val (Wt.no rfl) rfl (PV.move rfl) ?_
      refine RO.val (Wt.no rfl) rfl (PV.extract rfl rfl) ?_
      refine RO.val (Wt.no rfl) rfl (PV.extract rfl rfl) ?_
      refine RO.val (Wt.no rfl) rfl (PV.assign rfl) ?_
      refine RO.val (Wt.no rfl) rfl (PV.assign rfl) ?_
      refine RO.nil ?_
      by_cases hb28 : v26 = true
      · replace h := iteT hb28 h
        subst hb28
        refine CW.reg ?_
        refine RO.val (Wt.no rfl) rfl (PV.move rfl) ?_
        refine RO.val (Wt.no rfl) rfl (PV.move rfl) ?_
        refine RO.skip (Un.mk rfl rfl rfl rfl) rfl ?_
        refine RO.skip (Un.mk rfl rfl rfl rfl) rfl ?_
        refine RO.skip (Un.mk rfl rfl rfl rfl) rfl ?_
        refine RO.skip (Un.mk rfl rfl rfl rfl) rfl ?_
        refine RO.skip (Un.mk rfl rfl rfl rfl) rfl ?_
        refine RO.skip (Un.mk rfl rfl rfl rfl) rfl ?_
        refine RO.val (Wt.no rfl) rfl (PV.pickT rfl rfl) ?_
        refine RO.nil ?_
        refine CW.condT rfl ?_
        replace h := bindS h
        obtain ⟨v30, hx31, h⟩ := h
        refine CW.region ?_
        refine RO.val (Wt.no rfl) rfl (PV.move rfl) ?_
        refine RO.val (Wt.no rfl) rfl (PV.loadM (l := S.t_Val.enc v22 (hf [])) 4 Try.TF80 rfl rfl (cut_self (S.t_Val.len _ _)) rfl (by decide)) ?_
        refine RO.eff (Wt.no rfl) rfl (EV.buildSlice (xs := [.tmp 35]) rfl Try.underlying38 Try.sizeOf80 Try.zeroValue80 rfl rfl rfl rfl) ?_
        rintro _ _ _ ⟨g29, rfl, rfl, rfl⟩
        refine RO.eff (Wt.no rfl) rfl (EV.appQ (bytes := 32) (t := S.t_Val) (l := v14) (q := q15) (y := v22) (hy := hf []) 3 5 Try.underlying38 Try.inf80 rfl rfl rfl rfl (by decide) rfl rfl rfl rfl hx31 (by decide)) ?_
        rintro _ _ _ ⟨a32, c33, rfl, rfl, rfl⟩
        refine RO.val (Wt.no rfl) rfl (PV.assign rfl) ?_
        refine RO.nil ?_
        refine QC.blk_n ?_
        refine QC.then_n ?_
        refine CW.region ?_
        refine RO.val (Wt.no rfl) rfl (PV.addW rfl rfl) ?_
        refine RO.val (Wt.no rfl) rfl (PV.move rfl) ?_
        refine RO.nil ?_
        obtain rfl := Option.some.inj h
        refine QC.roundP (n19, v30, (w64 (v16 + 1)), (Hd.mk a32 c33 (snocS v14.length q15.sub (hf [])))) (nextL_inl hk20) (by exact Nat.lt_succ_self _) [0, 1, 2, 3] (by decide) (by exact ⟨rfl, rfl, rfl, rfl, rfl, rfl, trivial⟩) rfl (fun w hΦ => hΦ)
      · replace hb28 := Bool.eq_false_iff.2 hb28
        replace h := iteF hb28 h
        subst hb28
        replace h := bindS h
        obtain ⟨v34, hx35, h⟩ := h
        refine CW.reg ?_
        refine RO.val (Wt.no rfl) rfl (PV.move rfl) ?_
        refine RO.val (Wt.no rfl) rfl (PV.move rfl) ?_
        refine RO.val (Wt.yes rfl rfl rfl rfl) rfl (PV.fieldAddr Try.fa40_0 rfl) ?_
        refine RO.val (Wt.yes rfl rfl rfl rfl) rfl (PV.loadM (l := S.t_A8_int.enc a2.Known (hf [])) 2 Try.TF37 rfl rfl (cut_Bag_Known _ _) rfl (by decide)) ?_
        refine RO.val (Wt.yes rfl rfl rfl rfl) rfl (PV.fieldAddr Try.fa80_0 rfl) ?_
        refine RO.val (Wt.yes rfl rfl rfl rfl) rfl (PV.loadM (l := S.t_Dot.enc v22.Dot (hf [])) 4 Try.TF45 rfl rfl (cut_Val_Dot _ _) rfl (by decide)) ?_
        refine RO.eff (Wt.yes rfl rfl rfl rfl) rfl (EV.call (K := _) Try.call34 rfl (SpecK.callV (W_clock_Has a2.Known v22.Dot hx35))) ?_
        rintro _ _ _ ⟨_, rfl, rfl, rfl⟩
        refine RO.val (Wt.yes rfl rfl rfl rfl) rfl (PV.not rfl) ?_
        refine RO.val (Wt.no rfl) rfl (PV.pickF rfl rfl) ?_
        refine RO.nil ?_
        refine CW.cond rfl (fun hb36 => ?_) (fun hb36 => ?_)
        · replace h := iteT hb36 h
          replace h := bindS h
          obtain ⟨v38, hx39, h⟩ := h
          refine CW.region ?_
          refine RO.val (Wt.no rfl) rfl (PV.move rfl) ?_
          refine RO.val (Wt.no rfl) rfl (PV.loadM (l := S.t_Val.enc v22 (hf [])) 4 Try.TF80 rfl rfl (cut_self (S.t_Val.len _ _)) rfl (by decide)) ?_
          refine RO.eff (Wt.no rfl) rfl (EV.buildSlice (xs := [.tmp 35]) rfl Try.underlying38 Try.sizeOf80 Try.zeroValue80 rfl rfl rfl rfl) ?_
          rintro _ _ _ ⟨g37, rfl, rfl, rfl⟩
          refine RO.eff (Wt.no rfl) rfl (EV.appQ (bytes := 32) (t := S.t_Val) (l := v14) (q := q15) (y := v22) (hy := hf []) 3 5 Try.underlying38 Try.inf80 rfl rfl rfl rfl (by decide) rfl rfl rfl rfl hx39 (by decide)) ?_
          rintro _ _ _ ⟨a40, c41, rfl, rfl, rfl⟩
          refine RO.val (Wt.no rfl) rfl (PV.assign rfl) ?_
          refine RO.nil ?_
          refine QC.blk_n ?_
          refine QC.then_n ?_
          refine CW.region ?_
          refine RO.val (Wt.no rfl) rfl (PV.addW rfl rfl) ?_
          refine RO.val (Wt.no rfl) rfl (PV.move rfl) ?_
          refine RO.nil ?_
          obtain rfl := Option.some.inj h
          refine QC.roundP (n19, v38, (w64 (v16 + 1)), (Hd.mk a40 c41 (snocS v14.length q15.sub (hf [])))) (nextL_inl hk20) (by exact Nat.lt_succ_self _) [0, 1, 2, 3] (by decide) (by exact ⟨rfl, rfl, rfl, rfl, rfl, rfl, trivial⟩) rfl (fun w hΦ => hΦ)
        · replace h := iteF hb36 h
          refine CW.skip ?_
          refine QC.blk_n ?_
          refine QC.then_n ?_
          refine CW.region ?_
          refine RO.val (Wt.no rfl) rfl (PV.addW rfl rfl) ?_
          refine RO.val (Wt.no rfl) rfl (PV.move rfl) ?_
          refine RO.nil ?_
          obtain rfl := Option.some.inj h
          refine QC.roundP (n19, v14, (w64 (v16 + 1)), q15) (nextL_inl hk20) (by exact Nat.lt_succ_self _) [0, 1, 2, 3] (by decide) (by exact ⟨rfl, rfl, rfl, rfl, rfl, rfl, trivial⟩) rfl (fun w hΦ => hΦ)
    · replace h := iteF hb21 h
      refine CW.exit ?_
      refine QC.then_x ?_
      refine QC.then_x ?_
      refine QC.blk_x ?_
      obtain rfl := Option.some.inj h
      obtain rfl := nextL_inr hk20
      refine QC.meetP (v14, q15) hk6 [0, 1, 2, 3] (by decide) (by exact ⟨rfl, rfl, trivial⟩) rfl (fun w hΦ => hΦ)
  · rintro ⟨v4, q5⟩ h
    try dsimp only at h ⊢
    unfold S.bag_stays_j3 at h
    refine CW.reg ?_
    refine RO.val (Wt.no rfl) rfl (PV.move rfl) ?_
    refine RO.val (Wt.no rfl) rfl (PV.assign rfl) ?_
    refine RO.nil ?_
    refine CW.ret ?_
    obtain rfl := Option.some.inj h
    exact retP1 (Ψ := Φ) [0, 3] (by decide) rfl (RV.tmp rfl) rfl (fun w hΦ => hΦ.1) ⟨q5, rfl, rfl, rfl⟩

theorem W_bag_Join {D : Mem} {Φ : World → Prop} (a1 : S.Bag) (a2 : S.Bag) (b1_0 : Hd) (b2_0 : Hd) {r : S.Bag × Int} (h : S.bag_Join a1 a2 = some r) (hR : ∀ w, MemOk D w → Φ w → (slR S.t_Val w a1.Values b1_0 ∧ slR S.t_Val w a2.Values b2_0)) :
    SpecK Try.prog 81 [.agg (S.t_Bag.enc a1 (hf [b1_0])).toArray, .agg (S.t_Bag.enc a2 (hf [b2_0])).toArray] D [] Φ (fun x : Hd => .tuple #[.agg (S.t_Bag.enc r.1 (hf [x])).toArray, .int .i64 r.2]) (fun x => []) (fun x => []) (fun x w => Φ w ∧ (slR S.t_Val w r.1.Values x)) := by
  refine enterK Try.func81 rfl Try.ntmps81 rfl ?_
  unfold S.bag_Join at h
  refine CW.reg ?_
  refine RO.eff (Wt.no rfl) rfl (EV.boxB (B := S.t_Bag.enc a1 (hf [b1_0])) rfl rfl) ?_
  rintro _ _ _ ⟨g1, rfl, rfl, rfl⟩
  refine RO.eff (Wt.no rfl) rfl (EV.boxB (B := S.t_Bag.enc a2 (hf [b2_0])) rfl rfl) ?_
  rintro _ _ _ ⟨g2, rfl, rfl, rfl⟩
  refine RO.eff (Wt.no rfl) rfl (EV.allocB (B := S.t_Bag.enc S.Bag.z (hf [Hd.z])) Try.zeroValue40 rfl) ?_
  rintro _ _ _ ⟨g3, rfl, rfl, rfl⟩
  refine RO.val (Wt.no rfl) rfl (PV.assign rfl) ?_
  refine RO.nil ?_
  refine CW.seq ?_
  replace h := bindS h
  obtain ⟨e60, h, hk59⟩ := h
  refine CW.meet (X := Bool) (fun x => [(2, .pointer (some ⟨g1, 0, none⟩)), (3, .pointer (some ⟨g2, 0, none⟩)), (4, .pointer (some ⟨g3, 0, none⟩)), (5, .int .i64 0), (18, .bool x)]) (fun x => [frame D, .blk g1 (S.t_Bag.enc a1 (hf [b1_0])), .blk g2 (S.t_Bag.enc a2 (hf [b2_0])), .blk g3 (S.t_Bag.enc S.Bag.z (hf [Hd.z]))]) (fun x w => (Φ w ∧ True)) (fun x => S.bag_Join_j1 a1 a2 x = some r) ?_ ?_
  · skip
    replace h := bindS h
    obtain ⟨v61, hx62, h⟩ := h
    by_cases hb63 : (!v61) = true
    · replace h := iteT hb63 h
      refine CW.region ?_
      refine RO.val (Wt.no rfl) rfl (PV.loadM (l := S.t_Bag.enc a1 (hf [b1_0])) 1 Try.TF40 rfl rfl (cut_self (S.t_Bag.len _ _)) rfl (by decide)) ?_
      refine RO.eff (Wt.no rfl) rfl (EV.call (K := _) Try.call73 rfl (SpecK.callV (W_bag_May a1 b1_0 hx62 (fun w hm hΦ => (hR w (hm.frameAt (i := 0) rfl) (hΦ.1)).1)))) ?_
      rintro _ _ _ ⟨_, rfl, rfl, rfl⟩
      refine RO.val (Wt.no rfl) rfl (PV.not rfl) ?_
      refine RO.val (Wt.no rfl) rfl ((PV.move rfl).to (congrArg Value.bool hb63)) ?_
      refine RO.skip (Un.mk rfl rfl rfl rfl) rfl ?_
      refine RO.skip (Un.mk rfl rfl rfl rfl) rfl ?_
      refine RO.skip (Un.mk rfl rfl rfl rfl) rfl ?_
      refine RO.val (Wt.no rfl) rfl (PV.pickT rfl rfl) ?_
      refine RO.nil ?_
      obtain rfl := Option.some.inj h
      refine QC.meetP true hk59 [0, 1, 2, 3] (by decide) (by exact ⟨rfl, rfl, rfl, rfl, rfl, trivial⟩) rfl (fun w hΦ => hΦ)
    · replace hb63 := Bool.eq_false_iff.2 hb63
      replace h := iteF hb63 h
      replace h := bindS h
      obtain ⟨v64, hx65, h⟩ := h
      refine CW.region ?_
      refine RO.val (Wt.no rfl) rfl (PV.loadM (l := S.t_Bag.enc a1 (hf [b1_0])) 1 Try.TF40 rfl rfl (cut_self (S.t_Bag.len _ _)) rfl (by decide)) ?_
      refine RO.eff (Wt.no rfl) rfl (EV.call (K := _) Try.call73 rfl (SpecK.callV (W_bag_May a1 b1_0 hx62 (fun w hm hΦ => (hR w (hm.frameAt (i := 0) rfl) (hΦ.1)).1)))) ?_
      rintro _ _ _ ⟨_, rfl, rfl, rfl⟩
      refine RO.val (Wt.no rfl) rfl (PV.not rfl) ?_
      refine RO.val (Wt.no rfl) rfl ((PV.move rfl).to (congrArg Value.bool hb63)) ?_
      refine RO.val (Wt.yes rfl rfl rfl rfl) rfl (PV.loadM (l := S.t_Bag.enc a2 (hf [b2_0])) 2 Try.TF40 rfl rfl (cut_self (S.t_Bag.len _ _)) rfl (by decide)) ?_
      refine RO.eff (Wt.yes rfl rfl rfl rfl) rfl (EV.call (K := _) Try.call73 rfl (SpecK.callV (W_bag_May a2 b2_0 hx65 (fun w hm hΦ => (hR w (hm.frameAt (i := 0) rfl) (hΦ.1)).2)))) ?_
      rintro _ _ _ ⟨_, rfl, rfl, rfl⟩
      refine RO.val (Wt.yes rfl rfl rfl rfl) rfl (PV.not rfl) ?_
      refine RO.val (Wt.no rfl) rfl (PV.pickF rfl rfl) ?_
      refine RO.nil ?_
      obtain rfl := Option.some.inj h
      refine QC.meetP (!v64) hk59 [0, 1, 2, 3] (by decide) (by exact ⟨rfl, rfl, rfl, rfl, rfl, trivial⟩) rfl (fun w hΦ => hΦ)
  · rintro v5 h
    try dsimp only at h ⊢
    unfold S.bag_Join_j1 at h
    refine CW.cond rfl (fun hb6 => ?_) (fun hb6 => ?_)
    · replace h := iteT hb6 h
      subst hb6
      refine CW.reg ?_
      refine RO.val (Wt.no rfl) rfl (PV.buildS (B := S.t_Bag.enc S.Bag.z (hf [Hd.z])) (xs := []) [] Try.BT40 rfl rfl rfl (by simp) trivial rfl) ?_
      refine RO.eff (Wt.no rfl) rfl (EV.storeW (B := S.t_Bag.enc S.Bag.z (hf [Hd.z])) 3 Try.TF40 rfl rfl rfl (by exact S.t_Bag.len S.Bag.z (hf [Hd.z])) (by exact S.t_Bag.one S.Bag.z (hf [Hd.z])) (S.t_Bag.len S.Bag.z (hf [Hd.z])) rfl) ?_
      rintro _ _ _ ⟨rfl, rfl, rfl⟩
      refine RO.val (Wt.no rfl) rfl (PV.assign rfl) ?_
      refine RO.nil ?_
      refine CW.ret ?_
      refine QC.then_r ?_
      obtain rfl := Option.some.inj h
      exact retP2 (Ψ := fun w => Φ w ∧ (slR S.t_Val w [] Hd.z)) [0] (by decide) rfl (RV.cell (A := S.t_Bag.enc S.Bag.z (hf [Hd.z])) 3 rfl Try.TF40 rfl (S.t_Bag.len _ _) (by decide)) (RV.tmp rfl) rfl (fun w hΦ => ⟨hΦ.1, (slR.nil _ _)⟩) ⟨Hd.z, rfl, rfl, rfl⟩
    · replace h := iteF hb6 h
      subst hb6
      refine CW.skip ?_
      refine QC.then_n ?_
      replace h := bindS h
      obtain ⟨e52, h, hk51⟩ := h
      refine CW.meet (X := (List S.Val) × S.Bag × Hd × Nat) (fun x => [(2, .pointer (some ⟨g1, 0, none⟩)), (3, .pointer (some ⟨g2, 0, none⟩)), (4, .pointer (some ⟨g3, 0, none⟩)), (5, .int .i64 0), (6, .pointer (some ⟨x.2.2.2, 0, none⟩))]) (fun x => [frame D, .blk g1 (S.t_Bag.enc a1 (hf [b1_0])), .blk g2 (S.t_Bag.enc a2 (hf [b2_0])), .blk g3 (S.t_Bag.enc S.Bag.z (hf [Hd.z])), rowE S.t_Val 80 x.1 x.2.2.1, .blk x.2.2.2 (S.t_Bag.enc ({ x.2.1 with Values := x.1 } : S.Bag) (hf [x.2.2.1]))]) (fun x w => (Φ w ∧ True)) (fun x => S.bag_Join_j2 a2 a1 x.1 x.2.1 = some r) ?_ ?_
      · skip
        replace h := bindS h
        obtain ⟨v53, hx54, h⟩ := h
        replace h := bindS h
        obtain ⟨v55, hx56, h⟩ := h
        refine CW.regionD (pickM [0, 1, 2, 3] _) _ (by kernel_rfl) (St.of (by decide) rfl (fun _ h => h)) ?_
        refine RD.take 0 rfl (by kernel_rfl) (by kernel_rfl) (by kernel_rfl) (Wt.no rfl) rfl (PV.fieldAddr Try.fa40_0 rfl) ?_
        refine RD.take 1 rfl (by kernel_rfl) (by kernel_rfl) (by kernel_rfl) (Wt.no rfl) rfl (PV.loadM (l := S.t_A8_int.enc a1.Known (hf [])) 1 Try.TF37 rfl rfl (cut_Bag_Known _ _) rfl (by decide)) ?_
        refine RD.take 2 rfl (by kernel_rfl) (by kernel_rfl) (by kernel_rfl) (Wt.no rfl) rfl (PV.fieldAddr Try.fa40_0 rfl) ?_
        refine RD.take 3 rfl (by kernel_rfl) (by kernel_rfl) (by kernel_rfl) (Wt.no rfl) rfl (PV.loadM (l := S.t_A8_int.enc a2.Known (hf [])) 2 Try.TF37 rfl rfl (cut_Bag_Known _ _) rfl (by decide)) ?_
        refine RD.take 5 rfl (by kernel_rfl) (by kernel_rfl) (by kernel_rfl) (Wt.no rfl) rfl (PV.loadM (l := S.t_Bag.enc a1 (hf [b1_0])) 1 Try.TF40 rfl rfl (cut_self (S.t_Bag.len _ _)) rfl (by decide)) ?_
        refine RD.take 6 rfl (by kernel_rfl) (by kernel_rfl) (by kernel_rfl) (Wt.no rfl) rfl (PV.loadM (l := S.t_Bag.enc a2 (hf [b2_0])) 2 Try.TF40 rfl rfl (cut_self (S.t_Bag.len _ _)) rfl (by decide)) ?_
        refine RD.two 4 9 (by kernel_rfl) ?_ ?_
        · skip
          refine Up.eff rfl (Wt.no rfl) rfl (EV.call (K := _) Try.call93 rfl (SpecK.callV (W_clock_Join a1.Known a2.Known hx54))) ?_ ?_
          · rintro _ _ _ ⟨_, rfl, rfl, rfl⟩; exact St.of' (by decide) (L' := [0, 1, 2, 3]) rfl (fun _ h => h)
          rintro _ _ _ ⟨_, rfl, rfl, rfl⟩
          refine RD.two 7 9 (by kernel_rfl) ?_ ?_
          · skip
            refine Up.eff rfl (Wt.no rfl) rfl (EV.call (K := _) Try.call109 rfl (SpecK.call0 (W_bag_stays a1 a2 b1_0 b2_0 hx56 (fun w hm hΦ => ⟨(hR w (hm.frameAt (i := 0) rfl) (hΦ.1)).1, (hR w (hm.frameAt (i := 0) rfl) (hΦ.1)).2⟩)))) ?_ ?_
            · rintro _ _ _ ⟨q57, rfl, rfl, rfl⟩; exact St.of' (by decide) (L' := [0, 1, 2, 3]) rfl (fun _ h => h)
            rintro _ _ _ ⟨q57, rfl, rfl, rfl⟩
            refine RD.take 8 rfl (by kernel_rfl) (by kernel_rfl) (by kernel_rfl) (Wt.no rfl) rfl (PV.buildS (B := S.t_Bag.enc ({ Known := v53, Values := v55 } : S.Bag) (hf [q57])) (xs := [.tmp 24, .tmp 27]) [(0, 0, 8), (1, 8, 1)] Try.BT40 rfl rfl rfl (by decide) ⟨rfl, rfl, rfl, rfl, trivial⟩ rfl) ?_
            refine RD.one 9 (by kernel_rfl) ?_
            refine Up.eff rfl (Wt.no rfl) rfl (EV.allocB (B := S.t_Bag.enc S.Bag.z (hf [Hd.z])) Try.zeroValue40 rfl) ?_ ?_
            · rintro _ _ _ ⟨g58, rfl, rfl, rfl⟩; exact St.of' (by decide) (L' := [0, 1, 2, 3]) rfl (fun _ h => h)
            rintro _ _ _ ⟨g58, rfl, rfl, rfl⟩
            refine RD.one 10 (by kernel_rfl) ?_
            refine Up.eff rfl (Wt.no rfl) rfl (EV.storeW (B := S.t_Bag.enc ({ Known := v53, Values := v55 } : S.Bag) (hf [q57])) 5 Try.TF40 rfl rfl rfl (by exact S.t_Bag.len ({ Known := v53, Values := v55 } : S.Bag) (hf [q57])) (by exact S.t_Bag.one ({ Known := v53, Values := v55 } : S.Bag) (hf [q57])) (S.t_Bag.len S.Bag.z (hf [Hd.z])) rfl) ?_ ?_
            · rintro _ _ _ ⟨rfl, rfl, rfl⟩; exact St.of' (by decide) (L' := [0, 1, 2, 3]) rfl (fun _ h => h)
            rintro _ _ _ ⟨rfl, rfl, rfl⟩
            refine RD.done (by kernel_rfl) ?_
            obtain rfl := Option.some.inj h
            refine QC.meetP (v55, ({ Known := v53, Values := v55 } : S.Bag), q57, g58) hk51 [0, 1, 2, 3, 4, 5] (by decide) (by exact ⟨rfl, rfl, rfl, rfl, rfl, trivial⟩) rfl (fun w hΦ => hΦ)
          · skip
            refine Up.eff rfl (Wt.no rfl) rfl (EV.allocB (B := S.t_Bag.enc S.Bag.z (hf [Hd.z])) Try.zeroValue40 rfl) ?_ ?_
            · rintro _ _ _ ⟨g58, rfl, rfl, rfl⟩; exact St.of' (by decide) (L' := [0, 1, 2, 3]) rfl (fun _ h => h)
            rintro _ _ _ ⟨g58, rfl, rfl, rfl⟩
            refine RD.one 7 (by kernel_rfl) ?_
            refine Up.eff rfl (Wt.no rfl) rfl (EV.call (K := _) Try.call109 rfl (SpecK.call0 (W_bag_stays a1 a2 b1_0 b2_0 hx56 (fun w hm hΦ => ⟨(hR w (hm.frameAt (i := 0) rfl) (hΦ.1)).1, (hR w (hm.frameAt (i := 0) rfl) (hΦ.1)).2⟩)))) ?_ ?_
            · rintro _ _ _ ⟨q57, rfl, rfl, rfl⟩; exact St.of' (by decide) (L' := [0, 1, 2, 3]) rfl (fun _ h => h)
            rintro _ _ _ ⟨q57, rfl, rfl, rfl⟩
            refine RD.take 8 rfl (by kernel_rfl) (by kernel_rfl) (by kernel_rfl) (Wt.no rfl) rfl (PV.buildS (B := S.t_Bag.enc ({ Known := v53, Values := v55 } : S.Bag) (hf [q57])) (xs := [.tmp 24, .tmp 27]) [(0, 0, 8), (1, 8, 1)] Try.BT40 rfl rfl rfl (by decide) ⟨rfl, rfl, rfl, rfl, trivial⟩ rfl) ?_
            refine RD.one 10 (by kernel_rfl) ?_
            refine Up.eff rfl (Wt.no rfl) rfl (EV.storeW (B := S.t_Bag.enc ({ Known := v53, Values := v55 } : S.Bag) (hf [q57])) 4 Try.TF40 rfl rfl rfl (by exact S.t_Bag.len ({ Known := v53, Values := v55 } : S.Bag) (hf [q57])) (by exact S.t_Bag.one ({ Known := v53, Values := v55 } : S.Bag) (hf [q57])) (S.t_Bag.len S.Bag.z (hf [Hd.z])) rfl) ?_ ?_
            · rintro _ _ _ ⟨rfl, rfl, rfl⟩; exact St.of' (by decide) (L' := [0, 1, 2, 3]) rfl (fun _ h => h)
            rintro _ _ _ ⟨rfl, rfl, rfl⟩
            refine RD.done (by kernel_rfl) ?_
            obtain rfl := Option.some.inj h
            refine QC.meetP (v55, ({ Known := v53, Values := v55 } : S.Bag), q57, g58) hk51 [0, 1, 2, 3, 5, 4] (by decide) (by exact ⟨rfl, rfl, rfl, rfl, rfl, trivial⟩) rfl (fun w hΦ => hΦ)
        · skip
          refine Up.eff rfl (Wt.no rfl) rfl (EV.allocB (B := S.t_Bag.enc S.Bag.z (hf [Hd.z])) Try.zeroValue40 rfl) ?_ ?_
          · rintro _ _ _ ⟨g58, rfl, rfl, rfl⟩; exact St.of' (by decide) (L' := [0, 1, 2, 3]) rfl (fun _ h => h)
          rintro _ _ _ ⟨g58, rfl, rfl, rfl⟩
          refine RD.one 4 (by kernel_rfl) ?_
          refine Up.eff rfl (Wt.no rfl) rfl (EV.call (K := _) Try.call93 rfl (SpecK.callV (W_clock_Join a1.Known a2.Known hx54))) ?_ ?_
          · rintro _ _ _ ⟨_, rfl, rfl, rfl⟩; exact St.of' (by decide) (L' := [0, 1, 2, 3]) rfl (fun _ h => h)
          rintro _ _ _ ⟨_, rfl, rfl, rfl⟩
          refine RD.one 7 (by kernel_rfl) ?_
          refine Up.eff rfl (Wt.no rfl) rfl (EV.call (K := _) Try.call109 rfl (SpecK.call0 (W_bag_stays a1 a2 b1_0 b2_0 hx56 (fun w hm hΦ => ⟨(hR w (hm.frameAt (i := 0) rfl) (hΦ.1)).1, (hR w (hm.frameAt (i := 0) rfl) (hΦ.1)).2⟩)))) ?_ ?_
          · rintro _ _ _ ⟨q57, rfl, rfl, rfl⟩; exact St.of' (by decide) (L' := [0, 1, 2, 3]) rfl (fun _ h => h)
          rintro _ _ _ ⟨q57, rfl, rfl, rfl⟩
          refine RD.take 8 rfl (by kernel_rfl) (by kernel_rfl) (by kernel_rfl) (Wt.no rfl) rfl (PV.buildS (B := S.t_Bag.enc ({ Known := v53, Values := v55 } : S.Bag) (hf [q57])) (xs := [.tmp 24, .tmp 27]) [(0, 0, 8), (1, 8, 1)] Try.BT40 rfl rfl rfl (by decide) ⟨rfl, rfl, rfl, rfl, trivial⟩ rfl) ?_
          refine RD.one 10 (by kernel_rfl) ?_
          refine Up.eff rfl (Wt.no rfl) rfl (EV.storeW (B := S.t_Bag.enc ({ Known := v53, Values := v55 } : S.Bag) (hf [q57])) 4 Try.TF40 rfl rfl rfl (by exact S.t_Bag.len ({ Known := v53, Values := v55 } : S.Bag) (hf [q57])) (by exact S.t_Bag.one ({ Known := v53, Values := v55 } : S.Bag) (hf [q57])) (S.t_Bag.len S.Bag.z (hf [Hd.z])) rfl) ?_ ?_
          · rintro _ _ _ ⟨rfl, rfl, rfl⟩; exact St.of' (by decide) (L' := [0, 1, 2, 3]) rfl (fun _ h => h)
          rintro _ _ _ ⟨rfl, rfl, rfl⟩
          refine RD.done (by kernel_rfl) ?_
          obtain rfl := Option.some.inj h
          refine QC.meetP (v55, ({ Known := v53, Values := v55 } : S.Bag), q57, g58) hk51 [0, 1, 2, 3, 5, 4] (by decide) (by exact ⟨rfl, rfl, rfl, rfl, rfl, trivial⟩) rfl (fun w hΦ => hΦ)
      · rintro ⟨v8, v11, q9, g10⟩ h
        try dsimp only at h ⊢
        unfold S.bag_Join_j2 at h
        replace h := bindS h
        obtain ⟨e19, h, hk18⟩ := h
        refine CW.meet (X := (List S.Val) × S.Bag × Hd) (fun x => [(4, .pointer (some ⟨g3, 0, none⟩)), (5, .int .i64 0), (6, .pointer (some ⟨g10, 0, none⟩))]) (fun x => [frame D, .blk g1 (S.t_Bag.enc a1 (hf [b1_0])), .blk g2 (S.t_Bag.enc a2 (hf [b2_0])), .blk g3 (S.t_Bag.enc S.Bag.z (hf [Hd.z])), rowE S.t_Val 80 x.1 x.2.2, .blk g10 (S.t_Bag.enc ({ x.2.1 with Values := x.1 } : S.Bag) (hf [x.2.2]))]) (fun x w => (Φ w ∧ True)) (fun x => S.bag_Join_j4 x.1 x.2.1 = some r) ?_ ?_
        · skip
          replace h := bindS h
          obtain ⟨v20, hx21, h⟩ := h
          refine CW.reg ?_
          refine RO.val (Wt.no rfl) rfl (PV.loadM (l := S.t_Bag.enc a2 (hf [b2_0])) 2 Try.TF40 rfl rfl (cut_self (S.t_Bag.len _ _)) rfl (by decide)) ?_
          refine RO.val (Wt.no rfl) rfl (PV.loadM (l := S.t_Bag.enc a1 (hf [b1_0])) 1 Try.TF40 rfl rfl (cut_self (S.t_Bag.len _ _)) rfl (by decide)) ?_
          refine RO.eff (Wt.no rfl) rfl (EV.call (K := _) Try.call109 rfl (SpecK.call0 (W_bag_stays a2 a1 b2_0 b1_0 hx21 (fun w hm hΦ => ⟨(hR w (hm.frameAt (i := 0) rfl) (hΦ.1)).2, (hR w (hm.frameAt (i := 0) rfl) (hΦ.1)).1⟩)))) ?_
          rintro _ _ _ ⟨q22, rfl, rfl, rfl⟩
          refine RO.val (Wt.no rfl) rfl (PV.lenS Try.underlying38 rfl) ?_
          refine RO.val (Wt.no rfl) rfl (PV.move rfl) ?_
          refine RO.nil ?_
          refine CW.block ?_
          refine CW.loopE (X := Nat × (List S.Val) × S.Bag × Int × Hd) (fun x => [(4, .pointer (some ⟨g3, 0, none⟩)), (5, .int .i64 0), (6, .pointer (some ⟨g10, 0, none⟩)), (31, .slice q22.a v20.length q22.cap), (32, .int .i64 (v20.length : Int)), (33, .int .i64 x.2.2.2.1)]) (fun x => [frame D, .blk g1 (S.t_Bag.enc a1 (hf [b1_0])), .blk g2 (S.t_Bag.enc a2 (hf [b2_0])), .blk g3 (S.t_Bag.enc S.Bag.z (hf [Hd.z])), rowE S.t_Val 80 x.2.1 x.2.2.2.2, .blk g10 (S.t_Bag.enc ({ x.2.2.1 with Values := x.2.1 } : S.Bag) (hf [x.2.2.2.2])), rowE S.t_Val 80 v20 q22]) (fun x w => (Φ w ∧ True)) (fun x => loopN (S.bag_Join_l5 v20) x.1 (x.2.1, x.2.2.1, x.2.2.2.1) = some e19) (fun x => x.1) (FUEL, v8, ({ v11 with Values := v8 } : S.Bag), 0, q9) h (by exact ⟨rfl, rfl, rfl, rfl, rfl, rfl, trivial⟩) rfl (fun w hΦ => hΦ) ?_
          rintro ⟨n36', v30, v32, v33, q31⟩ hI34
          try dsimp only at hI34 ⊢
          obtain ⟨n36, y35, rfl, h, hk37⟩ := loopN_some hI34
          unfold S.bag_Join_l5 at h
          try dsimp only at h
          refine CW.reg ?_
          refine RO.val (Wt.no rfl) rfl (PV.lss rfl rfl) ?_
          refine RO.nil ?_
          refine CW.seq ?_
          refine CW.cond rfl (fun hb38 => ?_) (fun hb38 => ?_)
          · replace h := iteT hb38 h
            refine CW.skip ?_
            refine QC.then_n ?_
            refine CW.seq ?_
            refine CW.block ?_
            replace h := bindS h
            obtain ⟨v39, hx40, h⟩ := h
            refine CW.reg ?_
            refine RO.val (Wt.no rfl) rfl (PV.idxQ (t := S.t_Val) (l := v20) (q := q22) Try.underlying38 Try.sizeOf80 (fun w hm hΦ => (slR_row (hm.rowAt (i := 6) rfl) (fun _ _ _ => trivial))) rfl rfl hx40) ?_
            refine RO.val (Wt.no rfl) rfl (PV.loadQ (off := 0) (cs := S.t_Val.enc v39 (hf [])) (t := S.t_Val) (l := v20) (q := q22) Try.TF80 (fun w hm hΦ => (slR_row (hm.rowAt (i := 6) rfl) (fun _ _ _ => trivial))) hx40 rfl rfl rfl (cut_self (S.t_Val.len _ _)) rfl (by decide)) ?_
            refine RO.eff (Wt.no rfl) rfl (EV.allocB (B := S.t_Val.enc S.Val.z (hf [])) Try.zeroValue80 rfl) ?_
            rintro _ _ _ ⟨g41, rfl, rfl, rfl⟩
            refine RO.eff (Wt.no rfl) rfl (EV.storeW (B := S.t_Val.enc v39 (hf [])) 7 Try.TF80 rfl rfl rfl (by exact S.t_Val.len v39 (hf [])) (by exact S.t_Val.one v39 (hf [])) (S.t_Val.len S.Val.z (hf [])) rfl) ?_
            rintro _ _ _ ⟨rfl, rfl, rfl⟩
            refine RO.nil ?_
            replace h := bindS h
            obtain ⟨⟨v42, v43⟩, hx44, h⟩ := h
            dsimp only at h
            refine CW.reg ?_
            refine RO.val (Wt.no rfl) rfl (PV.fieldAddr Try.fa40_1 rfl) ?_
            refine RO.val (Wt.no rfl) rfl (PV.loadM (l := [.slice q31.a v30.length q31.cap]) 5 Try.TF38 rfl rfl (cut_Bag_Values _ _) rfl (by decide)) ?_
            refine RO.val (Wt.no rfl) rfl (PV.fieldAddr Try.fa80_0 rfl) ?_
            refine RO.val (Wt.no rfl) rfl (PV.loadM (l := S.t_Dot.enc v39.Dot (hf [])) 7 Try.TF45 rfl rfl (cut_Val_Dot _ _) rfl (by decide)) ?_
            refine RO.eff (Wt.no rfl) rfl (EV.call (K := _) Try.call94 rfl (SpecK.callV (W_bag_find v30 v39.Dot q31 hx44 (fun w hm hΦ => (slR_row (hm.rowAt (i := 4) rfl) (fun _ _ _ => trivial)))))) ?_
            rintro _ _ _ ⟨_, rfl, rfl, rfl⟩
            refine RO.val (Wt.no rfl) rfl (PV.move rfl) ?_
            refine RO.val (Wt.no rfl) rfl (PV.extract rfl rfl) ?_
            refine RO.val (Wt.no rfl) rfl (PV.extract rfl rfl) ?_
            refine RO.val (Wt.no rfl) rfl (PV.assign rfl) ?_
            refine RO.val (Wt.no rfl) rfl (PV.assign rfl) ?_
            refine RO.nil ?_
            refine CW.reg ?_
            refine RO.val (Wt.no rfl) rfl (PV.move rfl) ?_
            refine RO.val (Wt.no rfl) rfl (PV.not rfl) ?_
            refine RO.nil ?_
            refine CW.cond rfl (fun hb45 => ?_) (fun hb45 => ?_)
            · replace h := iteT hb45 h
              replace h := bindS h
              obtain ⟨v47, hx48, h⟩ := h
              refine CW.region ?_
              refine RO.val (Wt.no rfl) rfl (PV.fieldAddr Try.fa40_1 rfl) ?_
              refine RO.val (Wt.no rfl) rfl (PV.loadM (l := [.slice q31.a v30.length q31.cap]) 5 Try.TF38 rfl rfl (cut_Bag_Values _ _) rfl (by decide)) ?_
              refine RO.val (Wt.no rfl) rfl (PV.move rfl) ?_
              refine RO.val (Wt.no rfl) rfl (PV.loadM (l := S.t_Val.enc v39 (hf [])) 7 Try.TF80 rfl rfl (cut_self (S.t_Val.len _ _)) rfl (by decide)) ?_
              refine RO.eff (Wt.no rfl) rfl (EV.buildSlice (xs := [.tmp 50]) rfl Try.underlying38 Try.sizeOf80 Try.zeroValue80 rfl rfl rfl rfl) ?_
              rintro _ _ _ ⟨g46, rfl, rfl, rfl⟩
              refine RO.eff (Wt.no rfl) rfl (EV.insQ (t := S.t_Val) (l := v30) (q := q31) (y := v39) (hy := (hf [])) (ix := v42) 4 8 Try.call95 rfl rfl rfl (by decide) hx48 (fun k w1 hk hl h => Insert_Value w1 h (by exact S.t_Val.len _ _) (by exact S.t_Val.one _ _) (by exact encL_one _ _ _) hk hl)) ?_
              rintro _ _ _ ⟨a49, c50, rfl, rfl, rfl⟩
              refine RO.val (Wt.no rfl) rfl (PV.fieldAddr Try.fa40_1 rfl) ?_
              refine RO.eff (Wt.no rfl) rfl (EV.storeB (B := S.t_Bag.enc ({ v32 with Values := v47 } : S.Bag) (hf [(Hd.mk a49 c50 (insS v42.toNat q31.sub (hf [])))])) 5 Try.TF38 rfl rfl rfl rfl rfl (by rw [S.t_Bag.len]; decide) (wr_Bag_Values ({ v32 with Values := v30 } : S.Bag) q31 (Hd.mk a49 c50 (insS v42.toNat q31.sub (hf []))) v47)) ?_
              rintro _ _ _ ⟨rfl, rfl, rfl⟩
              refine RO.nil ?_
              refine QC.blk_n ?_
              refine QC.then_n ?_
              refine CW.region ?_
              refine RO.val (Wt.no rfl) rfl (PV.addW rfl rfl) ?_
              refine RO.val (Wt.no rfl) rfl (PV.move rfl) ?_
              refine RO.nil ?_
              obtain rfl := Option.some.inj h
              refine QC.roundP (n36, v47, ({ v32 with Values := v47 } : S.Bag), (w64 (v33 + 1)), (Hd.mk a49 c50 (insS v42.toNat q31.sub (hf [])))) (nextL_inl hk37) (by exact Nat.lt_succ_self _) [0, 1, 2, 3, 4, 5, 6] (by decide) (by exact ⟨rfl, rfl, rfl, rfl, rfl, rfl, trivial⟩) rfl (fun w hΦ => hΦ)
            · replace h := iteF hb45 h
              refine CW.skip ?_
              refine QC.blk_n ?_
              refine QC.then_n ?_
              refine CW.region ?_
              refine RO.val (Wt.no rfl) rfl (PV.addW rfl rfl) ?_
              refine RO.val (Wt.no rfl) rfl (PV.move rfl) ?_
              refine RO.nil ?_
              obtain rfl := Option.some.inj h
              refine QC.roundP (n36, v30, ({ v32 with Values := v30 } : S.Bag), (w64 (v33 + 1)), q31) (nextL_inl hk37) (by exact Nat.lt_succ_self _) [0, 1, 2, 3, 4, 5, 6] (by decide) (by exact ⟨rfl, rfl, rfl, rfl, rfl, rfl, trivial⟩) rfl (fun w hΦ => hΦ)
          · replace h := iteF hb38 h
            refine CW.exit ?_
            refine QC.then_x ?_
            refine QC.then_x ?_
            refine QC.blk_x ?_
            obtain rfl := Option.some.inj h
            obtain rfl := nextL_inr hk37
            refine QC.meetP (v30, ({ v32 with Values := v30 } : S.Bag), q31) hk18 [0, 1, 2, 3, 4, 5] (by decide) (by exact ⟨rfl, rfl, rfl, trivial⟩) rfl (fun w hΦ => hΦ)
        · rintro ⟨v13, v15, q14⟩ h
          try dsimp only at h ⊢
          unfold S.bag_Join_j4 at h
          refine CW.seq ?_
          refine CW.reg ?_
          refine RO.val (Wt.no rfl) rfl (PV.fieldAddr Try.fa40_1 rfl) ?_
          refine RO.val (Wt.no rfl) rfl (PV.loadM (l := [.slice q14.a v13.length q14.cap]) 5 Try.TF38 rfl rfl (cut_Bag_Values _ _) rfl (by decide)) ?_
          refine RO.val (Wt.no rfl) rfl (PV.lenS Try.underlying38 rfl) ?_
          refine RO.val (Wt.no rfl) rfl (PV.gtr rfl rfl) ?_
          refine RO.nil ?_
          refine CW.cond rfl (fun hb16 => ?_) (fun hb16 => ?_)
          · replace h := iteT hb16 h
            refine CW.reg ?_
            refine RO.val (Wt.no rfl) rfl (PV.buildS (B := S.t_Bag.enc S.Bag.z (hf [Hd.z])) (xs := []) [] Try.BT40 rfl rfl rfl (by simp) trivial rfl) ?_
            refine RO.eff (Wt.no rfl) rfl (EV.storeW (B := S.t_Bag.enc S.Bag.z (hf [Hd.z])) 3 Try.TF40 rfl rfl rfl (by exact S.t_Bag.len S.Bag.z (hf [Hd.z])) (by exact S.t_Bag.one S.Bag.z (hf [Hd.z])) (S.t_Bag.len S.Bag.z (hf [Hd.z])) rfl) ?_
            rintro _ _ _ ⟨rfl, rfl, rfl⟩
            refine RO.val (Wt.no rfl) rfl (PV.assign rfl) ?_
            refine RO.nil ?_
            refine CW.ret ?_
            refine QC.then_r ?_
            obtain rfl := Option.some.inj h
            exact retP2 (Ψ := fun w => Φ w ∧ (slR S.t_Val w [] Hd.z)) [0] (by decide) rfl (RV.cell (A := S.t_Bag.enc S.Bag.z (hf [Hd.z])) 3 rfl Try.TF40 rfl (S.t_Bag.len _ _) (by decide)) (RV.tmp rfl) rfl (fun w hΦ => ⟨hΦ.1, (slR.nil _ _)⟩) ⟨Hd.z, rfl, rfl, rfl⟩
          · replace h := iteF hb16 h
            refine CW.skip ?_
            refine QC.then_n ?_
            refine CW.reg ?_
            refine RO.val (Wt.no rfl) rfl (PV.loadM (l := S.t_Bag.enc ({ v15 with Values := v13 } : S.Bag) (hf [q14])) 5 Try.TF40 rfl rfl (cut_self (S.t_Bag.len _ _)) rfl (by decide)) ?_
            refine RO.eff (Wt.no rfl) rfl (EV.storeW (B := S.t_Bag.enc ({ v15 with Values := v13 } : S.Bag) (hf [q14])) 3 Try.TF40 rfl rfl rfl (by exact S.t_Bag.len ({ v15 with Values := v13 } : S.Bag) (hf [q14])) (by exact S.t_Bag.one ({ v15 with Values := v13 } : S.Bag) (hf [q14])) (S.t_Bag.len S.Bag.z (hf [Hd.z])) rfl) ?_
            rintro _ _ _ ⟨rfl, rfl, rfl⟩
            refine RO.val (Wt.no rfl) rfl (PV.assign rfl) ?_
            refine RO.nil ?_
            refine CW.ret ?_
            refine QC.freeze (t := S.t_Val) 4 rfl (fun w hΦ => (fun _ _ _ => trivial)) ?_
            obtain rfl := Option.some.inj h
            exact retP2 (Ψ := fun w => Φ w ∧ (slR S.t_Val w v13 q14)) [0] (by decide) rfl (RV.cell (A := S.t_Bag.enc ({ v15 with Values := v13 } : S.Bag) (hf [q14])) 3 rfl Try.TF40 rfl (S.t_Bag.len _ _) (by decide)) (RV.tmp rfl) rfl (fun w hΦ => ⟨hΦ.1.1, (hΦ.2)⟩) ⟨q14, rfl, rfl, rfl⟩

theorem W_bag_Below {D : Mem} {Φ : World → Prop} (a1 : S.Bag) (a2 : S.Bag) (b1_0 : Hd) (b2_0 : Hd) {r : Bool} (h : S.bag_Below a1 a2 = some r) (hR : ∀ w, MemOk D w → Φ w → (slR S.t_Val w a1.Values b1_0 ∧ slR S.t_Val w a2.Values b2_0)) :
    SpecK Try.prog 82 [.agg (S.t_Bag.enc a1 (hf [b1_0])).toArray, .agg (S.t_Bag.enc a2 (hf [b2_0])).toArray] D [] Φ (fun x : Unit => .bool r) (fun x => []) (fun x => []) (fun _ => Φ) := by
  refine enterK Try.func82 rfl Try.ntmps82 rfl ?_
  unfold S.bag_Below at h
  refine CW.reg ?_
  refine RO.eff (Wt.no rfl) rfl (EV.boxB (B := S.t_Bag.enc a1 (hf [b1_0])) rfl rfl) ?_
  rintro _ _ _ ⟨g1, rfl, rfl, rfl⟩
  refine RO.eff (Wt.no rfl) rfl (EV.boxB (B := S.t_Bag.enc a2 (hf [b2_0])) rfl rfl) ?_
  rintro _ _ _ ⟨g2, rfl, rfl, rfl⟩
  refine RO.val (Wt.no rfl) rfl (PV.assign rfl) ?_
  refine RO.nil ?_
  replace h := bindS h
  obtain ⟨⟨v3, v4⟩, hx5, h⟩ := h
  dsimp only at h
  refine CW.reg ?_
  refine RO.val (Wt.no rfl) rfl (PV.loadM (l := S.t_Bag.enc a1 (hf [b1_0])) 1 Try.TF40 rfl rfl (cut_self (S.t_Bag.len _ _)) rfl (by decide)) ?_
  refine RO.val (Wt.no rfl) rfl (PV.loadM (l := S.t_Bag.enc a2 (hf [b2_0])) 2 Try.TF40 rfl rfl (cut_self (S.t_Bag.len _ _)) rfl (by decide)) ?_
  refine RO.eff (Wt.no rfl) rfl (EV.call (K := _) Try.call81 rfl (SpecK.callV (W_bag_Join a1 a2 b1_0 b2_0 hx5 (fun w hm hΦ => ⟨(hR w (hm.frameAt (i := 0) rfl) (hΦ.1)).1, (hR w (hm.frameAt (i := 0) rfl) (hΦ.1)).2⟩)))) ?_
  rintro _ _ _ ⟨q6, rfl, rfl, rfl⟩
  refine RO.val (Wt.no rfl) rfl (PV.move rfl) ?_
  refine RO.val (Wt.no rfl) rfl (PV.extract rfl rfl) ?_
  refine RO.val (Wt.no rfl) rfl (PV.extract rfl rfl) ?_
  refine RO.eff (Wt.no rfl) rfl (EV.allocB (B := S.t_Bag.enc S.Bag.z (hf [Hd.z])) Try.zeroValue40 rfl) ?_
  rintro _ _ _ ⟨g8, rfl, rfl, rfl⟩
  refine RO.eff (Wt.no rfl) rfl (EV.storeW (B := S.t_Bag.enc v3 (hf [q6])) 3 Try.TF40 rfl rfl rfl (by exact S.t_Bag.len v3 (hf [q6])) (by exact S.t_Bag.one v3 (hf [q6])) (S.t_Bag.len S.Bag.z (hf [Hd.z])) rfl) ?_
  rintro _ _ _ ⟨rfl, rfl, rfl⟩
  refine RO.val (Wt.no rfl) rfl (PV.assign rfl) ?_
  refine RO.nil ?_
  by_cases hb9 : (decide (v4 = 0)) = true
  · replace h := iteT hb9 h
    replace h := bindS h
    obtain ⟨v10, hx11, h⟩ := h
    refine CW.reg ?_
    refine RO.val (Wt.no rfl) rfl (PV.move rfl) ?_
    refine RO.val (Wt.no rfl) rfl (PV.eql rfl rfl) ?_
    refine RO.val (Wt.no rfl) rfl ((PV.move rfl).to (congrArg Value.bool hb9)) ?_
    refine RO.val (Wt.yes rfl rfl rfl rfl) rfl (PV.loadM (l := S.t_Bag.enc v3 (hf [q6])) 3 Try.TF40 rfl rfl (cut_self (S.t_Bag.len _ _)) rfl (by decide)) ?_
    refine RO.val (Wt.yes rfl rfl rfl rfl) rfl (PV.loadM (l := S.t_Bag.enc a2 (hf [b2_0])) 2 Try.TF40 rfl rfl (cut_self (S.t_Bag.len _ _)) rfl (by decide)) ?_
    refine RO.eff (Wt.yes rfl rfl rfl rfl) rfl (EV.call (K := _) Try.call19 rfl (SpecK.callV (W_bag_Same v3 a2 q6 b2_0 hx11 (fun w hm hΦ => ⟨(hΦ.2), (hR w (hm.frameAt (i := 0) rfl) (hΦ.1.1)).2⟩)))) ?_
    rintro _ _ _ ⟨_, rfl, rfl, rfl⟩
    refine RO.val (Wt.no rfl) rfl (PV.pickT rfl rfl) ?_
    refine RO.val (Wt.no rfl) rfl (PV.assign rfl) ?_
    refine RO.nil ?_
    refine CW.ret ?_
    obtain rfl := Option.some.inj h
    exact retP1 (Ψ := Φ) [0] (by decide) rfl (RV.tmp rfl) rfl (fun w hΦ => hΦ.1.1) ⟨(), rfl, rfl, rfl⟩
  · replace hb9 := Bool.eq_false_iff.2 hb9
    replace h := iteF hb9 h
    refine CW.reg ?_
    refine RO.val (Wt.no rfl) rfl (PV.move rfl) ?_
    refine RO.val (Wt.no rfl) rfl (PV.eql rfl rfl) ?_
    refine RO.val (Wt.no rfl) rfl ((PV.move rfl).to (congrArg Value.bool hb9)) ?_
    refine RO.skip (Un.mk rfl rfl rfl rfl) rfl ?_
    refine RO.skip (Un.mk rfl rfl rfl rfl) rfl ?_
    refine RO.skip (Un.mk rfl rfl rfl rfl) rfl ?_
    refine RO.val (Wt.no rfl) rfl (PV.pickF rfl rfl) ?_
    refine RO.val (Wt.no rfl) rfl (PV.assign rfl) ?_
    refine RO.nil ?_
    refine CW.ret ?_
    obtain rfl := Option.some.inj h
    exact retP1 (Ψ := Φ) [0] (by decide) rfl (RV.tmp rfl) rfl (fun w hΦ => hΦ.1.1) ⟨(), rfl, rfl, rfl⟩

theorem W_vault_Vault_Merge {D : Mem} {Φ : World → Prop} (a1 : S.vault_Vault) (a2 : ByteArray) (a3 : S.Bag) (ga1_0 ga1_1 ga1_2 : Nat) (b1_0 : Hd) (b1_1 : Hd) (b1_2 : (Nat → Hs)) (b3_0 : Hd) {r : Int × S.vault_Vault} (h : S.vault_Vault_Merge a1 a2 a3 = some r) (hR : ∀ w, Φ w → (rdS S.t_Deed w a1.l.l b1_0.sub ∧ slR (tInt .i64) w a1.ring.Plan.Targets b1_1 ∧ mpR S.t_Bag w a1.bags b1_2 ∧ slR S.t_Val w a3.Values b3_0)) :
    SpecK Try.prog 40 [.pointer (pq ga1_0).a, .string a2, .agg (S.t_Bag.enc a3 (hf [b3_0])).toArray] D [.blk ga1_0 (S.t_vault_Vault.enc a1 (hf [(pq ga1_1), b1_1, (pq ga1_2)])), .blk ga1_1 (S.t_ledger_Ledger.enc a1.l (hf [b1_0])), rowE S.t_Deed 106 a1.l.l b1_0, mpE Value.string S.t_Bag ga1_2 a1.bags b1_2] Φ (fun x : Hd × Hd × (Nat → Hs) => .int .i64 r.1) (fun x => [.blk ga1_0 (S.t_vault_Vault.enc r.2 (hf [(pq ga1_1), x.2.1, (pq ga1_2)])), .blk ga1_1 (S.t_ledger_Ledger.enc r.2.l (hf [x.1])), rowE S.t_Deed 106 r.2.l.l x.1, mpE Value.string S.t_Bag ga1_2 r.2.bags x.2.2]) (fun x => []) (fun x w => Φ w ∧ (rdS S.t_Deed w r.2.l.l x.1.sub ∧ slR (tInt .i64) w r.2.ring.Plan.Targets x.2.1 ∧ mpR S.t_Bag w r.2.bags x.2.2)) := by
  refine enterK Try.func40 rfl Try.ntmps40 rfl ?_
  unfold S.vault_Vault_Merge at h
  refine CW.reg ?_
  refine RO.eff (Wt.no rfl) rfl (EV.boxB (B := S.t_Bag.enc a3 (hf [b3_0])) rfl rfl) ?_
  rintro _ _ _ ⟨g1, rfl, rfl, rfl⟩
  refine RO.val (Wt.no rfl) rfl (PV.assign rfl) ?_
  refine RO.nil ?_
  refine CW.seq ?_
  refine CW.block ?_
  replace h := bindS h
  obtain ⟨e31, h, hk30⟩ := h
  refine CW.meet (X := Bool) (fun x => [(0, .pointer (some ⟨ga1_0, 0, none⟩)), (1, .string a2), (5, .pointer (some ⟨g1, 0, none⟩)), (6, .int .i64 0), (10, .bool x)]) (fun x => [frame D, .blk ga1_0 (S.t_vault_Vault.enc a1 (hf [(pq ga1_1), b1_1, (pq ga1_2)])), .blk ga1_1 (S.t_ledger_Ledger.enc a1.l (hf [b1_0])), rowE S.t_Deed 106 a1.l.l b1_0, mpE Value.string S.t_Bag ga1_2 a1.bags b1_2, .blk g1 (S.t_Bag.enc a3 (hf [b3_0]))]) (fun x w => (Φ w ∧ True)) (fun x => S.vault_Vault_Merge_j2 a1 a2 a3 x = some r) ?_ ?_
  · skip
    replace h := bindS h
    obtain ⟨v32, hx33, h⟩ := h
    by_cases hb34 : (!v32) = true
    · replace h := iteT hb34 h
      refine CW.region ?_
      refine RO.val (Wt.no rfl) rfl (PV.move rfl) ?_
      refine RO.val (Wt.no rfl) rfl ((PV.eqlPtr Try.underlying46 rfl rfl).to rfl) ?_
      refine RO.val (Wt.no rfl) rfl (PV.move rfl) ?_
      refine RO.val (Wt.yes rfl rfl rfl rfl) rfl (PV.move rfl) ?_
      refine RO.eff (Wt.yes rfl rfl rfl rfl) rfl (EV.call (K := _) Try.call8 rfl (SpecK.callV (W_spot_May a2 hx33))) ?_
      rintro _ _ _ ⟨_, rfl, rfl, rfl⟩
      refine RO.val (Wt.yes rfl rfl rfl rfl) rfl (PV.not rfl) ?_
      refine RO.val (Wt.no rfl) rfl (PV.pickF rfl rfl) ?_
      refine RO.val (Wt.no rfl) rfl ((PV.move rfl).to (congrArg Value.bool hb34)) ?_
      refine RO.skip (Un.mk rfl rfl rfl rfl) rfl ?_
      refine RO.skip (Un.mk rfl rfl rfl rfl) rfl ?_
      refine RO.skip (Un.mk rfl rfl rfl rfl) rfl ?_
      refine RO.val (Wt.no rfl) rfl (PV.pickT rfl rfl) ?_
      refine RO.val (Wt.no rfl) rfl (PV.assign rfl) ?_
      refine RO.nil ?_
      obtain rfl := Option.some.inj h
      refine QC.meetP true hk30 [0, 1, 2, 3, 4, 5] (by decide) (by exact ⟨rfl, rfl, rfl, rfl, rfl, trivial⟩) rfl (fun w hΦ => hΦ)
    · replace hb34 := Bool.eq_false_iff.2 hb34
      replace h := iteF hb34 h
      replace h := bindS h
      obtain ⟨v35, hx36, h⟩ := h
      refine CW.region ?_
      refine RO.val (Wt.no rfl) rfl (PV.move rfl) ?_
      refine RO.val (Wt.no rfl) rfl ((PV.eqlPtr Try.underlying46 rfl rfl).to rfl) ?_
      refine RO.val (Wt.no rfl) rfl (PV.move rfl) ?_
      refine RO.val (Wt.yes rfl rfl rfl rfl) rfl (PV.move rfl) ?_
      refine RO.eff (Wt.yes rfl rfl rfl rfl) rfl (EV.call (K := _) Try.call8 rfl (SpecK.callV (W_spot_May a2 hx33))) ?_
      rintro _ _ _ ⟨_, rfl, rfl, rfl⟩
      refine RO.val (Wt.yes rfl rfl rfl rfl) rfl (PV.not rfl) ?_
      refine RO.val (Wt.no rfl) rfl (PV.pickF rfl rfl) ?_
      refine RO.val (Wt.no rfl) rfl ((PV.move rfl).to (congrArg Value.bool hb34)) ?_
      refine RO.val (Wt.yes rfl rfl rfl rfl) rfl (PV.loadM (l := S.t_Bag.enc a3 (hf [b3_0])) 5 Try.TF40 rfl rfl (cut_self (S.t_Bag.len _ _)) rfl (by decide)) ?_
      refine RO.eff (Wt.yes rfl rfl rfl rfl) rfl (EV.call (K := _) Try.call73 rfl (SpecK.callV (W_bag_May a3 b3_0 hx36 (fun w hm hΦ => (hR w (hΦ.1)).2.2.2)))) ?_
      rintro _ _ _ ⟨_, rfl, rfl, rfl⟩
      refine RO.val (Wt.yes rfl rfl rfl rfl) rfl (PV.not rfl) ?_
      refine RO.val (Wt.no rfl) rfl (PV.pickF rfl rfl) ?_
      refine RO.val (Wt.no rfl) rfl (PV.assign rfl) ?_
      refine RO.nil ?_
      obtain rfl := Option.some.inj h
      refine QC.meetP (!v35) hk30 [0, 1, 2, 3, 4, 5] (by decide) (by exact ⟨rfl, rfl, rfl, rfl, rfl, trivial⟩) rfl (fun w hΦ => hΦ)
  · rintro v3 h
    try dsimp only at h ⊢
    unfold S.vault_Vault_Merge_j2 at h
    refine CW.cond rfl (fun hb4 => ?_) (fun hb4 => ?_)
    · replace h := iteT hb4 h
      subst hb4
      refine CW.reg ?_
      refine RO.val (Wt.no rfl) rfl (PV.assign rfl) ?_
      refine RO.nil ?_
      refine CW.ret ?_
      refine QC.blk_r ?_
      refine QC.then_r ?_
      obtain rfl := Option.some.inj h
      exact retP1 (Ψ := fun w => Φ w ∧ (rdS S.t_Deed w a1.l.l b1_0.sub ∧ slR (tInt .i64) w a1.ring.Plan.Targets b1_1 ∧ mpR S.t_Bag w a1.bags b1_2)) [0, 1, 2, 3, 4] (by decide) rfl (RV.tmp rfl) rfl (fun w hΦ => ⟨hΦ.1, (hR w (hΦ.1)).1, (hR w (hΦ.1)).2.1, (hR w (hΦ.1)).2.2.1⟩) ⟨(b1_0, b1_1, b1_2), rfl, rfl, rfl⟩
    · replace h := iteF hb4 h
      subst hb4
      replace h := bindS h
      obtain ⟨v5, hx6, h⟩ := h
      refine CW.reg ?_
      refine RO.val (Wt.no rfl) rfl (PV.move rfl) ?_
      refine RO.val (Wt.no rfl) rfl (PV.move rfl) ?_
      refine RO.eff (Wt.no rfl) rfl (EV.call (K := _) Try.call79 rfl (SpecK.call [1, 2, 3, 4] (fun x : Unit => [frame D, .blk ga1_0 (S.t_vault_Vault.enc a1 (hf [(pq ga1_1), b1_1, (pq ga1_2)])), .blk ga1_1 (S.t_ledger_Ledger.enc a1.l (hf [b1_0])), rowE S.t_Deed 106 a1.l.l b1_0, mpE Value.string S.t_Bag ga1_2 a1.bags b1_2, .blk g1 (S.t_Bag.enc a3 (hf [b3_0]))]) (Outs.cons rfl (Outs.cons rfl (Outs.cons rfl (Outs.cons rfl Outs.nil)))) (fun _ => (Outs.cons rfl (Outs.cons rfl (Outs.cons rfl (Outs.cons rfl Outs.nil))))) (W_vault_Vault_full a1 a2 ga1_0 ga1_1 ga1_2 b1_0 b1_1 b1_2 hx6 (fun w hm hΦ => ⟨(hR w (hΦ.1)).1, (hR w (hΦ.1)).2.1, (hR w (hΦ.1)).2.2.1⟩)))) ?_
      rintro _ _ _ ⟨_, rfl, rfl, rfl⟩
      refine RO.val (Wt.no rfl) rfl (PV.assign rfl) ?_
      refine RO.nil ?_
      refine CW.cond rfl (fun hb7 => ?_) (fun hb7 => ?_)
      · replace h := iteT hb7 h
        subst hb7
        refine CW.reg ?_
        refine RO.val (Wt.no rfl) rfl (PV.assign rfl) ?_
        refine RO.nil ?_
        refine CW.ret ?_
        refine QC.blk_r ?_
        refine QC.then_r ?_
        obtain rfl := Option.some.inj h
        exact retP1 (Ψ := fun w => Φ w ∧ (rdS S.t_Deed w a1.l.l b1_0.sub ∧ slR (tInt .i64) w a1.ring.Plan.Targets b1_1 ∧ mpR S.t_Bag w a1.bags b1_2)) [0, 1, 2, 3, 4] (by decide) rfl (RV.tmp rfl) rfl (fun w hΦ => ⟨hΦ.1, (hR w (hΦ.1)).1, (hR w (hΦ.1)).2.1, (hR w (hΦ.1)).2.2.1⟩) ⟨(b1_0, b1_1, b1_2), rfl, rfl, rfl⟩
      · replace h := iteF hb7 h
        subst hb7
        refine CW.skip ?_
        refine QC.blk_n ?_
        refine QC.then_n ?_
        refine CW.reg ?_
        refine RO.val (Wt.no rfl) rfl (PV.move rfl) ?_
        refine RO.val (Wt.no rfl) rfl (PV.nilCheck rfl) ?_
        refine RO.val (Wt.no rfl) rfl (PV.fieldAddr Try.fa101_5 rfl) ?_
        refine RO.val (Wt.no rfl) rfl (PV.loadM (l := [.map (mb (pq ga1_2))]) 1 Try.TF99 rfl rfl (cut_vault_Vault_bags _ _) rfl (by decide)) ?_
        refine RO.val (Wt.no rfl) rfl (PV.move rfl) ?_
        refine RO.val (Wt.no rfl) rfl (PV.lookupQ (kv := Value.string) (tv := S.t_Bag) (l := a1.bags) (hh := b1_2) (k := a2) 4 (strKey Try.underlying9) str_dom str_inj Try.underlying99 Try.zeroValue40 rfl rfl rfl) ?_
        refine RO.eff (Wt.no rfl) rfl (EV.allocB (B := S.t_Bag.enc S.Bag.z (hf [Hd.z])) Try.zeroValue40 rfl) ?_
        rintro _ _ _ ⟨g8, rfl, rfl, rfl⟩
        refine RO.eff (Wt.no rfl) rfl (EV.storeW (B := S.t_Bag.enc ((mget a1.bags a2).getD S.Bag.z) (hf [(mgetH a1.bags b1_2 a2 0)])) 6 Try.TF40 rfl rfl rfl (by exact S.t_Bag.len ((mget a1.bags a2).getD S.Bag.z) (hf [(mgetH a1.bags b1_2 a2 0)])) (by exact S.t_Bag.one ((mget a1.bags a2).getD S.Bag.z) (hf [(mgetH a1.bags b1_2 a2 0)])) (S.t_Bag.len S.Bag.z (hf [Hd.z])) rfl) ?_
        rintro _ _ _ ⟨rfl, rfl, rfl⟩
        refine RO.nil ?_
        replace h := bindS h
        obtain ⟨⟨v9, v10⟩, hx11, h⟩ := h
        dsimp only at h
        refine CW.reg ?_
        refine RO.val (Wt.no rfl) rfl (PV.loadM (l := S.t_Bag.enc ((mget a1.bags a2).getD S.Bag.z) (hf [(mgetH a1.bags b1_2 a2 0)])) 6 Try.TF40 rfl rfl (cut_self (S.t_Bag.len _ _)) rfl (by decide)) ?_
        refine RO.val (Wt.no rfl) rfl (PV.loadM (l := S.t_Bag.enc a3 (hf [b3_0])) 5 Try.TF40 rfl rfl (cut_self (S.t_Bag.len _ _)) rfl (by decide)) ?_
        refine RO.eff (Wt.no rfl) rfl (EV.call (K := _) Try.call81 rfl (SpecK.callV (W_bag_Join ((mget a1.bags a2).getD S.Bag.z) a3 (mgetH a1.bags b1_2 a2 0) b3_0 hx11 (fun w hm hΦ => ⟨((mpR.get (tv := S.t_Bag) (hR w (hΦ.1)).2.2.1 a2)), (hR w (hΦ.1)).2.2.2⟩)))) ?_
        rintro _ _ _ ⟨q12, rfl, rfl, rfl⟩
        refine RO.val (Wt.no rfl) rfl (PV.move rfl) ?_
        refine RO.val (Wt.no rfl) rfl (PV.extract rfl rfl) ?_
        refine RO.val (Wt.no rfl) rfl (PV.extract rfl rfl) ?_
        refine RO.eff (Wt.no rfl) rfl (EV.allocB (B := S.t_Bag.enc S.Bag.z (hf [Hd.z])) Try.zeroValue40 rfl) ?_
        rintro _ _ _ ⟨g14, rfl, rfl, rfl⟩
        refine RO.eff (Wt.no rfl) rfl (EV.storeW (B := S.t_Bag.enc v9 (hf [q12])) 7 Try.TF40 rfl rfl rfl (by exact S.t_Bag.len v9 (hf [q12])) (by exact S.t_Bag.one v9 (hf [q12])) (S.t_Bag.len S.Bag.z (hf [Hd.z])) rfl) ?_
        rintro _ _ _ ⟨rfl, rfl, rfl⟩
        refine RO.val (Wt.no rfl) rfl (PV.assign rfl) ?_
        refine RO.nil ?_
        refine CW.seq ?_
        replace h := bindS h
        obtain ⟨e26, h, hk25⟩ := h
        refine CW.meet (X := Bool) (fun x => [(0, .pointer (some ⟨ga1_0, 0, none⟩)), (1, .string a2), (6, .int .i64 0), (8, .pointer (some ⟨g14, 0, none⟩)), (9, .int .i64 v10), (45, .bool x)]) (fun x => [frame D, .blk ga1_0 (S.t_vault_Vault.enc a1 (hf [(pq ga1_1), b1_1, (pq ga1_2)])), .blk ga1_1 (S.t_ledger_Ledger.enc a1.l (hf [b1_0])), rowE S.t_Deed 106 a1.l.l b1_0, mpE Value.string S.t_Bag ga1_2 a1.bags b1_2, .blk g1 (S.t_Bag.enc a3 (hf [b3_0])), .blk g8 (S.t_Bag.enc ((mget a1.bags a2).getD S.Bag.z) (hf [(mgetH a1.bags b1_2 a2 0)])), .blk g14 (S.t_Bag.enc v9 (hf [q12]))]) (fun x w => ((Φ w ∧ True) ∧ (slR S.t_Val w v9.Values q12))) (fun x => S.vault_Vault_Merge_j3 v10 a1 a2 v9 x = some r) ?_ ?_
        · skip
          by_cases hb27 : (decide (v10 ≠ 0)) = true
          · replace h := iteT hb27 h
            refine CW.region ?_
            refine RO.val (Wt.no rfl) rfl (PV.move rfl) ?_
            refine RO.val (Wt.no rfl) rfl (PV.neq rfl rfl) ?_
            refine RO.val (Wt.no rfl) rfl ((PV.move rfl).to (congrArg Value.bool hb27)) ?_
            refine RO.skip (Un.mk rfl rfl rfl rfl) rfl ?_
            refine RO.skip (Un.mk rfl rfl rfl rfl) rfl ?_
            refine RO.skip (Un.mk rfl rfl rfl rfl) rfl ?_
            refine RO.val (Wt.no rfl) rfl (PV.pickT rfl rfl) ?_
            refine RO.nil ?_
            obtain rfl := Option.some.inj h
            refine QC.meetP true hk25 [0, 1, 2, 3, 4, 5, 6, 7] (by decide) (by exact ⟨rfl, rfl, rfl, rfl, rfl, rfl, trivial⟩) rfl (fun w hΦ => hΦ)
          · replace hb27 := Bool.eq_false_iff.2 hb27
            replace h := iteF hb27 h
            replace h := bindS h
            obtain ⟨v28, hx29, h⟩ := h
            refine CW.region ?_
            refine RO.val (Wt.no rfl) rfl (PV.move rfl) ?_
            refine RO.val (Wt.no rfl) rfl (PV.neq rfl rfl) ?_
            refine RO.val (Wt.no rfl) rfl ((PV.move rfl).to (congrArg Value.bool hb27)) ?_
            refine RO.val (Wt.yes rfl rfl rfl rfl) rfl (PV.loadM (l := S.t_Bag.enc a3 (hf [b3_0])) 5 Try.TF40 rfl rfl (cut_self (S.t_Bag.len _ _)) rfl (by decide)) ?_
            refine RO.val (Wt.yes rfl rfl rfl rfl) rfl (PV.loadM (l := S.t_Bag.enc ((mget a1.bags a2).getD S.Bag.z) (hf [(mgetH a1.bags b1_2 a2 0)])) 6 Try.TF40 rfl rfl (cut_self (S.t_Bag.len _ _)) rfl (by decide)) ?_
            refine RO.eff (Wt.yes rfl rfl rfl rfl) rfl (EV.call (K := _) Try.call82 rfl (SpecK.callV (W_bag_Below a3 ((mget a1.bags a2).getD S.Bag.z) b3_0 (mgetH a1.bags b1_2 a2 0) hx29 (fun w hm hΦ => ⟨(hR w (hΦ.1.1)).2.2.2, ((mpR.get (tv := S.t_Bag) (hR w (hΦ.1.1)).2.2.1 a2))⟩)))) ?_
            rintro _ _ _ ⟨_, rfl, rfl, rfl⟩
            refine RO.val (Wt.no rfl) rfl (PV.pickF rfl rfl) ?_
            refine RO.nil ?_
            obtain rfl := Option.some.inj h
            refine QC.meetP v28 hk25 [0, 1, 2, 3, 4, 5, 6, 7] (by decide) (by exact ⟨rfl, rfl, rfl, rfl, rfl, rfl, trivial⟩) rfl (fun w hΦ => hΦ)
        · rintro v16 h
          try dsimp only at h ⊢
          unfold S.vault_Vault_Merge_j3 at h
          refine CW.cond rfl (fun hb17 => ?_) (fun hb17 => ?_)
          · replace h := iteT hb17 h
            subst hb17
            refine CW.reg ?_
            refine RO.val (Wt.no rfl) rfl (PV.move rfl) ?_
            refine RO.val (Wt.no rfl) rfl (PV.assign rfl) ?_
            refine RO.nil ?_
            refine CW.ret ?_
            refine QC.then_r ?_
            obtain rfl := Option.some.inj h
            exact retP1 (Ψ := fun w => Φ w ∧ (rdS S.t_Deed w a1.l.l b1_0.sub ∧ slR (tInt .i64) w a1.ring.Plan.Targets b1_1 ∧ mpR S.t_Bag w a1.bags b1_2)) [0, 1, 2, 3, 4] (by decide) rfl (RV.tmp rfl) rfl (fun w hΦ => ⟨hΦ.1.1, (hR w (hΦ.1.1)).1, (hR w (hΦ.1.1)).2.1, (hR w (hΦ.1.1)).2.2.1⟩) ⟨(b1_0, b1_1, b1_2), rfl, rfl, rfl⟩
          · replace h := iteF hb17 h
            subst hb17
            refine CW.skip ?_
            refine QC.then_n ?_
            replace h := bindS h
            obtain ⟨⟨v18, v19⟩, hx20, h⟩ := h
            dsimp only at h
            refine CW.regD (pickM [0, 5, 6, 7] _) _ (by kernel_rfl) (St.of (by decide) rfl (fun _ h => h)) ?_
            refine RD.take 0 rfl (by kernel_rfl) (by kernel_rfl) (by kernel_rfl) (Wt.no rfl) rfl (PV.move rfl) ?_
            refine RD.take 1 rfl (by kernel_rfl) (by kernel_rfl) (by kernel_rfl) (Wt.no rfl) rfl (PV.move rfl) ?_
            refine RD.take 2 rfl (by kernel_rfl) (by kernel_rfl) (by kernel_rfl) (Wt.no rfl) rfl (PV.loadM (l := S.t_Bag.enc v9 (hf [q12])) 3 Try.TF40 rfl rfl (cut_self (S.t_Bag.len _ _)) rfl (by decide)) ?_
            refine RD.take 3 rfl (by kernel_rfl) (by kernel_rfl) (by kernel_rfl) (Wt.no rfl) rfl (PV.move rfl) ?_
            refine RD.take 4 rfl (by kernel_rfl) (by kernel_rfl) (by kernel_rfl) (Wt.no rfl) rfl (PV.nilCheck rfl) ?_
            refine RD.take 5 rfl (by kernel_rfl) (by kernel_rfl) (by kernel_rfl) (Wt.no rfl) rfl (PV.fieldAddr Try.fa101_4 rfl) ?_
            refine RD.one 6 (by kernel_rfl) ?_
            refine Up.val rfl (Wt.no rfl) rfl (PV.loadM (l := [.int .i64 a1.dots]) 1 Try.TF3 rfl rfl (cut_vault_Vault_dots _ _) rfl (by decide)) ?_
            refine RD.take 7 rfl (by kernel_rfl) (by kernel_rfl) (by kernel_rfl) (Wt.no rfl) rfl (PV.buildS (B := S.t_Deed.enc ({ S.Deed.z with Kind := 3, N := a1.dots, Key := a2, Bag := v9 } : S.Deed) (hf [q12, Hd.z])) (xs := [.const (.int .i64 3), .tmp 48, .tmp 49, .tmp 53]) [(0, 0, 1), (2, 2, 1), (3, 3, 9), (1, 1, 1)] Try.BT106 rfl rfl rfl (by decide) ⟨rfl, rfl, rfl, rfl, rfl, rfl, rfl, rfl, trivial⟩ rfl) ?_
            refine RD.one 8 (by kernel_rfl) ?_
            refine Up.eff rfl (Wt.no rfl) rfl (EV.call (K := _) Try.call54 rfl (SpecK.call [1, 2, 3, 4] (fun x : Hd × Hd × (Nat → Hs) => [frame D, .blk ga1_0 (S.t_vault_Vault.enc v19 (hf [(pq ga1_1), x.2.1, (pq ga1_2)])), .blk ga1_1 (S.t_ledger_Ledger.enc v19.l (hf [x.1])), rowE S.t_Deed 106 v19.l.l x.1, mpE Value.string S.t_Bag ga1_2 v19.bags x.2.2, .blk g1 (S.t_Bag.enc a3 (hf [b3_0])), .blk g8 (S.t_Bag.enc ((mget a1.bags a2).getD S.Bag.z) (hf [(mgetH a1.bags b1_2 a2 0)])), .blk g14 (S.t_Bag.enc v9 (hf [q12]))]) (Outs.cons rfl (Outs.cons rfl (Outs.cons rfl (Outs.cons rfl Outs.nil)))) (fun _ => (Outs.cons rfl (Outs.cons rfl (Outs.cons rfl (Outs.cons rfl Outs.nil))))) (W_vault_Vault_write a1 ({ S.Deed.z with Kind := 3, N := a1.dots, Key := a2, Bag := v9 } : S.Deed) ga1_0 ga1_1 ga1_2 b1_0 b1_1 b1_2 q12 Hd.z hx20 (fun w hΦ => ⟨(hR w (hΦ.1.1)).1, (hR w (hΦ.1.1)).2.1, (hR w (hΦ.1.1)).2.2.1, (hΦ.2), (slR.nil _ _)⟩)))) ?_ ?_
            · rintro _ _ _ ⟨⟨q21, q22, q23⟩, rfl, rfl, rfl⟩; exact St.of' (by decide) (L' := [0, 5, 6, 7]) rfl (fun _ h => h.1)
            rintro _ _ _ ⟨⟨q21, q22, q23⟩, rfl, rfl, rfl⟩
            refine RD.take 9 rfl (by kernel_rfl) (by kernel_rfl) (by kernel_rfl) (Wt.no rfl) rfl (PV.assign rfl) ?_
            refine RD.done (by kernel_rfl) ?_
            refine CW.ret ?_
            obtain rfl := Option.some.inj h
            exact retP1 (Ψ := fun w => Φ w ∧ (rdS S.t_Deed w v19.l.l q21.sub ∧ slR (tInt .i64) w v19.ring.Plan.Targets q22 ∧ mpR S.t_Bag w v19.bags q23)) [0, 1, 2, 3, 4] (by decide) rfl (RV.tmp rfl) rfl (fun w hΦ => ⟨hΦ.1.1.1, (hΦ.2.1), (hΦ.2.2.1), (hΦ.2.2.2)⟩) ⟨(q21, q22, q23), rfl, rfl, rfl⟩

theorem W_ledger_Ledger_Len {D : Mem} {Φ : World → Prop} (a1 : S.ledger_Ledger) (ga1_0 : Nat) (b1_0 : Hd) {r : Int} (h : S.ledger_Ledger_Len a1 = some r) (hR : ∀ w, MemOk D w → Φ w → (rdS S.t_Deed w a1.l b1_0.sub)) :
    SpecK Try.prog 78 [.pointer (pq ga1_0).a] D [.blk ga1_0 (S.t_ledger_Ledger.enc a1 (hf [b1_0])), rowE S.t_Deed 106 a1.l b1_0] Φ (fun x : Unit => .int .i64 r) (fun x => [.blk ga1_0 (S.t_ledger_Ledger.enc a1 (hf [b1_0])), rowE S.t_Deed 106 a1.l b1_0]) (fun x => []) (fun _ => Φ) := by
  refine enterK Try.func78 rfl Try.ntmps78 rfl ?_
  unfold S.ledger_Ledger_Len at h
  refine CW.reg ?_
  refine RO.val (Wt.no rfl) rfl (PV.assign rfl) ?_
  refine RO.nil ?_
  refine CW.seq ?_
  refine CW.reg ?_
  refine RO.val (Wt.no rfl) rfl (PV.move rfl) ?_
  refine RO.val (Wt.no rfl) rfl ((PV.eqlPtr Try.underlying48 rfl rfl).to rfl) ?_
  refine RO.nil ?_
  refine CW.condF rfl ?_
  refine CW.skip ?_
  refine QC.then_n ?_
  refine CW.reg ?_
  refine RO.val (Wt.no rfl) rfl (PV.move rfl) ?_
  refine RO.val (Wt.no rfl) rfl (PV.nilCheck rfl) ?_
  refine RO.val (Wt.no rfl) rfl (PV.fieldAddr Try.fa108_0 rfl) ?_
  refine RO.val (Wt.no rfl) rfl (PV.loadM (l := [.slice b1_0.a a1.l.length b1_0.cap]) 1 Try.TF103 rfl rfl (cut_ledger_Ledger_l _ _) rfl (by decide)) ?_
  refine RO.val (Wt.no rfl) rfl (PV.lenS Try.underlying103 rfl) ?_
  refine RO.val (Wt.no rfl) rfl (PV.assign rfl) ?_
  refine RO.nil ?_
  refine CW.ret ?_
  obtain rfl := Option.some.inj h
  exact retP1 (Ψ := Φ) [0, 1, 2] (by decide) rfl (RV.tmp rfl) rfl (fun w hΦ => hΦ.1) ⟨(), rfl, rfl, rfl⟩

theorem W_vault_Vault_Bag {D : Mem} {Φ : World → Prop} (a1 : S.vault_Vault) (a2 : ByteArray) (ga1_0 ga1_1 ga1_2 : Nat) (b1_0 : Hd) (b1_1 : Hd) (b1_2 : (Nat → Hs)) {r : S.Bag} (h : S.vault_Vault_Bag a1 a2 = some r) (hR : ∀ w, MemOk D w → Φ w → (rdS S.t_Deed w a1.l.l b1_0.sub ∧ slR (tInt .i64) w a1.ring.Plan.Targets b1_1 ∧ mpR S.t_Bag w a1.bags b1_2)) :
    SpecK Try.prog 20 [.pointer (pq ga1_0).a, .string a2] D [.blk ga1_0 (S.t_vault_Vault.enc a1 (hf [(pq ga1_1), b1_1, (pq ga1_2)])), .blk ga1_1 (S.t_ledger_Ledger.enc a1.l (hf [b1_0])), rowE S.t_Deed 106 a1.l.l b1_0, mpE Value.string S.t_Bag ga1_2 a1.bags b1_2] Φ (fun x : Hd => .agg (S.t_Bag.enc r (hf [x])).toArray) (fun x => [.blk ga1_0 (S.t_vault_Vault.enc a1 (hf [(pq ga1_1), b1_1, (pq ga1_2)])), .blk ga1_1 (S.t_ledger_Ledger.enc a1.l (hf [b1_0])), rowE S.t_Deed 106 a1.l.l b1_0, mpE Value.string S.t_Bag ga1_2 a1.bags b1_2]) (fun x => []) (fun x w => Φ w ∧ (slR S.t_Val w r.Values x)) := by
  refine enterK Try.func20 rfl Try.ntmps20 rfl ?_
  unfold S.vault_Vault_Bag at h
  refine CW.reg ?_
  refine RO.eff (Wt.no rfl) rfl (EV.allocB (B := S.t_Bag.enc S.Bag.z (hf [Hd.z])) Try.zeroValue40 rfl) ?_
  rintro _ _ _ ⟨g1, rfl, rfl, rfl⟩
  refine RO.nil ?_
  refine CW.seq ?_
  refine CW.reg ?_
  refine RO.val (Wt.no rfl) rfl (PV.move rfl) ?_
  refine RO.val (Wt.no rfl) rfl ((PV.eqlPtr Try.underlying46 rfl rfl).to rfl) ?_
  refine RO.nil ?_
  refine CW.condF rfl ?_
  refine CW.skip ?_
  refine QC.then_n ?_
  replace h := bindS h
  obtain ⟨v2, hx3, h⟩ := h
  refine CW.reg ?_
  refine RO.val (Wt.no rfl) rfl (PV.move rfl) ?_
  refine RO.val (Wt.no rfl) rfl (PV.nilCheck rfl) ?_
  refine RO.val (Wt.no rfl) rfl (PV.fieldAddr Try.fa101_5 rfl) ?_
  refine RO.val (Wt.no rfl) rfl (PV.loadM (l := [.map (mb (pq ga1_2))]) 1 Try.TF99 rfl rfl (cut_vault_Vault_bags _ _) rfl (by decide)) ?_
  refine RO.val (Wt.no rfl) rfl (PV.move rfl) ?_
  refine RO.val (Wt.no rfl) rfl (PV.lookupQ (kv := Value.string) (tv := S.t_Bag) (l := a1.bags) (hh := b1_2) (k := a2) 4 (strKey Try.underlying9) str_dom str_inj Try.underlying99 Try.zeroValue40 rfl rfl rfl) ?_
  refine RO.eff (Wt.no rfl) rfl (EV.call (K := _) Try.call61 rfl (SpecK.callV (W_vault_copied ((mget a1.bags a2).getD S.Bag.z) (mgetH a1.bags b1_2 a2 0) hx3 (fun w hm hΦ => ((mpR.get (tv := S.t_Bag) (hR w (hm.frameAt (i := 0) rfl) (hΦ.1)).2.2 a2)))))) ?_
  rintro _ _ _ ⟨q4, rfl, rfl, rfl⟩
  refine RO.eff (Wt.no rfl) rfl (EV.storeW (B := S.t_Bag.enc v2 (hf [q4])) 5 Try.TF40 rfl rfl rfl (by exact S.t_Bag.len v2 (hf [q4])) (by exact S.t_Bag.one v2 (hf [q4])) (S.t_Bag.len S.Bag.z (hf [Hd.z])) rfl) ?_
  rintro _ _ _ ⟨rfl, rfl, rfl⟩
  refine RO.nil ?_
  refine CW.ret ?_
  obtain rfl := Option.some.inj h
  exact retP1 (Ψ := fun w => Φ w ∧ (slR S.t_Val w v2.Values q4)) [0, 1, 2, 3, 4] (by decide) rfl (RV.cell (A := S.t_Bag.enc v2 (hf [q4])) 5 rfl Try.TF40 rfl (S.t_Bag.len _ _) (by decide)) rfl (fun w hΦ => ⟨hΦ.1.1, (hΦ.2)⟩) ⟨q4, rfl, rfl, rfl⟩

theorem W_clock_With {D : Mem} {Φ : World → Prop} (a1 : Vector Int 8) (a2 : S.Dot) {r : (Vector Int 8)} (h : S.clock_With a1 a2 = some r) :
    SpecK Try.prog 92 [.agg (S.t_A8_int.enc a1 (hf [])).toArray, .agg (S.t_Dot.enc a2 (hf [])).toArray] D [] Φ (fun x : Unit => .agg (S.t_A8_int.enc r (hf [])).toArray) (fun x => []) (fun x => []) (fun _ => Φ) := by
  refine enterK Try.func92 rfl Try.ntmps92 rfl ?_
  unfold S.clock_With at h
  refine CW.reg ?_
  refine RO.eff (Wt.no rfl) rfl (EV.boxB (B := S.t_A8_int.enc a1 (hf [])) rfl rfl) ?_
  rintro _ _ _ ⟨g1, rfl, rfl, rfl⟩
  refine RO.eff (Wt.no rfl) rfl (EV.boxB (B := S.t_Dot.enc a2 (hf [])) rfl rfl) ?_
  rintro _ _ _ ⟨g2, rfl, rfl, rfl⟩
  refine RO.eff (Wt.no rfl) rfl (EV.allocB (B := S.t_A8_int.enc (Vector.replicate 8 (0 : Int)) (hf [])) Try.zeroValue37 rfl) ?_
  rintro _ _ _ ⟨g3, rfl, rfl, rfl⟩
  refine RO.nil ?_
  refine CW.seq ?_
  replace h := bindS h
  obtain ⟨v4, hx5, h⟩ := h
  refine CW.reg ?_
  refine RO.val (Wt.no rfl) rfl (PV.fieldAddr Try.fa45_0 rfl) ?_
  refine RO.val (Wt.no rfl) rfl (PV.loadM (l := [.int .i64 a2.Node]) 2 Try.TF3 rfl rfl (cut_Dot_Node _ _) rfl (by decide)) ?_
  refine RO.eff (Wt.no rfl) rfl (EV.call (K := _) Try.call77 rfl (SpecK.callV (W_clock_node a2.Node hx5))) ?_
  rintro _ _ _ ⟨_, rfl, rfl, rfl⟩
  refine RO.nil ?_
  refine CW.cond rfl (fun hb6 => ?_) (fun hb6 => ?_)
  · replace h := iteT hb6 h
    subst hb6
    replace h := bindS h
    obtain ⟨v7, hx8, h⟩ := h
    obtain ⟨hn9, hn10, he11⟩ := aget_some hx8
    replace h := bindS h
    obtain ⟨v12, hx13, h⟩ := h
    obtain ⟨hn14, hn15, he16⟩ := aset_some hx13
    refine CW.regionD (pickM [0, 2, 3] _) _ (by kernel_rfl) (St.of (by decide) rfl (fun _ h => h)) ?_
    refine RD.take 0 rfl (by kernel_rfl) (by kernel_rfl) (by kernel_rfl) (Wt.no rfl) rfl (PV.fieldAddr Try.fa45_0 rfl) ?_
    refine RD.take 1 rfl (by kernel_rfl) (by kernel_rfl) (by kernel_rfl) (Wt.no rfl) rfl (PV.loadM (l := [.int .i64 a2.Node]) 1 Try.TF3 rfl rfl (cut_Dot_Node _ _) rfl (by decide)) ?_
    refine RD.take 2 rfl (by kernel_rfl) (by kernel_rfl) (by kernel_rfl) (Wt.no rfl) rfl (PV.fieldAddr Try.fa45_0 rfl) ?_
    refine RD.take 3 rfl (by kernel_rfl) (by kernel_rfl) (by kernel_rfl) (Wt.no rfl) rfl (PV.loadM (l := [.int .i64 a2.Node]) 1 Try.TF3 rfl rfl (cut_Dot_Node _ _) rfl (by decide)) ?_
    refine RD.take 4 rfl (by kernel_rfl) (by kernel_rfl) (by kernel_rfl) (Wt.no rfl) rfl (PV.idxA Try.underlying37 Try.sizeOf3 rfl rfl hn10 (by omega)) ?_
    refine RD.take 6 rfl (by kernel_rfl) (by kernel_rfl) (by kernel_rfl) (Wt.no rfl) rfl (PV.fieldAddr Try.fa45_1 rfl) ?_
    refine RD.take 7 rfl (by kernel_rfl) (by kernel_rfl) (by kernel_rfl) (Wt.no rfl) rfl (PV.loadM (l := [.int .i64 a2.N]) 1 Try.TF3 rfl rfl (cut_Dot_N _ _) rfl (by decide)) ?_
    refine RD.one 5 (by kernel_rfl) ?_
    refine Up.val rfl (Wt.no rfl) rfl (PV.loadM (l := [.int .i64 v7]) 1 Try.TF3 rfl rfl (by rw [cut_A8_int_i _ _ _ hn9, he11]) rfl (by decide)) ?_
    refine RD.take 8 rfl (by kernel_rfl) (by kernel_rfl) (by kernel_rfl) (Wt.no rfl) rfl (PV.max rfl rfl) ?_
    refine RD.take 9 rfl (by kernel_rfl) (by kernel_rfl) (by kernel_rfl) (Wt.no rfl) rfl (PV.idxA Try.underlying37 Try.sizeOf3 rfl rfl hn15 (by omega)) ?_
    refine RD.one 10 (by kernel_rfl) ?_
    refine Up.eff rfl (Wt.no rfl) rfl (EV.storeB (B := S.t_A8_int.enc v12 (hf [])) 1 Try.TF3 rfl rfl rfl rfl rfl (by rw [S.t_A8_int.len]; show _ ≤ 8; omega) ((wr_A8_int_i a1 (max v7 a2.N) _ hn14).trans (by rw [he16]))) ?_ ?_
    · rintro _ _ _ ⟨rfl, rfl, rfl⟩; exact St.of' (by decide) (L' := [0, 2, 3]) rfl (fun _ h => h)
    rintro _ _ _ ⟨rfl, rfl, rfl⟩
    refine RD.done (by kernel_rfl) ?_
    refine QC.then_n ?_
    refine CW.reg ?_
    refine RO.val (Wt.no rfl) rfl (PV.loadM (l := S.t_A8_int.enc v12 (hf [])) 1 Try.TF37 rfl rfl (cut_self (S.t_A8_int.len _ _)) rfl (by decide)) ?_
    refine RO.eff (Wt.no rfl) rfl (EV.storeW (B := S.t_A8_int.enc v12 (hf [])) 3 Try.TF37 rfl rfl rfl (by exact S.t_A8_int.len v12 (hf [])) (by exact S.t_A8_int.one v12 (hf [])) (S.t_A8_int.len (Vector.replicate 8 (0 : Int)) (hf [])) rfl) ?_
    rintro _ _ _ ⟨rfl, rfl, rfl⟩
    refine RO.nil ?_
    refine CW.ret ?_
    obtain rfl := Option.some.inj h
    exact retP1 (Ψ := Φ) [0] (by decide) rfl (RV.cell (A := S.t_A8_int.enc v12 (hf [])) 3 rfl Try.TF37 rfl (S.t_A8_int.len _ _) (by decide)) rfl (fun w hΦ => hΦ.1) ⟨(), rfl, rfl, rfl⟩
  · replace h := iteF hb6 h
    subst hb6
    refine CW.skip ?_
    refine QC.then_n ?_
    refine CW.reg ?_
    refine RO.val (Wt.no rfl) rfl (PV.loadM (l := S.t_A8_int.enc a1 (hf [])) 1 Try.TF37 rfl rfl (cut_self (S.t_A8_int.len _ _)) rfl (by decide)) ?_
    refine RO.eff (Wt.no rfl) rfl (EV.storeW (B := S.t_A8_int.enc a1 (hf [])) 3 Try.TF37 rfl rfl rfl (by exact S.t_A8_int.len a1 (hf [])) (by exact S.t_A8_int.one a1 (hf [])) (S.t_A8_int.len (Vector.replicate 8 (0 : Int)) (hf [])) rfl) ?_
    rintro _ _ _ ⟨rfl, rfl, rfl⟩
    refine RO.nil ?_
    refine CW.ret ?_
    obtain rfl := Option.some.inj h
    exact retP1 (Ψ := Φ) [0] (by decide) rfl (RV.cell (A := S.t_A8_int.enc a1 (hf [])) 3 rfl Try.TF37 rfl (S.t_A8_int.len _ _) (by decide)) rfl (fun w hΦ => hΦ.1) ⟨(), rfl, rfl, rfl⟩

theorem W_bag_Put {D : Mem} {Φ : World → Prop} (a1 : S.Bag) (a2 : Vector Int 8) (a3 : S.Dot) (a4 : ByteArray) (b1_0 : Hd) {r : S.Bag × Int} (h : S.bag_Put a1 a2 a3 a4 = some r) (hR : ∀ w, MemOk D w → Φ w → (slR S.t_Val w a1.Values b1_0)) :
    SpecK Try.prog 62 [.agg (S.t_Bag.enc a1 (hf [b1_0])).toArray, .agg (S.t_A8_int.enc a2 (hf [])).toArray, .agg (S.t_Dot.enc a3 (hf [])).toArray, .string a4] D [] Φ (fun x : Hd => .tuple #[.agg (S.t_Bag.enc r.1 (hf [x])).toArray, .int .i64 r.2]) (fun x => []) (fun x => []) (fun x w => Φ w ∧ (slR S.t_Val w r.1.Values x)) := by
  refine enterK Try.func62 rfl Try.ntmps62 rfl ?_
  unfold S.bag_Put at h
  refine CW.reg ?_
  refine RO.eff (Wt.no rfl) rfl (EV.boxB (B := S.t_Bag.enc a1 (hf [b1_0])) rfl rfl) ?_
  rintro _ _ _ ⟨g1, rfl, rfl, rfl⟩
  refine RO.eff (Wt.no rfl) rfl (EV.boxB (B := S.t_A8_int.enc a2 (hf [])) rfl rfl) ?_
  rintro _ _ _ ⟨g2, rfl, rfl, rfl⟩
  refine RO.eff (Wt.no rfl) rfl (EV.boxB (B := S.t_Dot.enc a3 (hf [])) rfl rfl) ?_
  rintro _ _ _ ⟨g3, rfl, rfl, rfl⟩
  refine RO.eff (Wt.no rfl) rfl (EV.allocB (B := S.t_Bag.enc S.Bag.z (hf [Hd.z])) Try.zeroValue40 rfl) ?_
  rintro _ _ _ ⟨g4, rfl, rfl, rfl⟩
  refine RO.val (Wt.no rfl) rfl (PV.assign rfl) ?_
  refine RO.nil ?_
  replace h := bindS h
  obtain ⟨e76, h, hk75⟩ := h
  refine CW.meet (X := Bool) (fun x => [(3, .string a4), (4, .pointer (some ⟨g1, 0, none⟩)), (5, .pointer (some ⟨g2, 0, none⟩)), (6, .pointer (some ⟨g3, 0, none⟩)), (8, .pointer (some ⟨g4, 0, none⟩)), (9, .int .i64 0), (10, .bool x)]) (fun x => [frame D, .blk g1 (S.t_Bag.enc a1 (hf [b1_0])), .blk g2 (S.t_A8_int.enc a2 (hf [])), .blk g3 (S.t_Dot.enc a3 (hf [])), .blk g4 (S.t_Bag.enc S.Bag.z (hf [Hd.z]))]) (fun x w => (Φ w ∧ True)) (fun x => S.bag_Put_j1 a1 a2 a3 a4 x = some r) ?_ ?_
  · skip
    by_cases hb77 : (decide (0 ≤ a3.Node)) = true
    · replace h := iteT hb77 h
      by_cases hb78 : (decide (a3.Node < 8)) = true
      · replace h := iteT hb78 h
        by_cases hb79 : (decide (1 ≤ a3.N)) = true
        · replace h := iteT hb79 h
          refine CW.region ?_
          refine RO.val (Wt.no rfl) rfl (PV.fieldAddr Try.fa45_0 rfl) ?_
          refine RO.val (Wt.no rfl) rfl (PV.loadM (l := [.int .i64 a3.Node]) 3 Try.TF3 rfl rfl (cut_Dot_Node _ _) rfl (by decide)) ?_
          refine RO.val (Wt.no rfl) rfl (PV.geq rfl rfl) ?_
          refine RO.val (Wt.no rfl) rfl ((PV.move rfl).to (congrArg Value.bool hb77)) ?_
          refine RO.val (Wt.yes rfl rfl rfl rfl) rfl (PV.fieldAddr Try.fa45_0 rfl) ?_
          refine RO.val (Wt.yes rfl rfl rfl rfl) rfl (PV.loadM (l := [.int .i64 a3.Node]) 3 Try.TF3 rfl rfl (cut_Dot_Node _ _) rfl (by decide)) ?_
          refine RO.val (Wt.yes rfl rfl rfl rfl) rfl (PV.lss rfl rfl) ?_
          refine RO.val (Wt.no rfl) rfl (PV.pickT rfl rfl) ?_
          refine RO.val (Wt.no rfl) rfl ((PV.move rfl).to (congrArg Value.bool hb78)) ?_
          refine RO.val (Wt.yes rfl rfl rfl rfl) rfl (PV.fieldAddr Try.fa45_1 rfl) ?_
          refine RO.val (Wt.yes rfl rfl rfl rfl) rfl (PV.loadM (l := [.int .i64 a3.N]) 3 Try.TF3 rfl rfl (cut_Dot_N _ _) rfl (by decide)) ?_
          refine RO.val (Wt.yes rfl rfl rfl rfl) rfl (PV.geq rfl rfl) ?_
          refine RO.val (Wt.no rfl) rfl (PV.pickT rfl rfl) ?_
          refine RO.val (Wt.no rfl) rfl ((PV.move rfl).to (congrArg Value.bool hb79)) ?_
          refine RO.val (Wt.yes rfl rfl rfl rfl) rfl (PV.fieldAddr Try.fa45_1 rfl) ?_
          refine RO.val (Wt.yes rfl rfl rfl rfl) rfl (PV.loadM (l := [.int .i64 a3.N]) 3 Try.TF3 rfl rfl (cut_Dot_N _ _) rfl (by decide)) ?_
          refine RO.val (Wt.yes rfl rfl rfl rfl) rfl (PV.leq rfl rfl) ?_
          refine RO.val (Wt.no rfl) rfl (PV.pickT rfl rfl) ?_
          refine RO.val (Wt.no rfl) rfl (PV.assign rfl) ?_
          refine RO.nil ?_
          obtain rfl := Option.some.inj h
          refine QC.meetP (decide (a3.N ≤ 1000000)) hk75 [0, 1, 2, 3, 4] (by decide) (by exact ⟨rfl, rfl, rfl, rfl, rfl, rfl, rfl, trivial⟩) rfl (fun w hΦ => hΦ)
        · replace hb79 := Bool.eq_false_iff.2 hb79
          replace h := iteF hb79 h
          refine CW.region ?_
          refine RO.val (Wt.no rfl) rfl (PV.fieldAddr Try.fa45_0 rfl) ?_
          refine RO.val (Wt.no rfl) rfl (PV.loadM (l := [.int .i64 a3.Node]) 3 Try.TF3 rfl rfl (cut_Dot_Node _ _) rfl (by decide)) ?_
          refine RO.val (Wt.no rfl) rfl (PV.geq rfl rfl) ?_
          refine RO.val (Wt.no rfl) rfl ((PV.move rfl).to (congrArg Value.bool hb77)) ?_
          refine RO.val (Wt.yes rfl rfl rfl rfl) rfl (PV.fieldAddr Try.fa45_0 rfl) ?_
          refine RO.val (Wt.yes rfl rfl rfl rfl) rfl (PV.loadM (l := [.int .i64 a3.Node]) 3 Try.TF3 rfl rfl (cut_Dot_Node _ _) rfl (by decide)) ?_
          refine RO.val (Wt.yes rfl rfl rfl rfl) rfl (PV.lss rfl rfl) ?_
          refine RO.val (Wt.no rfl) rfl (PV.pickT rfl rfl) ?_
          refine RO.val (Wt.no rfl) rfl ((PV.move rfl).to (congrArg Value.bool hb78)) ?_
          refine RO.val (Wt.yes rfl rfl rfl rfl) rfl (PV.fieldAddr Try.fa45_1 rfl) ?_
          refine RO.val (Wt.yes rfl rfl rfl rfl) rfl (PV.loadM (l := [.int .i64 a3.N]) 3 Try.TF3 rfl rfl (cut_Dot_N _ _) rfl (by decide)) ?_
          refine RO.val (Wt.yes rfl rfl rfl rfl) rfl (PV.geq rfl rfl) ?_
          refine RO.val (Wt.no rfl) rfl (PV.pickT rfl rfl) ?_
          refine RO.val (Wt.no rfl) rfl ((PV.move rfl).to (congrArg Value.bool hb79)) ?_
          refine RO.skip (Un.mk rfl rfl rfl rfl) rfl ?_
          refine RO.skip (Un.mk rfl rfl rfl rfl) rfl ?_
          refine RO.skip (Un.mk rfl rfl rfl rfl) rfl ?_
          refine RO.val (Wt.no rfl) rfl (PV.pickF rfl rfl) ?_
          refine RO.val (Wt.no rfl) rfl (PV.assign rfl) ?_
          refine RO.nil ?_
          obtain rfl := Option.some.inj h
          refine QC.meetP false hk75 [0, 1, 2, 3, 4] (by decide) (by exact ⟨rfl, rfl, rfl, rfl, rfl, rfl, rfl, trivial⟩) rfl (fun w hΦ => hΦ)
      · replace hb78 := Bool.eq_false_iff.2 hb78
        replace h := iteF hb78 h
        refine CW.region ?_
        refine RO.val (Wt.no rfl) rfl (PV.fieldAddr Try.fa45_0 rfl) ?_
        refine RO.val (Wt.no rfl) rfl (PV.loadM (l := [.int .i64 a3.Node]) 3 Try.TF3 rfl rfl (cut_Dot_Node _ _) rfl (by decide)) ?_
        refine RO.val (Wt.no rfl) rfl (PV.geq rfl rfl) ?_
        refine RO.val (Wt.no rfl) rfl ((PV.move rfl).to (congrArg Value.bool hb77)) ?_
        refine RO.val (Wt.yes rfl rfl rfl rfl) rfl (PV.fieldAddr Try.fa45_0 rfl) ?_
        refine RO.val (Wt.yes rfl rfl rfl rfl) rfl (PV.loadM (l := [.int .i64 a3.Node]) 3 Try.TF3 rfl rfl (cut_Dot_Node _ _) rfl (by decide)) ?_
        refine RO.val (Wt.yes rfl rfl rfl rfl) rfl (PV.lss rfl rfl) ?_
        refine RO.val (Wt.no rfl) rfl (PV.pickT rfl rfl) ?_
        refine RO.val (Wt.no rfl) rfl ((PV.move rfl).to (congrArg Value.bool hb78)) ?_
        refine RO.skip (Un.mk rfl rfl rfl rfl) rfl ?_
        refine RO.skip (Un.mk rfl rfl rfl rfl) rfl ?_
        refine RO.skip (Un.mk rfl rfl rfl rfl) rfl ?_
        refine RO.val (Wt.no rfl) rfl (PV.pickF rfl rfl) ?_
        refine RO.val (Wt.no rfl) rfl (PV.move rfl) ?_
        refine RO.skip (Un.mk rfl rfl rfl rfl) rfl ?_
        refine RO.skip (Un.mk rfl rfl rfl rfl) rfl ?_
        refine RO.skip (Un.mk rfl rfl rfl rfl) rfl ?_
        refine RO.val (Wt.no rfl) rfl (PV.pickF rfl rfl) ?_
        refine RO.val (Wt.no rfl) rfl (PV.assign rfl) ?_
        refine RO.nil ?_
        obtain rfl := Option.some.inj h
        refine QC.meetP false hk75 [0, 1, 2, 3, 4] (by decide) (by exact ⟨rfl, rfl, rfl, rfl, rfl, rfl, rfl, trivial⟩) rfl (fun w hΦ => hΦ)
    · replace hb77 := Bool.eq_false_iff.2 hb77
      replace h := iteF hb77 h
      refine CW.region ?_
      refine RO.val (Wt.no rfl) rfl (PV.fieldAddr Try.fa45_0 rfl) ?_
      refine RO.val (Wt.no rfl) rfl (PV.loadM (l := [.int .i64 a3.Node]) 3 Try.TF3 rfl rfl (cut_Dot_Node _ _) rfl (by decide)) ?_
      refine RO.val (Wt.no rfl) rfl (PV.geq rfl rfl) ?_
      refine RO.val (Wt.no rfl) rfl ((PV.move rfl).to (congrArg Value.bool hb77)) ?_
      refine RO.skip (Un.mk rfl rfl rfl rfl) rfl ?_
      refine RO.skip (Un.mk rfl rfl rfl rfl) rfl ?_
      refine RO.skip (Un.mk rfl rfl rfl rfl) rfl ?_
      refine RO.val (Wt.no rfl) rfl (PV.pickF rfl rfl) ?_
      refine RO.val (Wt.no rfl) rfl (PV.move rfl) ?_
      refine RO.skip (Un.mk rfl rfl rfl rfl) rfl ?_
      refine RO.skip (Un.mk rfl rfl rfl rfl) rfl ?_
      refine RO.skip (Un.mk rfl rfl rfl rfl) rfl ?_
      refine RO.val (Wt.no rfl) rfl (PV.pickF rfl rfl) ?_
      refine RO.val (Wt.no rfl) rfl (PV.move rfl) ?_
      refine RO.skip (Un.mk rfl rfl rfl rfl) rfl ?_
      refine RO.skip (Un.mk rfl rfl rfl rfl) rfl ?_
      refine RO.skip (Un.mk rfl rfl rfl rfl) rfl ?_
      refine RO.val (Wt.no rfl) rfl (PV.pickF rfl rfl) ?_
      refine RO.val (Wt.no rfl) rfl (PV.assign rfl) ?_
      refine RO.nil ?_
      obtain rfl := Option.some.inj h
      refine QC.meetP false hk75 [0, 1, 2, 3, 4] (by decide) (by exact ⟨rfl, rfl, rfl, rfl, rfl, rfl, rfl, trivial⟩) rfl (fun w hΦ => hΦ)
  · rintro v6 h
    try dsimp only at h ⊢
    unfold S.bag_Put_j1 at h
    refine CW.seq ?_
    replace h := bindS h
    obtain ⟨e64, h, hk63⟩ := h
    refine CW.meet (X := Bool) (fun x => [(3, .string a4), (4, .pointer (some ⟨g1, 0, none⟩)), (5, .pointer (some ⟨g2, 0, none⟩)), (6, .pointer (some ⟨g3, 0, none⟩)), (8, .pointer (some ⟨g4, 0, none⟩)), (9, .int .i64 0), (56, .bool x)]) (fun x => [frame D, .blk g1 (S.t_Bag.enc a1 (hf [b1_0])), .blk g2 (S.t_A8_int.enc a2 (hf [])), .blk g3 (S.t_Dot.enc a3 (hf [])), .blk g4 (S.t_Bag.enc S.Bag.z (hf [Hd.z]))]) (fun x w => (Φ w ∧ True)) (fun x => S.bag_Put_j2 a1 a2 a3 a4 x = some r) ?_ ?_
    · skip
      replace h := bindS h
      obtain ⟨v65, hx66, h⟩ := h
      by_cases hb67 : (!v65) = true
      · replace h := iteT hb67 h
        refine CW.region ?_
        refine RO.val (Wt.no rfl) rfl (PV.loadM (l := S.t_Bag.enc a1 (hf [b1_0])) 1 Try.TF40 rfl rfl (cut_self (S.t_Bag.len _ _)) rfl (by decide)) ?_
        refine RO.eff (Wt.no rfl) rfl (EV.call (K := _) Try.call73 rfl (SpecK.callV (W_bag_May a1 b1_0 hx66 (fun w hm hΦ => (hR w (hm.frameAt (i := 0) rfl) (hΦ.1)))))) ?_
        rintro _ _ _ ⟨_, rfl, rfl, rfl⟩
        refine RO.val (Wt.no rfl) rfl (PV.not rfl) ?_
        refine RO.val (Wt.no rfl) rfl ((PV.move rfl).to (congrArg Value.bool hb67)) ?_
        refine RO.skip (Un.mk rfl rfl rfl rfl) rfl ?_
        refine RO.skip (Un.mk rfl rfl rfl rfl) rfl ?_
        refine RO.skip (Un.mk rfl rfl rfl rfl) rfl ?_
        refine RO.val (Wt.no rfl) rfl (PV.pickT rfl rfl) ?_
        refine RO.val (Wt.no rfl) rfl (PV.move rfl) ?_
        refine RO.skip (Un.mk rfl rfl rfl rfl) rfl ?_
        refine RO.skip (Un.mk rfl rfl rfl rfl) rfl ?_
        refine RO.val (Wt.no rfl) rfl (PV.pickT rfl rfl) ?_
        refine RO.val (Wt.no rfl) rfl (PV.move rfl) ?_
        refine RO.skip (Un.mk rfl rfl rfl rfl) rfl ?_
        refine RO.skip (Un.mk rfl rfl rfl rfl) rfl ?_
        refine RO.skip (Un.mk rfl rfl rfl rfl) rfl ?_
        refine RO.skip (Un.mk rfl rfl rfl rfl) rfl ?_
        refine RO.val (Wt.no rfl) rfl (PV.pickT rfl rfl) ?_
        refine RO.val (Wt.no rfl) rfl (PV.move rfl) ?_
        refine RO.skip (Un.mk rfl rfl rfl rfl) rfl ?_
        refine RO.skip (Un.mk rfl rfl rfl rfl) rfl ?_
        refine RO.skip (Un.mk rfl rfl rfl rfl) rfl ?_
        refine RO.val (Wt.no rfl) rfl (PV.pickT rfl rfl) ?_
        refine RO.nil ?_
        obtain rfl := Option.some.inj h
        refine QC.meetP true hk63 [0, 1, 2, 3, 4] (by decide) (by exact ⟨rfl, rfl, rfl, rfl, rfl, rfl, rfl, trivial⟩) rfl (fun w hΦ => hΦ)
      · replace hb67 := Bool.eq_false_iff.2 hb67
        replace h := iteF hb67 h
        replace h := bindS h
        obtain ⟨v68, hx69, h⟩ := h
        by_cases hb70 : (!v68) = true
        · replace h := iteT hb70 h
          refine CW.region ?_
          refine RO.val (Wt.no rfl) rfl (PV.loadM (l := S.t_Bag.enc a1 (hf [b1_0])) 1 Try.TF40 rfl rfl (cut_self (S.t_Bag.len _ _)) rfl (by decide)) ?_
          refine RO.eff (Wt.no rfl) rfl (EV.call (K := _) Try.call73 rfl (SpecK.callV (W_bag_May a1 b1_0 hx66 (fun w hm hΦ => (hR w (hm.frameAt (i := 0) rfl) (hΦ.1)))))) ?_
          rintro _ _ _ ⟨_, rfl, rfl, rfl⟩
          refine RO.val (Wt.no rfl) rfl (PV.not rfl) ?_
          refine RO.val (Wt.no rfl) rfl ((PV.move rfl).to (congrArg Value.bool hb67)) ?_
          refine RO.val (Wt.yes rfl rfl rfl rfl) rfl (PV.loadM (l := S.t_A8_int.enc a2 (hf [])) 2 Try.TF37 rfl rfl (cut_self (S.t_A8_int.len _ _)) rfl (by decide)) ?_
          refine RO.eff (Wt.yes rfl rfl rfl rfl) rfl (EV.call (K := _) Try.call63 rfl (SpecK.callV (W_clock_May a2 hx69))) ?_
          rintro _ _ _ ⟨_, rfl, rfl, rfl⟩
          refine RO.val (Wt.yes rfl rfl rfl rfl) rfl (PV.not rfl) ?_
          refine RO.val (Wt.no rfl) rfl (PV.pickF rfl rfl) ?_
          refine RO.val (Wt.no rfl) rfl ((PV.move rfl).to (congrArg Value.bool hb70)) ?_
          refine RO.skip (Un.mk rfl rfl rfl rfl) rfl ?_
          refine RO.skip (Un.mk rfl rfl rfl rfl) rfl ?_
          refine RO.val (Wt.no rfl) rfl (PV.pickT rfl rfl) ?_
          refine RO.val (Wt.no rfl) rfl (PV.move rfl) ?_
          refine RO.skip (Un.mk rfl rfl rfl rfl) rfl ?_
          refine RO.skip (Un.mk rfl rfl rfl rfl) rfl ?_
          refine RO.skip (Un.mk rfl rfl rfl rfl) rfl ?_
          refine RO.skip (Un.mk rfl rfl rfl rfl) rfl ?_
          refine RO.val (Wt.no rfl) rfl (PV.pickT rfl rfl) ?_
          refine RO.val (Wt.no rfl) rfl (PV.move rfl) ?_
          refine RO.skip (Un.mk rfl rfl rfl rfl) rfl ?_
          refine RO.skip (Un.mk rfl rfl rfl rfl) rfl ?_
          refine RO.skip (Un.mk rfl rfl rfl rfl) rfl ?_
          refine RO.val (Wt.no rfl) rfl (PV.pickT rfl rfl) ?_
          refine RO.nil ?_
          obtain rfl := Option.some.inj h
          refine QC.meetP true hk63 [0, 1, 2, 3, 4] (by decide) (by exact ⟨rfl, rfl, rfl, rfl, rfl, rfl, rfl, trivial⟩) rfl (fun w hΦ => hΦ)
        · replace hb70 := Bool.eq_false_iff.2 hb70
          replace h := iteF hb70 h
          by_cases hb71 : (!v6) = true
          · replace h := iteT hb71 h
            refine CW.region ?_
            refine RO.val (Wt.no rfl) rfl (PV.loadM (l := S.t_Bag.enc a1 (hf [b1_0])) 1 Try.TF40 rfl rfl (cut_self (S.t_Bag.len _ _)) rfl (by decide)) ?_
            refine RO.eff (Wt.no rfl) rfl (EV.call (K := _) Try.call73 rfl (SpecK.callV (W_bag_May a1 b1_0 hx66 (fun w hm hΦ => (hR w (hm.frameAt (i := 0) rfl) (hΦ.1)))))) ?_
            rintro _ _ _ ⟨_, rfl, rfl, rfl⟩
            refine RO.val (Wt.no rfl) rfl (PV.not rfl) ?_
            refine RO.val (Wt.no rfl) rfl ((PV.move rfl).to (congrArg Value.bool hb67)) ?_
            refine RO.val (Wt.yes rfl rfl rfl rfl) rfl (PV.loadM (l := S.t_A8_int.enc a2 (hf [])) 2 Try.TF37 rfl rfl (cut_self (S.t_A8_int.len _ _)) rfl (by decide)) ?_
            refine RO.eff (Wt.yes rfl rfl rfl rfl) rfl (EV.call (K := _) Try.call63 rfl (SpecK.callV (W_clock_May a2 hx69))) ?_
            rintro _ _ _ ⟨_, rfl, rfl, rfl⟩
            refine RO.val (Wt.yes rfl rfl rfl rfl) rfl (PV.not rfl) ?_
            refine RO.val (Wt.no rfl) rfl (PV.pickF rfl rfl) ?_
            refine RO.val (Wt.no rfl) rfl ((PV.move rfl).to (congrArg Value.bool hb70)) ?_
            refine RO.val (Wt.yes rfl rfl rfl rfl) rfl (PV.move rfl) ?_
            refine RO.val (Wt.yes rfl rfl rfl rfl) rfl (PV.not rfl) ?_
            refine RO.val (Wt.no rfl) rfl (PV.pickF rfl rfl) ?_
            refine RO.val (Wt.no rfl) rfl ((PV.move rfl).to (congrArg Value.bool hb71)) ?_
            refine RO.skip (Un.mk rfl rfl rfl rfl) rfl ?_
            refine RO.skip (Un.mk rfl rfl rfl rfl) rfl ?_
            refine RO.skip (Un.mk rfl rfl rfl rfl) rfl ?_
            refine RO.skip (Un.mk rfl rfl rfl rfl) rfl ?_
            refine RO.val (Wt.no rfl) rfl (PV.pickT rfl rfl) ?_
            refine RO.val (Wt.no rfl) rfl (PV.move rfl) ?_
            refine RO.skip (Un.mk rfl rfl rfl rfl) rfl ?_
            refine RO.skip (Un.mk rfl rfl rfl rfl) rfl ?_
            refine RO.skip (Un.mk rfl rfl rfl rfl) rfl ?_
            refine RO.val (Wt.no rfl) rfl (PV.pickT rfl rfl) ?_
            refine RO.nil ?_
            obtain rfl := Option.some.inj h
            refine QC.meetP true hk63 [0, 1, 2, 3, 4] (by decide) (by exact ⟨rfl, rfl, rfl, rfl, rfl, rfl, rfl, trivial⟩) rfl (fun w hΦ => hΦ)
          · replace hb71 := Bool.eq_false_iff.2 hb71
            replace h := iteF hb71 h
            replace h := bindS h
            obtain ⟨v72, hx73, h⟩ := h
            by_cases hb74 : v72 = true
            · replace h := iteT hb74 h
              subst hb74
              refine CW.region ?_
              refine RO.val (Wt.no rfl) rfl (PV.loadM (l := S.t_Bag.enc a1 (hf [b1_0])) 1 Try.TF40 rfl rfl (cut_self (S.t_Bag.len _ _)) rfl (by decide)) ?_
              refine RO.eff (Wt.no rfl) rfl (EV.call (K := _) Try.call73 rfl (SpecK.callV (W_bag_May a1 b1_0 hx66 (fun w hm hΦ => (hR w (hm.frameAt (i := 0) rfl) (hΦ.1)))))) ?_
              rintro _ _ _ ⟨_, rfl, rfl, rfl⟩
              refine RO.val (Wt.no rfl) rfl (PV.not rfl) ?_
              refine RO.val (Wt.no rfl) rfl ((PV.move rfl).to (congrArg Value.bool hb67)) ?_
              refine RO.val (Wt.yes rfl rfl rfl rfl) rfl (PV.loadM (l := S.t_A8_int.enc a2 (hf [])) 2 Try.TF37 rfl rfl (cut_self (S.t_A8_int.len _ _)) rfl (by decide)) ?_
              refine RO.eff (Wt.yes rfl rfl rfl rfl) rfl (EV.call (K := _) Try.call63 rfl (SpecK.callV (W_clock_May a2 hx69))) ?_
              rintro _ _ _ ⟨_, rfl, rfl, rfl⟩
              refine RO.val (Wt.yes rfl rfl rfl rfl) rfl (PV.not rfl) ?_
              refine RO.val (Wt.no rfl) rfl (PV.pickF rfl rfl) ?_
              refine RO.val (Wt.no rfl) rfl ((PV.move rfl).to (congrArg Value.bool hb70)) ?_
              refine RO.val (Wt.yes rfl rfl rfl rfl) rfl (PV.move rfl) ?_
              refine RO.val (Wt.yes rfl rfl rfl rfl) rfl (PV.not rfl) ?_
              refine RO.val (Wt.no rfl) rfl (PV.pickF rfl rfl) ?_
              refine RO.val (Wt.no rfl) rfl ((PV.move rfl).to (congrArg Value.bool hb71)) ?_
              refine RO.val (Wt.yes rfl rfl rfl rfl) rfl (PV.fieldAddr Try.fa40_0 rfl) ?_
              refine RO.val (Wt.yes rfl rfl rfl rfl) rfl (PV.loadM (l := S.t_A8_int.enc a1.Known (hf [])) 1 Try.TF37 rfl rfl (cut_Bag_Known _ _) rfl (by decide)) ?_
              refine RO.val (Wt.yes rfl rfl rfl rfl) rfl (PV.loadM (l := S.t_Dot.enc a3 (hf [])) 3 Try.TF45 rfl rfl (cut_self (S.t_Dot.len _ _)) rfl (by decide)) ?_
              refine RO.eff (Wt.yes rfl rfl rfl rfl) rfl (EV.call (K := _) Try.call34 rfl (SpecK.callV (W_clock_Has a1.Known a3 hx73))) ?_
              rintro _ _ _ ⟨_, rfl, rfl, rfl⟩
              refine RO.val (Wt.no rfl) rfl (PV.pickF rfl rfl) ?_
              refine RO.val (Wt.no rfl) rfl (PV.move rfl) ?_
              refine RO.skip (Un.mk rfl rfl rfl rfl) rfl ?_
              refine RO.skip (Un.mk rfl rfl rfl rfl) rfl ?_
              refine RO.skip (Un.mk rfl rfl rfl rfl) rfl ?_
              refine RO.val (Wt.no rfl) rfl (PV.pickT rfl rfl) ?_
              refine RO.nil ?_
              obtain rfl := Option.some.inj h
              refine QC.meetP true hk63 [0, 1, 2, 3, 4] (by decide) (by exact ⟨rfl, rfl, rfl, rfl, rfl, rfl, rfl, trivial⟩) rfl (fun w hΦ => hΦ)
            · replace hb74 := Bool.eq_false_iff.2 hb74
              replace h := iteF hb74 h
              subst hb74
              refine CW.region ?_
              refine RO.val (Wt.no rfl) rfl (PV.loadM (l := S.t_Bag.enc a1 (hf [b1_0])) 1 Try.TF40 rfl rfl (cut_self (S.t_Bag.len _ _)) rfl (by decide)) ?_
              refine RO.eff (Wt.no rfl) rfl (EV.call (K := _) Try.call73 rfl (SpecK.callV (W_bag_May a1 b1_0 hx66 (fun w hm hΦ => (hR w (hm.frameAt (i := 0) rfl) (hΦ.1)))))) ?_
              rintro _ _ _ ⟨_, rfl, rfl, rfl⟩
              refine RO.val (Wt.no rfl) rfl (PV.not rfl) ?_
              refine RO.val (Wt.no rfl) rfl ((PV.move rfl).to (congrArg Value.bool hb67)) ?_
              refine RO.val (Wt.yes rfl rfl rfl rfl) rfl (PV.loadM (l := S.t_A8_int.enc a2 (hf [])) 2 Try.TF37 rfl rfl (cut_self (S.t_A8_int.len _ _)) rfl (by decide)) ?_
              refine RO.eff (Wt.yes rfl rfl rfl rfl) rfl (EV.call (K := _) Try.call63 rfl (SpecK.callV (W_clock_May a2 hx69))) ?_
              rintro _ _ _ ⟨_, rfl, rfl, rfl⟩
              refine RO.val (Wt.yes rfl rfl rfl rfl) rfl (PV.not rfl) ?_
              refine RO.val (Wt.no rfl) rfl (PV.pickF rfl rfl) ?_
              refine RO.val (Wt.no rfl) rfl ((PV.move rfl).to (congrArg Value.bool hb70)) ?_
              refine RO.val (Wt.yes rfl rfl rfl rfl) rfl (PV.move rfl) ?_
              refine RO.val (Wt.yes rfl rfl rfl rfl) rfl (PV.not rfl) ?_
              refine RO.val (Wt.no rfl) rfl (PV.pickF rfl rfl) ?_
              refine RO.val (Wt.no rfl) rfl ((PV.move rfl).to (congrArg Value.bool hb71)) ?_
              refine RO.val (Wt.yes rfl rfl rfl rfl) rfl (PV.fieldAddr Try.fa40_0 rfl) ?_
              refine RO.val (Wt.yes rfl rfl rfl rfl) rfl (PV.loadM (l := S.t_A8_int.enc a1.Known (hf [])) 1 Try.TF37 rfl rfl (cut_Bag_Known _ _) rfl (by decide)) ?_
              refine RO.val (Wt.yes rfl rfl rfl rfl) rfl (PV.loadM (l := S.t_Dot.enc a3 (hf [])) 3 Try.TF45 rfl rfl (cut_self (S.t_Dot.len _ _)) rfl (by decide)) ?_
              refine RO.eff (Wt.yes rfl rfl rfl rfl) rfl (EV.call (K := _) Try.call34 rfl (SpecK.callV (W_clock_Has a1.Known a3 hx73))) ?_
              rintro _ _ _ ⟨_, rfl, rfl, rfl⟩
              refine RO.val (Wt.no rfl) rfl (PV.pickF rfl rfl) ?_
              refine RO.val (Wt.no rfl) rfl (PV.move rfl) ?_
              refine RO.val (Wt.yes rfl rfl rfl rfl) rfl (PV.move rfl) ?_
              refine RO.val (Wt.yes rfl rfl rfl rfl) rfl (PV.lenStr Try.underlying9 rfl) ?_
              refine RO.val (Wt.yes rfl rfl rfl rfl) rfl (PV.gtr rfl rfl) ?_
              refine RO.val (Wt.no rfl) rfl (PV.pickF rfl rfl) ?_
              refine RO.nil ?_
              obtain rfl := Option.some.inj h
              refine QC.meetP (decide (64 < (a4.size : Int))) hk63 [0, 1, 2, 3, 4] (by decide) (by exact ⟨rfl, rfl, rfl, rfl, rfl, rfl, rfl, trivial⟩) rfl (fun w hΦ => hΦ)
    · rintro v8 h
      try dsimp only at h ⊢
      unfold S.bag_Put_j2 at h
      refine CW.cond rfl (fun hb9 => ?_) (fun hb9 => ?_)
      · replace h := iteT hb9 h
        subst hb9
        refine CW.reg ?_
        refine RO.val (Wt.no rfl) rfl (PV.buildS (B := S.t_Bag.enc S.Bag.z (hf [Hd.z])) (xs := []) [] Try.BT40 rfl rfl rfl (by simp) trivial rfl) ?_
        refine RO.eff (Wt.no rfl) rfl (EV.storeW (B := S.t_Bag.enc S.Bag.z (hf [Hd.z])) 4 Try.TF40 rfl rfl rfl (by exact S.t_Bag.len S.Bag.z (hf [Hd.z])) (by exact S.t_Bag.one S.Bag.z (hf [Hd.z])) (S.t_Bag.len S.Bag.z (hf [Hd.z])) rfl) ?_
        rintro _ _ _ ⟨rfl, rfl, rfl⟩
        refine RO.val (Wt.no rfl) rfl (PV.assign rfl) ?_
        refine RO.nil ?_
        refine CW.ret ?_
        refine QC.then_r ?_
        obtain rfl := Option.some.inj h
        exact retP2 (Ψ := fun w => Φ w ∧ (slR S.t_Val w [] Hd.z)) [0] (by decide) rfl (RV.cell (A := S.t_Bag.enc S.Bag.z (hf [Hd.z])) 4 rfl Try.TF40 rfl (S.t_Bag.len _ _) (by decide)) (RV.tmp rfl) rfl (fun w hΦ => ⟨hΦ.1, (slR.nil _ _)⟩) ⟨Hd.z, rfl, rfl, rfl⟩
      · replace h := iteF hb9 h
        subst hb9
        refine CW.skip ?_
        refine QC.then_n ?_
        replace h := bindS h
        obtain ⟨e57, h, hk56⟩ := h
        refine CW.meet (X := S.Bag × Nat) (fun x => [(3, .string a4), (4, .pointer (some ⟨g1, 0, none⟩)), (5, .pointer (some ⟨g2, 0, none⟩)), (6, .pointer (some ⟨g3, 0, none⟩)), (8, .pointer (some ⟨g4, 0, none⟩)), (9, .int .i64 0), (11, .pointer (some ⟨x.2, 0, none⟩))]) (fun x => [frame D, .blk g1 (S.t_Bag.enc a1 (hf [b1_0])), .blk g2 (S.t_A8_int.enc a2 (hf [])), .blk g3 (S.t_Dot.enc a3 (hf [])), .blk g4 (S.t_Bag.enc S.Bag.z (hf [Hd.z])), .blk x.2 (S.t_Bag.enc ({ x.1 with Values := [] } : S.Bag) (hf [Hd.z]))]) (fun x w => (Φ w ∧ True)) (fun x => S.bag_Put_j3 a1 a2 a3 a4 x.1 = some r) ?_ ?_
        · skip
          replace h := bindS h
          obtain ⟨v58, hx59, h⟩ := h
          replace h := bindS h
          obtain ⟨v60, hx61, h⟩ := h
          refine CW.regionD (pickM [0, 1, 2, 3, 4] _) _ (by kernel_rfl) (St.of (by decide) rfl (fun _ h => h)) ?_
          refine RD.take 0 rfl (by kernel_rfl) (by kernel_rfl) (by kernel_rfl) (Wt.no rfl) rfl (PV.fieldAddr Try.fa40_0 rfl) ?_
          refine RD.take 1 rfl (by kernel_rfl) (by kernel_rfl) (by kernel_rfl) (Wt.no rfl) rfl (PV.loadM (l := S.t_A8_int.enc a1.Known (hf [])) 1 Try.TF37 rfl rfl (cut_Bag_Known _ _) rfl (by decide)) ?_
          refine RD.take 2 rfl (by kernel_rfl) (by kernel_rfl) (by kernel_rfl) (Wt.no rfl) rfl (PV.loadM (l := S.t_A8_int.enc a2 (hf [])) 2 Try.TF37 rfl rfl (cut_self (S.t_A8_int.len _ _)) rfl (by decide)) ?_
          refine RD.take 4 rfl (by kernel_rfl) (by kernel_rfl) (by kernel_rfl) (Wt.no rfl) rfl (PV.loadM (l := S.t_Dot.enc a3 (hf [])) 3 Try.TF45 rfl rfl (cut_self (S.t_Dot.len _ _)) rfl (by decide)) ?_
          refine RD.two 3 7 (by kernel_rfl) ?_ ?_
          · skip
            refine Up.eff rfl (Wt.no rfl) rfl (EV.call (K := _) Try.call93 rfl (SpecK.callV (W_clock_Join a1.Known a2 hx59))) ?_ ?_
            · rintro _ _ _ ⟨_, rfl, rfl, rfl⟩; exact St.of' (by decide) (L' := [0, 1, 2, 3, 4]) rfl (fun _ h => h)
            rintro _ _ _ ⟨_, rfl, rfl, rfl⟩
            refine RD.two 5 7 (by kernel_rfl) ?_ ?_
            · skip
              refine Up.eff rfl (Wt.no rfl) rfl (EV.call (K := _) Try.call92 rfl (SpecK.callV (W_clock_With v58 a3 hx61))) ?_ ?_
              · rintro _ _ _ ⟨_, rfl, rfl, rfl⟩; exact St.of' (by decide) (L' := [0, 1, 2, 3, 4]) rfl (fun _ h => h)
              rintro _ _ _ ⟨_, rfl, rfl, rfl⟩
              refine RD.take 6 rfl (by kernel_rfl) (by kernel_rfl) (by kernel_rfl) (Wt.no rfl) rfl (PV.buildS (B := S.t_Bag.enc ({ S.Bag.z with Known := v60 } : S.Bag) (hf [Hd.z])) (xs := [.tmp 63]) [(0, 0, 8)] Try.BT40 rfl rfl rfl (by decide) ⟨rfl, rfl, trivial⟩ rfl) ?_
              refine RD.one 7 (by kernel_rfl) ?_
              refine Up.eff rfl (Wt.no rfl) rfl (EV.allocB (B := S.t_Bag.enc S.Bag.z (hf [Hd.z])) Try.zeroValue40 rfl) ?_ ?_
              · rintro _ _ _ ⟨g62, rfl, rfl, rfl⟩; exact St.of' (by decide) (L' := [0, 1, 2, 3, 4]) rfl (fun _ h => h)
              rintro _ _ _ ⟨g62, rfl, rfl, rfl⟩
              refine RD.one 8 (by kernel_rfl) ?_
              refine Up.eff rfl (Wt.no rfl) rfl (EV.storeW (B := S.t_Bag.enc ({ S.Bag.z with Known := v60 } : S.Bag) (hf [Hd.z])) 5 Try.TF40 rfl rfl rfl (by exact S.t_Bag.len ({ S.Bag.z with Known := v60 } : S.Bag) (hf [Hd.z])) (by exact S.t_Bag.one ({ S.Bag.z with Known := v60 } : S.Bag) (hf [Hd.z])) (S.t_Bag.len S.Bag.z (hf [Hd.z])) rfl) ?_ ?_
              · rintro _ _ _ ⟨rfl, rfl, rfl⟩; exact St.of' (by decide) (L' := [0, 1, 2, 3, 4]) rfl (fun _ h => h)
              rintro _ _ _ ⟨rfl, rfl, rfl⟩
              refine RD.done (by kernel_rfl) ?_
              obtain rfl := Option.some.inj h
              refine QC.meetP (({ S.Bag.z with Known := v60 } : S.Bag), g62) hk56 [0, 1, 2, 3, 4, 5] (by decide) (by exact ⟨rfl, rfl, rfl, rfl, rfl, rfl, rfl, trivial⟩) rfl (fun w hΦ => hΦ)
            · skip
              refine Up.eff rfl (Wt.no rfl) rfl (EV.allocB (B := S.t_Bag.enc S.Bag.z (hf [Hd.z])) Try.zeroValue40 rfl) ?_ ?_
              · rintro _ _ _ ⟨g62, rfl, rfl, rfl⟩; exact St.of' (by decide) (L' := [0, 1, 2, 3, 4]) rfl (fun _ h => h)
              rintro _ _ _ ⟨g62, rfl, rfl, rfl⟩
              refine RD.one 5 (by kernel_rfl) ?_
              refine Up.eff rfl (Wt.no rfl) rfl (EV.call (K := _) Try.call92 rfl (SpecK.callV (W_clock_With v58 a3 hx61))) ?_ ?_
              · rintro _ _ _ ⟨_, rfl, rfl, rfl⟩; exact St.of' (by decide) (L' := [0, 1, 2, 3, 4]) rfl (fun _ h => h)
              rintro _ _ _ ⟨_, rfl, rfl, rfl⟩
              refine RD.take 6 rfl (by kernel_rfl) (by kernel_rfl) (by kernel_rfl) (Wt.no rfl) rfl (PV.buildS (B := S.t_Bag.enc ({ S.Bag.z with Known := v60 } : S.Bag) (hf [Hd.z])) (xs := [.tmp 63]) [(0, 0, 8)] Try.BT40 rfl rfl rfl (by decide) ⟨rfl, rfl, trivial⟩ rfl) ?_
              refine RD.one 8 (by kernel_rfl) ?_
              refine Up.eff rfl (Wt.no rfl) rfl (EV.storeW (B := S.t_Bag.enc ({ S.Bag.z with Known := v60 } : S.Bag) (hf [Hd.z])) 5 Try.TF40 rfl rfl rfl (by exact S.t_Bag.len ({ S.Bag.z with Known := v60 } : S.Bag) (hf [Hd.z])) (by exact S.t_Bag.one ({ S.Bag.z with Known := v60 } : S.Bag) (hf [Hd.z])) (S.t_Bag.len S.Bag.z (hf [Hd.z])) rfl) ?_ ?_
              · rintro _ _ _ ⟨rfl, rfl, rfl⟩; exact St.of' (by decide) (L' := [0, 1, 2, 3, 4]) rfl (fun _ h => h)
              rintro _ _ _ ⟨rfl, rfl, rfl⟩
              refine RD.done (by kernel_rfl) ?_
              obtain rfl := Option.some.inj h
              refine QC.meetP (({ S.Bag.z with Known := v60 } : S.Bag), g62) hk56 [0, 1, 2, 3, 4, 5] (by decide) (by exact ⟨rfl, rfl, rfl, rfl, rfl, rfl, rfl, trivial⟩) rfl (fun w hΦ => hΦ)
          · skip
            refine Up.eff rfl (Wt.no rfl) rfl (EV.allocB (B := S.t_Bag.enc S.Bag.z (hf [Hd.z])) Try.zeroValue40 rfl) ?_ ?_
            · rintro _ _ _ ⟨g62, rfl, rfl, rfl⟩; exact St.of' (by decide) (L' := [0, 1, 2, 3, 4]) rfl (fun _ h => h)
            rintro _ _ _ ⟨g62, rfl, rfl, rfl⟩
            refine RD.one 3 (by kernel_rfl) ?_
            refine Up.eff rfl (Wt.no rfl) rfl (EV.call (K := _) Try.call93 rfl (SpecK.callV (W_clock_Join a1.Known a2 hx59))) ?_ ?_
            · rintro _ _ _ ⟨_, rfl, rfl, rfl⟩; exact St.of' (by decide) (L' := [0, 1, 2, 3, 4]) rfl (fun _ h => h)
            rintro _ _ _ ⟨_, rfl, rfl, rfl⟩
            refine RD.one 5 (by kernel_rfl) ?_
            refine Up.eff rfl (Wt.no rfl) rfl (EV.call (K := _) Try.call92 rfl (SpecK.callV (W_clock_With v58 a3 hx61))) ?_ ?_
            · rintro _ _ _ ⟨_, rfl, rfl, rfl⟩; exact St.of' (by decide) (L' := [0, 1, 2, 3, 4]) rfl (fun _ h => h)
            rintro _ _ _ ⟨_, rfl, rfl, rfl⟩
            refine RD.take 6 rfl (by kernel_rfl) (by kernel_rfl) (by kernel_rfl) (Wt.no rfl) rfl (PV.buildS (B := S.t_Bag.enc ({ S.Bag.z with Known := v60 } : S.Bag) (hf [Hd.z])) (xs := [.tmp 63]) [(0, 0, 8)] Try.BT40 rfl rfl rfl (by decide) ⟨rfl, rfl, trivial⟩ rfl) ?_
            refine RD.one 8 (by kernel_rfl) ?_
            refine Up.eff rfl (Wt.no rfl) rfl (EV.storeW (B := S.t_Bag.enc ({ S.Bag.z with Known := v60 } : S.Bag) (hf [Hd.z])) 5 Try.TF40 rfl rfl rfl (by exact S.t_Bag.len ({ S.Bag.z with Known := v60 } : S.Bag) (hf [Hd.z])) (by exact S.t_Bag.one ({ S.Bag.z with Known := v60 } : S.Bag) (hf [Hd.z])) (S.t_Bag.len S.Bag.z (hf [Hd.z])) rfl) ?_ ?_
            · rintro _ _ _ ⟨rfl, rfl, rfl⟩; exact St.of' (by decide) (L' := [0, 1, 2, 3, 4]) rfl (fun _ h => h)
            rintro _ _ _ ⟨rfl, rfl, rfl⟩
            refine RD.done (by kernel_rfl) ?_
            obtain rfl := Option.some.inj h
            refine QC.meetP (({ S.Bag.z with Known := v60 } : S.Bag), g62) hk56 [0, 1, 2, 3, 4, 5] (by decide) (by exact ⟨rfl, rfl, rfl, rfl, rfl, rfl, rfl, trivial⟩) rfl (fun w hΦ => hΦ)
        · rintro ⟨v12, g11⟩ h
          try dsimp only at h ⊢
          unfold S.bag_Put_j3 at h
          refine CW.row 80 3 ?_
          replace h := bindS h
          obtain ⟨e28, h, hk27⟩ := h
          refine CW.meet (X := S.Bag × (List S.Val) × Hd) (fun x => [(3, .string a4), (6, .pointer (some ⟨g3, 0, none⟩)), (8, .pointer (some ⟨g4, 0, none⟩)), (9, .int .i64 0), (11, .pointer (some ⟨g11, 0, none⟩))]) (fun x => [frame D, .blk g1 (S.t_Bag.enc a1 (hf [b1_0])), .blk g2 (S.t_A8_int.enc a2 (hf [])), .blk g3 (S.t_Dot.enc a3 (hf [])), .blk g4 (S.t_Bag.enc S.Bag.z (hf [Hd.z])), .blk g11 (S.t_Bag.enc ({ x.1 with Values := x.2.1 } : S.Bag) (hf [x.2.2])), rowE S.t_Val 80 x.2.1 x.2.2]) (fun x w => (Φ w ∧ True)) (fun x => S.bag_Put_j6 a3 a4 x.1 x.2.1 = some r) ?_ ?_
          · skip
            refine CW.reg ?_
            refine RO.val (Wt.no rfl) rfl (PV.fieldAddr Try.fa40_1 rfl) ?_
            refine RO.val (Wt.no rfl) rfl (PV.loadM (l := [.slice b1_0.a a1.Values.length b1_0.cap]) 1 Try.TF38 rfl rfl (cut_Bag_Values _ _) rfl (by decide)) ?_
            refine RO.val (Wt.no rfl) rfl (PV.lenS Try.underlying38 rfl) ?_
            refine RO.val (Wt.no rfl) rfl (PV.move rfl) ?_
            refine RO.nil ?_
            refine CW.block ?_
            refine CW.loopE (X := Nat × S.Bag × (List S.Val) × Int × Hd) (fun x => [(3, .string a4), (5, .pointer (some ⟨g2, 0, none⟩)), (6, .pointer (some ⟨g3, 0, none⟩)), (8, .pointer (some ⟨g4, 0, none⟩)), (9, .int .i64 0), (11, .pointer (some ⟨g11, 0, none⟩)), (66, .slice b1_0.a a1.Values.length b1_0.cap), (67, .int .i64 (a1.Values.length : Int)), (68, .int .i64 x.2.2.2.1)]) (fun x => [frame D, .blk g1 (S.t_Bag.enc a1 (hf [b1_0])), .blk g2 (S.t_A8_int.enc a2 (hf [])), .blk g3 (S.t_Dot.enc a3 (hf [])), .blk g4 (S.t_Bag.enc S.Bag.z (hf [Hd.z])), .blk g11 (S.t_Bag.enc ({ x.2.1 with Values := x.2.2.1 } : S.Bag) (hf [x.2.2.2.2])), rowE S.t_Val 80 x.2.2.1 x.2.2.2.2]) (fun x w => (Φ w ∧ True)) (fun x => loopN (S.bag_Put_l7 a1 a2) x.1 (x.2.1, x.2.2.1, x.2.2.2.1) = some e28) (fun x => x.1) (FUEL, ({ v12 with Values := [] } : S.Bag), [], 0, Hd.z) h (by exact ⟨rfl, rfl, rfl, rfl, rfl, rfl, rfl, rfl, rfl, trivial⟩) rfl (fun w hΦ => hΦ) ?_
            rintro ⟨n42', v36, v37, v39, q38⟩ hI40
            try dsimp only at hI40 ⊢
            obtain ⟨n42, y41, rfl, h, hk43⟩ := loopN_some hI40
            unfold S.bag_Put_l7 at h
            try dsimp only at h
            refine CW.reg ?_
            refine RO.val (Wt.no rfl) rfl (PV.lss rfl rfl) ?_
            refine RO.nil ?_
            refine CW.seq ?_
            refine CW.cond rfl (fun hb44 => ?_) (fun hb44 => ?_)
            · replace h := iteT hb44 h
              refine CW.skip ?_
              refine QC.then_n ?_
              refine CW.seq ?_
              refine CW.block ?_
              replace h := bindS h
              obtain ⟨v45, hx46, h⟩ := h
              refine CW.reg ?_
              refine RO.val (Wt.no rfl) rfl (PV.idxQ (t := S.t_Val) (l := a1.Values) (q := b1_0) Try.underlying38 Try.sizeOf80 (fun w hm hΦ => (hR w (hm.frameAt (i := 0) rfl) (hΦ.1))) rfl rfl hx46) ?_
              refine RO.val (Wt.no rfl) rfl (PV.loadQ (off := 0) (cs := S.t_Val.enc v45 (hf [])) (t := S.t_Val) (l := a1.Values) (q := b1_0) Try.TF80 (fun w hm hΦ => (hR w (hm.frameAt (i := 0) rfl) (hΦ.1))) hx46 rfl rfl rfl (cut_self (S.t_Val.len _ _)) rfl (by decide)) ?_
              refine RO.eff (Wt.no rfl) rfl (EV.allocB (B := S.t_Val.enc S.Val.z (hf [])) Try.zeroValue80 rfl) ?_
              rintro _ _ _ ⟨g47, rfl, rfl, rfl⟩
              refine RO.eff (Wt.no rfl) rfl (EV.storeW (B := S.t_Val.enc v45 (hf [])) 7 Try.TF80 rfl rfl rfl (by exact S.t_Val.len v45 (hf [])) (by exact S.t_Val.one v45 (hf [])) (S.t_Val.len S.Val.z (hf [])) rfl) ?_
              rintro _ _ _ ⟨rfl, rfl, rfl⟩
              refine RO.nil ?_
              replace h := bindS h
              obtain ⟨v48, hx49, h⟩ := h
              refine CW.reg ?_
              refine RO.val (Wt.no rfl) rfl (PV.loadM (l := S.t_A8_int.enc a2 (hf [])) 2 Try.TF37 rfl rfl (cut_self (S.t_A8_int.len _ _)) rfl (by decide)) ?_
              refine RO.val (Wt.no rfl) rfl (PV.fieldAddr Try.fa80_0 rfl) ?_
              refine RO.val (Wt.no rfl) rfl (PV.loadM (l := S.t_Dot.enc v45.Dot (hf [])) 7 Try.TF45 rfl rfl (cut_Val_Dot _ _) rfl (by decide)) ?_
              refine RO.eff (Wt.no rfl) rfl (EV.call (K := _) Try.call34 rfl (SpecK.callV (W_clock_Has a2 v45.Dot hx49))) ?_
              rintro _ _ _ ⟨_, rfl, rfl, rfl⟩
              refine RO.val (Wt.no rfl) rfl (PV.not rfl) ?_
              refine RO.nil ?_
              refine CW.cond rfl (fun hb50 => ?_) (fun hb50 => ?_)
              · replace h := iteT hb50 h
                replace h := bindS h
                obtain ⟨v52, hx53, h⟩ := h
                refine CW.region ?_
                refine RO.val (Wt.no rfl) rfl (PV.fieldAddr Try.fa40_1 rfl) ?_
                refine RO.val (Wt.no rfl) rfl (PV.loadM (l := [.slice q38.a v37.length q38.cap]) 5 Try.TF38 rfl rfl (cut_Bag_Values _ _) rfl (by decide)) ?_
                refine RO.val (Wt.no rfl) rfl (PV.loadM (l := S.t_Val.enc v45 (hf [])) 7 Try.TF80 rfl rfl (cut_self (S.t_Val.len _ _)) rfl (by decide)) ?_
                refine RO.eff (Wt.no rfl) rfl (EV.buildSlice (xs := [.tmp 79]) rfl Try.underlying38 Try.sizeOf80 Try.zeroValue80 rfl rfl rfl rfl) ?_
                rintro _ _ _ ⟨g51, rfl, rfl, rfl⟩
                refine RO.eff (Wt.no rfl) rfl (EV.appQ (bytes := 32) (t := S.t_Val) (l := v37) (q := q38) (y := v45) (hy := hf []) 6 8 Try.underlying38 Try.inf80 rfl rfl rfl rfl (by decide) rfl rfl rfl rfl hx53 (by decide)) ?_
                rintro _ _ _ ⟨a54, c55, rfl, rfl, rfl⟩
                refine RO.val (Wt.no rfl) rfl (PV.fieldAddr Try.fa40_1 rfl) ?_
                refine RO.eff (Wt.no rfl) rfl (EV.storeB (B := S.t_Bag.enc ({ v36 with Values := v52 } : S.Bag) (hf [(Hd.mk a54 c55 (snocS v37.length q38.sub (hf [])))])) 5 Try.TF38 rfl rfl rfl rfl rfl (by rw [S.t_Bag.len]; decide) (wr_Bag_Values ({ v36 with Values := v37 } : S.Bag) q38 (Hd.mk a54 c55 (snocS v37.length q38.sub (hf []))) v52)) ?_
                rintro _ _ _ ⟨rfl, rfl, rfl⟩
                refine RO.nil ?_
                refine QC.blk_n ?_
                refine QC.then_n ?_
                refine CW.region ?_
                refine RO.val (Wt.no rfl) rfl (PV.addW rfl rfl) ?_
                refine RO.val (Wt.no rfl) rfl (PV.move rfl) ?_
                refine RO.nil ?_
                obtain rfl := Option.some.inj h
                refine QC.roundP (n42, ({ v36 with Values := v52 } : S.Bag), v52, (w64 (v39 + 1)), (Hd.mk a54 c55 (snocS v37.length q38.sub (hf [])))) (nextL_inl hk43) (by exact Nat.lt_succ_self _) [0, 1, 2, 3, 4, 5, 6] (by decide) (by exact ⟨rfl, rfl, rfl, rfl, rfl, rfl, rfl, rfl, rfl, trivial⟩) rfl (fun w hΦ => hΦ)
              · replace h := iteF hb50 h
                refine CW.skip ?_
                refine QC.blk_n ?_
                refine QC.then_n ?_
                refine CW.region ?_
                refine RO.val (Wt.no rfl) rfl (PV.addW rfl rfl) ?_
                refine RO.val (Wt.no rfl) rfl (PV.move rfl) ?_
                refine RO.nil ?_
                obtain rfl := Option.some.inj h
                refine QC.roundP (n42, ({ v36 with Values := v37 } : S.Bag), v37, (w64 (v39 + 1)), q38) (nextL_inl hk43) (by exact Nat.lt_succ_self _) [0, 1, 2, 3, 4, 5, 6] (by decide) (by exact ⟨rfl, rfl, rfl, rfl, rfl, rfl, rfl, rfl, rfl, trivial⟩) rfl (fun w hΦ => hΦ)
            · replace h := iteF hb44 h
              refine CW.exit ?_
              refine QC.then_x ?_
              refine QC.then_x ?_
              refine QC.blk_x ?_
              obtain rfl := Option.some.inj h
              obtain rfl := nextL_inr hk43
              refine QC.meetP (({ v36 with Values := v37 } : S.Bag), v37, q38) hk27 [0, 1, 2, 3, 4, 5, 6] (by decide) (by exact ⟨rfl, rfl, rfl, rfl, rfl, trivial⟩) rfl (fun w hΦ => hΦ)
          · rintro ⟨v14, v15, q16⟩ h
            try dsimp only at h ⊢
            unfold S.bag_Put_j6 at h
            replace h := bindS h
            obtain ⟨⟨v17, v18⟩, hx19, h⟩ := h
            dsimp only at h
            refine CW.reg ?_
            refine RO.val (Wt.no rfl) rfl (PV.fieldAddr Try.fa40_1 rfl) ?_
            refine RO.val (Wt.no rfl) rfl (PV.loadM (l := [.slice q16.a v15.length q16.cap]) 5 Try.TF38 rfl rfl (cut_Bag_Values _ _) rfl (by decide)) ?_
            refine RO.val (Wt.no rfl) rfl (PV.loadM (l := S.t_Dot.enc a3 (hf [])) 3 Try.TF45 rfl rfl (cut_self (S.t_Dot.len _ _)) rfl (by decide)) ?_
            refine RO.eff (Wt.no rfl) rfl (EV.call (K := _) Try.call94 rfl (SpecK.callV (W_bag_find v15 a3 q16 hx19 (fun w hm hΦ => (slR_row (hm.rowAt (i := 6) rfl) (fun _ _ _ => trivial)))))) ?_
            rintro _ _ _ ⟨_, rfl, rfl, rfl⟩
            refine RO.val (Wt.no rfl) rfl (PV.move rfl) ?_
            refine RO.val (Wt.no rfl) rfl (PV.extract rfl rfl) ?_
            refine RO.val (Wt.no rfl) rfl (PV.extract rfl rfl) ?_
            refine RO.val (Wt.no rfl) rfl (PV.assign rfl) ?_
            refine RO.val (Wt.no rfl) rfl (PV.assign rfl) ?_
            refine RO.nil ?_
            replace h := bindS h
            obtain ⟨v21, hx22, h⟩ := h
            refine CW.reg ?_
            refine RO.val (Wt.no rfl) rfl (PV.fieldAddr Try.fa40_1 rfl) ?_
            refine RO.val (Wt.no rfl) rfl (PV.loadM (l := [.slice q16.a v15.length q16.cap]) 5 Try.TF38 rfl rfl (cut_Bag_Values _ _) rfl (by decide)) ?_
            refine RO.val (Wt.no rfl) rfl (PV.move rfl) ?_
            refine RO.val (Wt.no rfl) rfl (PV.loadM (l := S.t_Dot.enc a3 (hf [])) 3 Try.TF45 rfl rfl (cut_self (S.t_Dot.len _ _)) rfl (by decide)) ?_
            refine RO.val (Wt.no rfl) rfl (PV.move rfl) ?_
            refine RO.val (Wt.no rfl) rfl (PV.buildS (B := S.t_Val.enc ({ Dot := a3, Data := a4 } : S.Val) (hf [])) (xs := [.tmp 94, .tmp 95]) [(0, 0, 2), (1, 2, 1)] Try.BT80 rfl rfl rfl (by decide) ⟨rfl, rfl, rfl, rfl, trivial⟩ rfl) ?_
            refine RO.eff (Wt.no rfl) rfl (EV.buildSlice (xs := [.tmp 96]) rfl Try.underlying38 Try.sizeOf80 Try.zeroValue80 rfl rfl rfl rfl) ?_
            rintro _ _ _ ⟨g20, rfl, rfl, rfl⟩
            refine RO.eff (Wt.no rfl) rfl (EV.insQ (t := S.t_Val) (l := v15) (q := q16) (y := ({ Dot := a3, Data := a4 } : S.Val)) (hy := (hf [])) (ix := v17) 6 7 Try.call95 rfl rfl rfl (by decide) hx22 (fun k w1 hk hl h => Insert_Value w1 h (by exact S.t_Val.len _ _) (by exact S.t_Val.one _ _) (by exact encL_one _ _ _) hk hl)) ?_
            rintro _ _ _ ⟨a23, c24, rfl, rfl, rfl⟩
            refine RO.val (Wt.no rfl) rfl (PV.fieldAddr Try.fa40_1 rfl) ?_
            refine RO.eff (Wt.no rfl) rfl (EV.storeB (B := S.t_Bag.enc ({ v14 with Values := v21 } : S.Bag) (hf [(Hd.mk a23 c24 (insS v17.toNat q16.sub (hf [])))])) 5 Try.TF38 rfl rfl rfl rfl rfl (by rw [S.t_Bag.len]; decide) (wr_Bag_Values ({ v14 with Values := v15 } : S.Bag) q16 (Hd.mk a23 c24 (insS v17.toNat q16.sub (hf []))) v21)) ?_
            rintro _ _ _ ⟨rfl, rfl, rfl⟩
            refine RO.nil ?_
            refine CW.seq ?_
            refine CW.reg ?_
            refine RO.val (Wt.no rfl) rfl (PV.fieldAddr Try.fa40_1 rfl) ?_
            refine RO.val (Wt.no rfl) rfl (PV.loadM (l := [.slice (Hd.mk a23 c24 (insS v17.toNat q16.sub (hf []))).a v21.length (Hd.mk a23 c24 (insS v17.toNat q16.sub (hf []))).cap]) 5 Try.TF38 rfl rfl (cut_Bag_Values _ _) rfl (by decide)) ?_
            refine RO.val (Wt.no rfl) rfl (PV.lenS Try.underlying38 rfl) ?_
            refine RO.val (Wt.no rfl) rfl (PV.gtr rfl rfl) ?_
            refine RO.nil ?_
            refine CW.cond rfl (fun hb25 => ?_) (fun hb25 => ?_)
            · replace h := iteT hb25 h
              refine CW.reg ?_
              refine RO.val (Wt.no rfl) rfl (PV.buildS (B := S.t_Bag.enc S.Bag.z (hf [Hd.z])) (xs := []) [] Try.BT40 rfl rfl rfl (by simp) trivial rfl) ?_
              refine RO.eff (Wt.no rfl) rfl (EV.storeW (B := S.t_Bag.enc S.Bag.z (hf [Hd.z])) 4 Try.TF40 rfl rfl rfl (by exact S.t_Bag.len S.Bag.z (hf [Hd.z])) (by exact S.t_Bag.one S.Bag.z (hf [Hd.z])) (S.t_Bag.len S.Bag.z (hf [Hd.z])) rfl) ?_
              rintro _ _ _ ⟨rfl, rfl, rfl⟩
              refine RO.val (Wt.no rfl) rfl (PV.assign rfl) ?_
              refine RO.nil ?_
              refine CW.ret ?_
              refine QC.then_r ?_
              obtain rfl := Option.some.inj h
              exact retP2 (Ψ := fun w => Φ w ∧ (slR S.t_Val w [] Hd.z)) [0] (by decide) rfl (RV.cell (A := S.t_Bag.enc S.Bag.z (hf [Hd.z])) 4 rfl Try.TF40 rfl (S.t_Bag.len _ _) (by decide)) (RV.tmp rfl) rfl (fun w hΦ => ⟨hΦ.1, (slR.nil _ _)⟩) ⟨Hd.z, rfl, rfl, rfl⟩
            · replace h := iteF hb25 h
              refine CW.skip ?_
              refine QC.then_n ?_
              refine CW.reg ?_
              refine RO.val (Wt.no rfl) rfl (PV.loadM (l := S.t_Bag.enc ({ v14 with Values := v21 } : S.Bag) (hf [(Hd.mk a23 c24 (insS v17.toNat q16.sub (hf [])))])) 5 Try.TF40 rfl rfl (cut_self (S.t_Bag.len _ _)) rfl (by decide)) ?_
              refine RO.eff (Wt.no rfl) rfl (EV.storeW (B := S.t_Bag.enc ({ v14 with Values := v21 } : S.Bag) (hf [(Hd.mk a23 c24 (insS v17.toNat q16.sub (hf [])))])) 4 Try.TF40 rfl rfl rfl (by exact S.t_Bag.len ({ v14 with Values := v21 } : S.Bag) (hf [(Hd.mk a23 c24 (insS v17.toNat q16.sub (hf [])))])) (by exact S.t_Bag.one ({ v14 with Values := v21 } : S.Bag) (hf [(Hd.mk a23 c24 (insS v17.toNat q16.sub (hf [])))])) (S.t_Bag.len S.Bag.z (hf [Hd.z])) rfl) ?_
              rintro _ _ _ ⟨rfl, rfl, rfl⟩
              refine RO.val (Wt.no rfl) rfl (PV.assign rfl) ?_
              refine RO.nil ?_
              refine CW.ret ?_
              refine QC.freeze (t := S.t_Val) 6 rfl (fun w hΦ => (fun _ _ _ => trivial)) ?_
              obtain rfl := Option.some.inj h
              exact retP2 (Ψ := fun w => Φ w ∧ (slR S.t_Val w v21 (Hd.mk a23 c24 (insS v17.toNat q16.sub (hf []))))) [0] (by decide) rfl (RV.cell (A := S.t_Bag.enc ({ v14 with Values := v21 } : S.Bag) (hf [(Hd.mk a23 c24 (insS v17.toNat q16.sub (hf [])))])) 4 rfl Try.TF40 rfl (S.t_Bag.len _ _) (by decide)) (RV.tmp rfl) rfl (fun w hΦ => ⟨hΦ.1.1, (hΦ.2)⟩) ⟨(Hd.mk a23 c24 (insS v17.toNat q16.sub (hf []))), rfl, rfl, rfl⟩

theorem W_vault_Vault_Put {D : Mem} {Φ : World → Prop} (a1 : S.vault_Vault) (a2 : Int) (a3 : ByteArray) (a4 : Vector Int 8) (a5 : ByteArray) (ga1_0 ga1_1 ga1_2 : Nat) (b1_0 : Hd) (b1_1 : Hd) (b1_2 : (Nat → Hs)) {r : S.Dot × Int × S.vault_Vault} (h : S.vault_Vault_Put a1 a2 a3 a4 a5 = some r) (hR : ∀ w, Φ w → (rdS S.t_Deed w a1.l.l b1_0.sub ∧ slR (tInt .i64) w a1.ring.Plan.Targets b1_1 ∧ mpR S.t_Bag w a1.bags b1_2)) :
    SpecK Try.prog 36 [.pointer (pq ga1_0).a, .int .i64 a2, .string a3, .agg (S.t_A8_int.enc a4 (hf [])).toArray, .string a5] D [.blk ga1_0 (S.t_vault_Vault.enc a1 (hf [(pq ga1_1), b1_1, (pq ga1_2)])), .blk ga1_1 (S.t_ledger_Ledger.enc a1.l (hf [b1_0])), rowE S.t_Deed 106 a1.l.l b1_0, mpE Value.string S.t_Bag ga1_2 a1.bags b1_2] Φ (fun x : Hd × Hd × (Nat → Hs) => .tuple #[.agg (S.t_Dot.enc r.1 (hf [])).toArray, .int .i64 r.2.1]) (fun x => [.blk ga1_0 (S.t_vault_Vault.enc r.2.2 (hf [(pq ga1_1), x.2.1, (pq ga1_2)])), .blk ga1_1 (S.t_ledger_Ledger.enc r.2.2.l (hf [x.1])), rowE S.t_Deed 106 r.2.2.l.l x.1, mpE Value.string S.t_Bag ga1_2 r.2.2.bags x.2.2]) (fun x => []) (fun x w => Φ w ∧ (rdS S.t_Deed w r.2.2.l.l x.1.sub ∧ slR (tInt .i64) w r.2.2.ring.Plan.Targets x.2.1 ∧ mpR S.t_Bag w r.2.2.bags x.2.2)) := by
  refine enterK Try.func36 rfl Try.ntmps36 rfl ?_
  unfold S.vault_Vault_Put at h
  refine CW.reg ?_
  refine RO.eff (Wt.no rfl) rfl (EV.boxB (B := S.t_A8_int.enc a4 (hf [])) rfl rfl) ?_
  rintro _ _ _ ⟨g1, rfl, rfl, rfl⟩
  refine RO.eff (Wt.no rfl) rfl (EV.allocB (B := S.t_Dot.enc S.Dot.z (hf [])) Try.zeroValue45 rfl) ?_
  rintro _ _ _ ⟨g2, rfl, rfl, rfl⟩
  refine RO.val (Wt.no rfl) rfl (PV.assign rfl) ?_
  refine RO.nil ?_
  refine CW.seq ?_
  refine CW.block ?_
  replace h := bindS h
  obtain ⟨e35, h, hk34⟩ := h
  refine CW.meet (X := Bool) (fun x => [(0, .pointer (some ⟨ga1_0, 0, none⟩)), (1, .int .i64 a2), (2, .string a3), (4, .string a5), (8, .pointer (some ⟨g1, 0, none⟩)), (10, .pointer (some ⟨g2, 0, none⟩)), (11, .int .i64 0), (15, .bool x)]) (fun x => [frame D, .blk ga1_0 (S.t_vault_Vault.enc a1 (hf [(pq ga1_1), b1_1, (pq ga1_2)])), .blk ga1_1 (S.t_ledger_Ledger.enc a1.l (hf [b1_0])), rowE S.t_Deed 106 a1.l.l b1_0, mpE Value.string S.t_Bag ga1_2 a1.bags b1_2, .blk g1 (S.t_A8_int.enc a4 (hf [])), .blk g2 (S.t_Dot.enc S.Dot.z (hf []))]) (fun x w => (Φ w ∧ True)) (fun x => S.vault_Vault_Put_j2 a1 a3 a4 a2 a5 x = some r) ?_ ?_
  · skip
    by_cases hb36 : (decide (a2 < 0)) = true
    · replace h := iteT hb36 h
      refine CW.region ?_
      refine RO.val (Wt.no rfl) rfl (PV.move rfl) ?_
      refine RO.val (Wt.no rfl) rfl ((PV.eqlPtr Try.underlying46 rfl rfl).to rfl) ?_
      refine RO.val (Wt.no rfl) rfl (PV.move rfl) ?_
      refine RO.val (Wt.yes rfl rfl rfl rfl) rfl (PV.move rfl) ?_
      refine RO.val (Wt.yes rfl rfl rfl rfl) rfl (PV.lss rfl rfl) ?_
      refine RO.val (Wt.no rfl) rfl (PV.pickF rfl rfl) ?_
      refine RO.val (Wt.no rfl) rfl ((PV.move rfl).to (congrArg Value.bool hb36)) ?_
      refine RO.skip (Un.mk rfl rfl rfl rfl) rfl ?_
      refine RO.skip (Un.mk rfl rfl rfl rfl) rfl ?_
      refine RO.val (Wt.no rfl) rfl (PV.pickT rfl rfl) ?_
      refine RO.val (Wt.no rfl) rfl (PV.move rfl) ?_
      refine RO.skip (Un.mk rfl rfl rfl rfl) rfl ?_
      refine RO.skip (Un.mk rfl rfl rfl rfl) rfl ?_
      refine RO.skip (Un.mk rfl rfl rfl rfl) rfl ?_
      refine RO.val (Wt.no rfl) rfl (PV.pickT rfl rfl) ?_
      refine RO.val (Wt.no rfl) rfl (PV.assign rfl) ?_
      refine RO.nil ?_
      obtain rfl := Option.some.inj h
      refine QC.meetP true hk34 [0, 1, 2, 3, 4, 5, 6] (by decide) (by exact ⟨rfl, rfl, rfl, rfl, rfl, rfl, rfl, rfl, trivial⟩) rfl (fun w hΦ => hΦ)
    · replace hb36 := Bool.eq_false_iff.2 hb36
      replace h := iteF hb36 h
      by_cases hb37 : (decide (8 ≤ a2)) = true
      · replace h := iteT hb37 h
        refine CW.region ?_
        refine RO.val (Wt.no rfl) rfl (PV.move rfl) ?_
        refine RO.val (Wt.no rfl) rfl ((PV.eqlPtr Try.underlying46 rfl rfl).to rfl) ?_
        refine RO.val (Wt.no rfl) rfl (PV.move rfl) ?_
        refine RO.val (Wt.yes rfl rfl rfl rfl) rfl (PV.move rfl) ?_
        refine RO.val (Wt.yes rfl rfl rfl rfl) rfl (PV.lss rfl rfl) ?_
        refine RO.val (Wt.no rfl) rfl (PV.pickF rfl rfl) ?_
        refine RO.val (Wt.no rfl) rfl ((PV.move rfl).to (congrArg Value.bool hb36)) ?_
        refine RO.val (Wt.yes rfl rfl rfl rfl) rfl (PV.move rfl) ?_
        refine RO.val (Wt.yes rfl rfl rfl rfl) rfl (PV.geq rfl rfl) ?_
        refine RO.val (Wt.no rfl) rfl (PV.pickF rfl rfl) ?_
        refine RO.val (Wt.no rfl) rfl ((PV.move rfl).to (congrArg Value.bool hb37)) ?_
        refine RO.skip (Un.mk rfl rfl rfl rfl) rfl ?_
        refine RO.skip (Un.mk rfl rfl rfl rfl) rfl ?_
        refine RO.skip (Un.mk rfl rfl rfl rfl) rfl ?_
        refine RO.val (Wt.no rfl) rfl (PV.pickT rfl rfl) ?_
        refine RO.val (Wt.no rfl) rfl (PV.assign rfl) ?_
        refine RO.nil ?_
        obtain rfl := Option.some.inj h
        refine QC.meetP true hk34 [0, 1, 2, 3, 4, 5, 6] (by decide) (by exact ⟨rfl, rfl, rfl, rfl, rfl, rfl, rfl, rfl, trivial⟩) rfl (fun w hΦ => hΦ)
      · replace hb37 := Bool.eq_false_iff.2 hb37
        replace h := iteF hb37 h
        replace h := bindS h
        obtain ⟨v38, hx39, h⟩ := h
        refine CW.region ?_
        refine RO.val (Wt.no rfl) rfl (PV.move rfl) ?_
        refine RO.val (Wt.no rfl) rfl ((PV.eqlPtr Try.underlying46 rfl rfl).to rfl) ?_
        refine RO.val (Wt.no rfl) rfl (PV.move rfl) ?_
        refine RO.val (Wt.yes rfl rfl rfl rfl) rfl (PV.move rfl) ?_
        refine RO.val (Wt.yes rfl rfl rfl rfl) rfl (PV.lss rfl rfl) ?_
        refine RO.val (Wt.no rfl) rfl (PV.pickF rfl rfl) ?_
        refine RO.val (Wt.no rfl) rfl ((PV.move rfl).to (congrArg Value.bool hb36)) ?_
        refine RO.val (Wt.yes rfl rfl rfl rfl) rfl (PV.move rfl) ?_
        refine RO.val (Wt.yes rfl rfl rfl rfl) rfl (PV.geq rfl rfl) ?_
        refine RO.val (Wt.no rfl) rfl (PV.pickF rfl rfl) ?_
        refine RO.val (Wt.no rfl) rfl ((PV.move rfl).to (congrArg Value.bool hb37)) ?_
        refine RO.val (Wt.yes rfl rfl rfl rfl) rfl (PV.move rfl) ?_
        refine RO.eff (Wt.yes rfl rfl rfl rfl) rfl (EV.call (K := _) Try.call8 rfl (SpecK.callV (W_spot_May a3 hx39))) ?_
        rintro _ _ _ ⟨_, rfl, rfl, rfl⟩
        refine RO.val (Wt.yes rfl rfl rfl rfl) rfl (PV.not rfl) ?_
        refine RO.val (Wt.no rfl) rfl (PV.pickF rfl rfl) ?_
        refine RO.val (Wt.no rfl) rfl (PV.assign rfl) ?_
        refine RO.nil ?_
        obtain rfl := Option.some.inj h
        refine QC.meetP (!v38) hk34 [0, 1, 2, 3, 4, 5, 6] (by decide) (by exact ⟨rfl, rfl, rfl, rfl, rfl, rfl, rfl, rfl, trivial⟩) rfl (fun w hΦ => hΦ)
  · rintro v4 h
    try dsimp only at h ⊢
    unfold S.vault_Vault_Put_j2 at h
    refine CW.cond rfl (fun hb5 => ?_) (fun hb5 => ?_)
    · replace h := iteT hb5 h
      subst hb5
      refine CW.reg ?_
      refine RO.val (Wt.no rfl) rfl (PV.buildS (B := S.t_Dot.enc S.Dot.z (hf [])) (xs := []) [] Try.BT45 rfl rfl rfl (by simp) trivial rfl) ?_
      refine RO.eff (Wt.no rfl) rfl (EV.storeW (B := S.t_Dot.enc S.Dot.z (hf [])) 6 Try.TF45 rfl rfl rfl (by exact S.t_Dot.len S.Dot.z (hf [])) (by exact S.t_Dot.one S.Dot.z (hf [])) (S.t_Dot.len S.Dot.z (hf [])) rfl) ?_
      rintro _ _ _ ⟨rfl, rfl, rfl⟩
      refine RO.val (Wt.no rfl) rfl (PV.assign rfl) ?_
      refine RO.nil ?_
      refine CW.ret ?_
      refine QC.blk_r ?_
      refine QC.then_r ?_
      obtain rfl := Option.some.inj h
      exact retP2 (Ψ := fun w => Φ w ∧ (rdS S.t_Deed w a1.l.l b1_0.sub ∧ slR (tInt .i64) w a1.ring.Plan.Targets b1_1 ∧ mpR S.t_Bag w a1.bags b1_2)) [0, 1, 2, 3, 4] (by decide) rfl (RV.cell (A := S.t_Dot.enc S.Dot.z (hf [])) 6 rfl Try.TF45 rfl (S.t_Dot.len _ _) (by decide)) (RV.tmp rfl) rfl (fun w hΦ => ⟨hΦ.1, (hR w (hΦ.1)).1, (hR w (hΦ.1)).2.1, (hR w (hΦ.1)).2.2⟩) ⟨(b1_0, b1_1, b1_2), rfl, rfl, rfl⟩
    · replace h := iteF hb5 h
      subst hb5
      refine CW.reg ?_
      refine RO.val (Wt.no rfl) rfl (PV.move rfl) ?_
      refine RO.val (Wt.no rfl) rfl (PV.nilCheck rfl) ?_
      refine RO.val (Wt.no rfl) rfl (PV.fieldAddr Try.fa101_4 rfl) ?_
      refine RO.val (Wt.no rfl) rfl (PV.loadM (l := [.int .i64 a1.dots]) 1 Try.TF3 rfl rfl (cut_vault_Vault_dots _ _) rfl (by decide)) ?_
      refine RO.val (Wt.no rfl) rfl (PV.eql rfl rfl) ?_
      refine RO.val (Wt.no rfl) rfl (PV.assign rfl) ?_
      refine RO.nil ?_
      refine CW.cond rfl (fun hb6 => ?_) (fun hb6 => ?_)
      · replace h := iteT hb6 h
        refine CW.reg ?_
        refine RO.val (Wt.no rfl) rfl (PV.buildS (B := S.t_Dot.enc S.Dot.z (hf [])) (xs := []) [] Try.BT45 rfl rfl rfl (by simp) trivial rfl) ?_
        refine RO.eff (Wt.no rfl) rfl (EV.storeW (B := S.t_Dot.enc S.Dot.z (hf [])) 6 Try.TF45 rfl rfl rfl (by exact S.t_Dot.len S.Dot.z (hf [])) (by exact S.t_Dot.one S.Dot.z (hf [])) (S.t_Dot.len S.Dot.z (hf [])) rfl) ?_
        rintro _ _ _ ⟨rfl, rfl, rfl⟩
        refine RO.val (Wt.no rfl) rfl (PV.assign rfl) ?_
        refine RO.nil ?_
        refine CW.ret ?_
        refine QC.blk_r ?_
        refine QC.then_r ?_
        obtain rfl := Option.some.inj h
        exact retP2 (Ψ := fun w => Φ w ∧ (rdS S.t_Deed w a1.l.l b1_0.sub ∧ slR (tInt .i64) w a1.ring.Plan.Targets b1_1 ∧ mpR S.t_Bag w a1.bags b1_2)) [0, 1, 2, 3, 4] (by decide) rfl (RV.cell (A := S.t_Dot.enc S.Dot.z (hf [])) 6 rfl Try.TF45 rfl (S.t_Dot.len _ _) (by decide)) (RV.tmp rfl) rfl (fun w hΦ => ⟨hΦ.1, (hR w (hΦ.1)).1, (hR w (hΦ.1)).2.1, (hR w (hΦ.1)).2.2⟩) ⟨(b1_0, b1_1, b1_2), rfl, rfl, rfl⟩
      · replace h := iteF hb6 h
        replace h := bindS h
        obtain ⟨v7, hx8, h⟩ := h
        refine CW.reg ?_
        refine RO.val (Wt.no rfl) rfl (PV.move rfl) ?_
        refine RO.val (Wt.no rfl) rfl (PV.move rfl) ?_
        refine RO.eff (Wt.no rfl) rfl (EV.call (K := _) Try.call79 rfl (SpecK.call [1, 2, 3, 4] (fun x : Unit => [frame D, .blk ga1_0 (S.t_vault_Vault.enc a1 (hf [(pq ga1_1), b1_1, (pq ga1_2)])), .blk ga1_1 (S.t_ledger_Ledger.enc a1.l (hf [b1_0])), rowE S.t_Deed 106 a1.l.l b1_0, mpE Value.string S.t_Bag ga1_2 a1.bags b1_2, .blk g1 (S.t_A8_int.enc a4 (hf [])), .blk g2 (S.t_Dot.enc S.Dot.z (hf []))]) (Outs.cons rfl (Outs.cons rfl (Outs.cons rfl (Outs.cons rfl Outs.nil)))) (fun _ => (Outs.cons rfl (Outs.cons rfl (Outs.cons rfl (Outs.cons rfl Outs.nil))))) (W_vault_Vault_full a1 a3 ga1_0 ga1_1 ga1_2 b1_0 b1_1 b1_2 hx8 (fun w hm hΦ => ⟨(hR w (hΦ.1)).1, (hR w (hΦ.1)).2.1, (hR w (hΦ.1)).2.2⟩)))) ?_
        rintro _ _ _ ⟨_, rfl, rfl, rfl⟩
        refine RO.val (Wt.no rfl) rfl (PV.assign rfl) ?_
        refine RO.nil ?_
        refine CW.cond rfl (fun hb9 => ?_) (fun hb9 => ?_)
        · replace h := iteT hb9 h
          subst hb9
          refine CW.reg ?_
          refine RO.val (Wt.no rfl) rfl (PV.buildS (B := S.t_Dot.enc S.Dot.z (hf [])) (xs := []) [] Try.BT45 rfl rfl rfl (by simp) trivial rfl) ?_
          refine RO.eff (Wt.no rfl) rfl (EV.storeW (B := S.t_Dot.enc S.Dot.z (hf [])) 6 Try.TF45 rfl rfl rfl (by exact S.t_Dot.len S.Dot.z (hf [])) (by exact S.t_Dot.one S.Dot.z (hf [])) (S.t_Dot.len S.Dot.z (hf [])) rfl) ?_
          rintro _ _ _ ⟨rfl, rfl, rfl⟩
          refine RO.val (Wt.no rfl) rfl (PV.assign rfl) ?_
          refine RO.nil ?_
          refine CW.ret ?_
          refine QC.blk_r ?_
          refine QC.then_r ?_
          obtain rfl := Option.some.inj h
          exact retP2 (Ψ := fun w => Φ w ∧ (rdS S.t_Deed w a1.l.l b1_0.sub ∧ slR (tInt .i64) w a1.ring.Plan.Targets b1_1 ∧ mpR S.t_Bag w a1.bags b1_2)) [0, 1, 2, 3, 4] (by decide) rfl (RV.cell (A := S.t_Dot.enc S.Dot.z (hf [])) 6 rfl Try.TF45 rfl (S.t_Dot.len _ _) (by decide)) (RV.tmp rfl) rfl (fun w hΦ => ⟨hΦ.1, (hR w (hΦ.1)).1, (hR w (hΦ.1)).2.1, (hR w (hΦ.1)).2.2⟩) ⟨(b1_0, b1_1, b1_2), rfl, rfl, rfl⟩
        · replace h := iteF hb9 h
          subst hb9
          refine CW.skip ?_
          refine QC.blk_n ?_
          refine QC.then_n ?_
          refine CW.reg ?_
          refine RO.val (Wt.no rfl) rfl (PV.move rfl) ?_
          refine RO.val (Wt.no rfl) rfl (PV.move rfl) ?_
          refine RO.val (Wt.no rfl) rfl (PV.nilCheck rfl) ?_
          refine RO.val (Wt.no rfl) rfl (PV.fieldAddr Try.fa101_4 rfl) ?_
          refine RO.val (Wt.no rfl) rfl (PV.loadM (l := [.int .i64 a1.dots]) 1 Try.TF3 rfl rfl (cut_vault_Vault_dots _ _) rfl (by decide)) ?_
          refine RO.val (Wt.no rfl) rfl (PV.addW rfl rfl) ?_
          refine RO.val (Wt.no rfl) rfl (PV.buildS (B := S.t_Dot.enc ({ Node := a2, N := (w64 (a1.dots + 1)) } : S.Dot) (hf [])) (xs := [.tmp 44, .tmp 49]) [(0, 0, 1), (1, 1, 1)] Try.BT45 rfl rfl rfl (by decide) ⟨rfl, rfl, rfl, rfl, trivial⟩ rfl) ?_
          refine RO.eff (Wt.no rfl) rfl (EV.allocB (B := S.t_Dot.enc S.Dot.z (hf [])) Try.zeroValue45 rfl) ?_
          rintro _ _ _ ⟨g10, rfl, rfl, rfl⟩
          refine RO.eff (Wt.no rfl) rfl (EV.storeW (B := S.t_Dot.enc ({ Node := a2, N := (w64 (a1.dots + 1)) } : S.Dot) (hf [])) 7 Try.TF45 rfl rfl rfl (by exact S.t_Dot.len ({ Node := a2, N := (w64 (a1.dots + 1)) } : S.Dot) (hf [])) (by exact S.t_Dot.one ({ Node := a2, N := (w64 (a1.dots + 1)) } : S.Dot) (hf [])) (S.t_Dot.len S.Dot.z (hf [])) rfl) ?_
          rintro _ _ _ ⟨rfl, rfl, rfl⟩
          refine RO.nil ?_
          replace h := bindS h
          obtain ⟨e27, h, hk26⟩ := h
          refine CW.meet (X := S.Bag × Int × Hd × Nat) (fun x => [(0, .pointer (some ⟨ga1_0, 0, none⟩)), (2, .string a3), (10, .pointer (some ⟨g2, 0, none⟩)), (11, .int .i64 0), (12, .pointer (some ⟨g10, 0, none⟩)), (13, .pointer (some ⟨x.2.2.2, 0, none⟩)), (14, .int .i64 x.2.1)]) (fun x => [frame D, .blk ga1_0 (S.t_vault_Vault.enc a1 (hf [(pq ga1_1), b1_1, (pq ga1_2)])), .blk ga1_1 (S.t_ledger_Ledger.enc a1.l (hf [b1_0])), rowE S.t_Deed 106 a1.l.l b1_0, mpE Value.string S.t_Bag ga1_2 a1.bags b1_2, .blk g1 (S.t_A8_int.enc a4 (hf [])), .blk g2 (S.t_Dot.enc S.Dot.z (hf [])), .blk g10 (S.t_Dot.enc ({ Node := a2, N := (w64 (a1.dots + 1)) } : S.Dot) (hf [])), .blk x.2.2.2 (S.t_Bag.enc x.1 (hf [x.2.2.1]))]) (fun x w => (Φ w ∧ True) ∧ (slR S.t_Val w x.1.Values x.2.2.1)) (fun x => S.vault_Vault_Put_j3 a1 a3 a2 x.1 x.2.1 = some r) ?_ ?_
          · skip
            replace h := bindS h
            obtain ⟨⟨v28, v29⟩, hx30, h⟩ := h
            dsimp only at h
            refine CW.regionD (pickM [0, 1, 2, 3, 4, 5, 6, 7] _) _ (by kernel_rfl) (St.of (by decide) rfl (fun _ h => h)) ?_
            refine RD.take 0 rfl (by kernel_rfl) (by kernel_rfl) (by kernel_rfl) (Wt.no rfl) rfl (PV.move rfl) ?_
            refine RD.take 1 rfl (by kernel_rfl) (by kernel_rfl) (by kernel_rfl) (Wt.no rfl) rfl (PV.nilCheck rfl) ?_
            refine RD.take 2 rfl (by kernel_rfl) (by kernel_rfl) (by kernel_rfl) (Wt.no rfl) rfl (PV.fieldAddr Try.fa101_5 rfl) ?_
            refine RD.take 3 rfl (by kernel_rfl) (by kernel_rfl) (by kernel_rfl) (Wt.no rfl) rfl (PV.loadM (l := [.map (mb (pq ga1_2))]) 1 Try.TF99 rfl rfl (cut_vault_Vault_bags _ _) rfl (by decide)) ?_
            refine RD.take 4 rfl (by kernel_rfl) (by kernel_rfl) (by kernel_rfl) (Wt.no rfl) rfl (PV.move rfl) ?_
            refine RD.take 5 rfl (by kernel_rfl) (by kernel_rfl) (by kernel_rfl) (Wt.no rfl) rfl (PV.lookupQ (kv := Value.string) (tv := S.t_Bag) (l := a1.bags) (hh := b1_2) (k := a3) 4 (strKey Try.underlying9) str_dom str_inj Try.underlying99 Try.zeroValue40 rfl rfl rfl) ?_
            refine RD.take 6 rfl (by kernel_rfl) (by kernel_rfl) (by kernel_rfl) (Wt.no rfl) rfl (PV.loadM (l := S.t_A8_int.enc a4 (hf [])) 5 Try.TF37 rfl rfl (cut_self (S.t_A8_int.len _ _)) rfl (by decide)) ?_
            refine RD.take 7 rfl (by kernel_rfl) (by kernel_rfl) (by kernel_rfl) (Wt.no rfl) rfl (PV.loadM (l := S.t_Dot.enc ({ Node := a2, N := (w64 (a1.dots + 1)) } : S.Dot) (hf [])) 7 Try.TF45 rfl rfl (cut_self (S.t_Dot.len _ _)) rfl (by decide)) ?_
            refine RD.take 8 rfl (by kernel_rfl) (by kernel_rfl) (by kernel_rfl) (Wt.no rfl) rfl (PV.move rfl) ?_
            refine RD.two 9 13 (by kernel_rfl) ?_ ?_
            · skip
              refine Up.eff rfl (Wt.no rfl) rfl (EV.call (K := _) Try.call62 rfl (SpecK.callV (W_bag_Put ((mget a1.bags a3).getD S.Bag.z) a4 ({ Node := a2, N := (w64 (a1.dots + 1)) } : S.Dot) a5 (mgetH a1.bags b1_2 a3 0) hx30 (fun w hm hΦ => ((mpR.get (tv := S.t_Bag) (hR w (hΦ.1)).2.2 a3)))))) ?_ ?_
              · rintro _ _ _ ⟨q31, rfl, rfl, rfl⟩; exact St.of' (by decide) (L' := [0, 1, 2, 3, 4, 5, 6, 7]) rfl (fun _ h => h.1)
              rintro _ _ _ ⟨q31, rfl, rfl, rfl⟩
              refine RD.take 10 rfl (by kernel_rfl) (by kernel_rfl) (by kernel_rfl) (Wt.no rfl) rfl (PV.move rfl) ?_
              refine RD.take 11 rfl (by kernel_rfl) (by kernel_rfl) (by kernel_rfl) (Wt.no rfl) rfl (PV.extract rfl rfl) ?_
              refine RD.take 12 rfl (by kernel_rfl) (by kernel_rfl) (by kernel_rfl) (Wt.no rfl) rfl (PV.extract rfl rfl) ?_
              refine RD.one 13 (by kernel_rfl) ?_
              refine Up.eff rfl (Wt.no rfl) rfl (EV.allocB (B := S.t_Bag.enc S.Bag.z (hf [Hd.z])) Try.zeroValue40 rfl) ?_ ?_
              · rintro _ _ _ ⟨g33, rfl, rfl, rfl⟩; exact St.of' (by decide) (L' := [0, 1, 2, 3, 4, 5, 6, 7]) rfl (fun _ h => h.1)
              rintro _ _ _ ⟨g33, rfl, rfl, rfl⟩
              refine RD.one 14 (by kernel_rfl) ?_
              refine Up.eff rfl (Wt.no rfl) rfl (EV.storeW (B := S.t_Bag.enc v28 (hf [q31])) 8 Try.TF40 rfl rfl rfl (by exact S.t_Bag.len v28 (hf [q31])) (by exact S.t_Bag.one v28 (hf [q31])) (S.t_Bag.len S.Bag.z (hf [Hd.z])) rfl) ?_ ?_
              · rintro _ _ _ ⟨rfl, rfl, rfl⟩; exact St.of' (by decide) (L' := [0, 1, 2, 3, 4, 5, 6, 7]) rfl (fun _ h => h.1)
              rintro _ _ _ ⟨rfl, rfl, rfl⟩
              refine RD.take 15 rfl (by kernel_rfl) (by kernel_rfl) (by kernel_rfl) (Wt.no rfl) rfl (PV.assign rfl) ?_
              refine RD.done (by kernel_rfl) ?_
              obtain rfl := Option.some.inj h
              refine QC.meetP (v28, v29, q31, g33) hk26 [0, 1, 2, 3, 4, 5, 6, 7, 8] (by decide) (by exact ⟨rfl, rfl, rfl, rfl, rfl, rfl, rfl, trivial⟩) rfl (fun w hΦ => ⟨hΦ.1, (hΦ.2)⟩)
            · skip
              refine Up.eff rfl (Wt.no rfl) rfl (EV.allocB (B := S.t_Bag.enc S.Bag.z (hf [Hd.z])) Try.zeroValue40 rfl) ?_ ?_
              · rintro _ _ _ ⟨g33, rfl, rfl, rfl⟩; exact St.of' (by decide) (L' := [0, 1, 2, 3, 4, 5, 6, 7]) rfl (fun _ h => h)
              rintro _ _ _ ⟨g33, rfl, rfl, rfl⟩
              refine RD.one 9 (by kernel_rfl) ?_
              refine Up.eff rfl (Wt.no rfl) rfl (EV.call (K := _) Try.call62 rfl (SpecK.callV (W_bag_Put ((mget a1.bags a3).getD S.Bag.z) a4 ({ Node := a2, N := (w64 (a1.dots + 1)) } : S.Dot) a5 (mgetH a1.bags b1_2 a3 0) hx30 (fun w hm hΦ => ((mpR.get (tv := S.t_Bag) (hR w (hΦ.1)).2.2 a3)))))) ?_ ?_
              · rintro _ _ _ ⟨q31, rfl, rfl, rfl⟩; exact St.of' (by decide) (L' := [0, 1, 2, 3, 4, 5, 6, 7]) rfl (fun _ h => h.1)
              rintro _ _ _ ⟨q31, rfl, rfl, rfl⟩
              refine RD.take 10 rfl (by kernel_rfl) (by kernel_rfl) (by kernel_rfl) (Wt.no rfl) rfl (PV.move rfl) ?_
              refine RD.take 11 rfl (by kernel_rfl) (by kernel_rfl) (by kernel_rfl) (Wt.no rfl) rfl (PV.extract rfl rfl) ?_
              refine RD.take 12 rfl (by kernel_rfl) (by kernel_rfl) (by kernel_rfl) (Wt.no rfl) rfl (PV.extract rfl rfl) ?_
              refine RD.one 14 (by kernel_rfl) ?_
              refine Up.eff rfl (Wt.no rfl) rfl (EV.storeW (B := S.t_Bag.enc v28 (hf [q31])) 8 Try.TF40 rfl rfl rfl (by exact S.t_Bag.len v28 (hf [q31])) (by exact S.t_Bag.one v28 (hf [q31])) (S.t_Bag.len S.Bag.z (hf [Hd.z])) rfl) ?_ ?_
              · rintro _ _ _ ⟨rfl, rfl, rfl⟩; exact St.of' (by decide) (L' := [0, 1, 2, 3, 4, 5, 6, 7]) rfl (fun _ h => h.1)
              rintro _ _ _ ⟨rfl, rfl, rfl⟩
              refine RD.take 15 rfl (by kernel_rfl) (by kernel_rfl) (by kernel_rfl) (Wt.no rfl) rfl (PV.assign rfl) ?_
              refine RD.done (by kernel_rfl) ?_
              obtain rfl := Option.some.inj h
              refine QC.meetP (v28, v29, q31, g33) hk26 [0, 1, 2, 3, 4, 5, 6, 7, 8] (by decide) (by exact ⟨rfl, rfl, rfl, rfl, rfl, rfl, rfl, trivial⟩) rfl (fun w hΦ => ⟨hΦ.1, (hΦ.2)⟩)
          · rintro ⟨v13, v15, q14, g12⟩ h
            try dsimp only at h ⊢
            unfold S.vault_Vault_Put_j3 at h
            refine CW.seq ?_
            refine CW.reg ?_
            refine RO.val (Wt.no rfl) rfl (PV.move rfl) ?_
            refine RO.val (Wt.no rfl) rfl (PV.eql rfl rfl) ?_
            refine RO.nil ?_
            refine CW.cond rfl (fun hb16 => ?_) (fun hb16 => ?_)
            · replace h := iteT hb16 h
              replace h := bindS h
              obtain ⟨⟨v17, v18⟩, hx19, h⟩ := h
              dsimp only at h
              refine CW.region ?_
              refine RO.val (Wt.no rfl) rfl (PV.move rfl) ?_
              refine RO.val (Wt.no rfl) rfl (PV.move rfl) ?_
              refine RO.val (Wt.no rfl) rfl (PV.loadM (l := S.t_Bag.enc v13 (hf [q14])) 8 Try.TF40 rfl rfl (cut_self (S.t_Bag.len _ _)) rfl (by decide)) ?_
              refine RO.val (Wt.no rfl) rfl (PV.fieldAddr Try.fa45_1 rfl) ?_
              refine RO.val (Wt.no rfl) rfl (PV.loadM (l := [.int .i64 (w64 (a1.dots + 1))]) 7 Try.TF3 rfl rfl (cut_Dot_N _ _) rfl (by decide)) ?_
              refine RO.val (Wt.no rfl) rfl (PV.buildS (B := S.t_Deed.enc ({ S.Deed.z with Kind := 3, N := (w64 (a1.dots + 1)), Key := a3, Bag := v13 } : S.Deed) (hf [q14, Hd.z])) (xs := [.const (.int .i64 3), .tmp 67, .tmp 68, .tmp 70]) [(0, 0, 1), (2, 2, 1), (3, 3, 9), (1, 1, 1)] Try.BT106 rfl rfl rfl (by decide) ⟨rfl, rfl, rfl, rfl, rfl, rfl, rfl, rfl, trivial⟩ rfl) ?_
              refine RO.eff (Wt.no rfl) rfl (EV.call (K := _) Try.call54 rfl (SpecK.call [1, 2, 3, 4] (fun x : Hd × Hd × (Nat → Hs) => [frame D, .blk ga1_0 (S.t_vault_Vault.enc v18 (hf [(pq ga1_1), x.2.1, (pq ga1_2)])), .blk ga1_1 (S.t_ledger_Ledger.enc v18.l (hf [x.1])), rowE S.t_Deed 106 v18.l.l x.1, mpE Value.string S.t_Bag ga1_2 v18.bags x.2.2, .blk g1 (S.t_A8_int.enc a4 (hf [])), .blk g2 (S.t_Dot.enc S.Dot.z (hf [])), .blk g10 (S.t_Dot.enc ({ Node := a2, N := (w64 (a1.dots + 1)) } : S.Dot) (hf [])), .blk g12 (S.t_Bag.enc v13 (hf [q14]))]) (Outs.cons rfl (Outs.cons rfl (Outs.cons rfl (Outs.cons rfl Outs.nil)))) (fun _ => (Outs.cons rfl (Outs.cons rfl (Outs.cons rfl (Outs.cons rfl Outs.nil))))) (W_vault_Vault_write a1 ({ S.Deed.z with Kind := 3, N := (w64 (a1.dots + 1)), Key := a3, Bag := v13 } : S.Deed) ga1_0 ga1_1 ga1_2 b1_0 b1_1 b1_2 q14 Hd.z hx19 (fun w hΦ => ⟨(hR w (hΦ.1.1)).1, (hR w (hΦ.1.1)).2.1, (hR w (hΦ.1.1)).2.2, (hΦ.2), (slR.nil _ _)⟩)))) ?_
              rintro _ _ _ ⟨⟨q20, q21, q22⟩, rfl, rfl, rfl⟩
              refine RO.val (Wt.no rfl) rfl (PV.assign rfl) ?_
              refine RO.nil ?_
              refine QC.then_n ?_
              refine CW.seq ?_
              refine CW.reg ?_
              refine RO.val (Wt.no rfl) rfl (PV.move rfl) ?_
              refine RO.val (Wt.no rfl) rfl (PV.neq rfl rfl) ?_
              refine RO.nil ?_
              refine CW.cond rfl (fun hb24 => ?_) (fun hb24 => ?_)
              · replace h := iteT hb24 h
                refine CW.reg ?_
                refine RO.val (Wt.no rfl) rfl (PV.buildS (B := S.t_Dot.enc S.Dot.z (hf [])) (xs := []) [] Try.BT45 rfl rfl rfl (by simp) trivial rfl) ?_
                refine RO.val (Wt.no rfl) rfl (PV.move rfl) ?_
                refine RO.eff (Wt.no rfl) rfl (EV.storeW (B := S.t_Dot.enc S.Dot.z (hf [])) 6 Try.TF45 rfl rfl rfl (by exact S.t_Dot.len S.Dot.z (hf [])) (by exact S.t_Dot.one S.Dot.z (hf [])) (S.t_Dot.len S.Dot.z (hf [])) rfl) ?_
                rintro _ _ _ ⟨rfl, rfl, rfl⟩
                refine RO.val (Wt.no rfl) rfl (PV.assign rfl) ?_
                refine RO.nil ?_
                refine CW.ret ?_
                refine QC.then_r ?_
                obtain rfl := Option.some.inj h
                exact retP2 (Ψ := fun w => Φ w ∧ (rdS S.t_Deed w v18.l.l q20.sub ∧ slR (tInt .i64) w v18.ring.Plan.Targets q21 ∧ mpR S.t_Bag w v18.bags q22)) [0, 1, 2, 3, 4] (by decide) rfl (RV.cell (A := S.t_Dot.enc S.Dot.z (hf [])) 6 rfl Try.TF45 rfl (S.t_Dot.len _ _) (by decide)) (RV.tmp rfl) rfl (fun w hΦ => ⟨hΦ.1.1.1, (hΦ.2.1), (hΦ.2.2.1), (hΦ.2.2.2)⟩) ⟨(q20, q21, q22), rfl, rfl, rfl⟩
              · replace h := iteF hb24 h
                refine CW.skip ?_
                refine QC.then_n ?_
                refine CW.reg ?_
                refine RO.val (Wt.no rfl) rfl (PV.loadM (l := S.t_Dot.enc ({ Node := a2, N := (w64 (a1.dots + 1)) } : S.Dot) (hf [])) 7 Try.TF45 rfl rfl (cut_self (S.t_Dot.len _ _)) rfl (by decide)) ?_
                refine RO.eff (Wt.no rfl) rfl (EV.storeW (B := S.t_Dot.enc ({ Node := a2, N := (w64 (a1.dots + 1)) } : S.Dot) (hf [])) 6 Try.TF45 rfl rfl rfl (by exact S.t_Dot.len ({ Node := a2, N := (w64 (a1.dots + 1)) } : S.Dot) (hf [])) (by exact S.t_Dot.one ({ Node := a2, N := (w64 (a1.dots + 1)) } : S.Dot) (hf [])) (S.t_Dot.len S.Dot.z (hf [])) rfl) ?_
                rintro _ _ _ ⟨rfl, rfl, rfl⟩
                refine RO.val (Wt.no rfl) rfl (PV.assign rfl) ?_
                refine RO.nil ?_
                refine CW.ret ?_
                obtain rfl := Option.some.inj h
                exact retP2 (Ψ := fun w => Φ w ∧ (rdS S.t_Deed w v18.l.l q20.sub ∧ slR (tInt .i64) w v18.ring.Plan.Targets q21 ∧ mpR S.t_Bag w v18.bags q22)) [0, 1, 2, 3, 4] (by decide) rfl (RV.cell (A := S.t_Dot.enc ({ Node := a2, N := (w64 (a1.dots + 1)) } : S.Dot) (hf [])) 6 rfl Try.TF45 rfl (S.t_Dot.len _ _) (by decide)) (RV.tmp rfl) rfl (fun w hΦ => ⟨hΦ.1.1.1, (hΦ.2.1), (hΦ.2.2.1), (hΦ.2.2.2)⟩) ⟨(q20, q21, q22), rfl, rfl, rfl⟩
            · replace h := iteF hb16 h
              refine CW.skip ?_
              refine QC.then_n ?_
              refine CW.seq ?_
              refine CW.reg ?_
              refine RO.val (Wt.no rfl) rfl (PV.move rfl) ?_
              refine RO.val (Wt.no rfl) rfl (PV.neq rfl rfl) ?_
              refine RO.nil ?_
              refine CW.cond rfl (fun hb25 => ?_) (fun hb25 => ?_)
              · replace h := iteT hb25 h
                refine CW.reg ?_
                refine RO.val (Wt.no rfl) rfl (PV.buildS (B := S.t_Dot.enc S.Dot.z (hf [])) (xs := []) [] Try.BT45 rfl rfl rfl (by simp) trivial rfl) ?_
                refine RO.val (Wt.no rfl) rfl (PV.move rfl) ?_
                refine RO.eff (Wt.no rfl) rfl (EV.storeW (B := S.t_Dot.enc S.Dot.z (hf [])) 6 Try.TF45 rfl rfl rfl (by exact S.t_Dot.len S.Dot.z (hf [])) (by exact S.t_Dot.one S.Dot.z (hf [])) (S.t_Dot.len S.Dot.z (hf [])) rfl) ?_
                rintro _ _ _ ⟨rfl, rfl, rfl⟩
                refine RO.val (Wt.no rfl) rfl (PV.assign rfl) ?_
                refine RO.nil ?_
                refine CW.ret ?_
                refine QC.then_r ?_
                obtain rfl := Option.some.inj h
                exact retP2 (Ψ := fun w => Φ w ∧ (rdS S.t_Deed w a1.l.l b1_0.sub ∧ slR (tInt .i64) w a1.ring.Plan.Targets b1_1 ∧ mpR S.t_Bag w a1.bags b1_2)) [0, 1, 2, 3, 4] (by decide) rfl (RV.cell (A := S.t_Dot.enc S.Dot.z (hf [])) 6 rfl Try.TF45 rfl (S.t_Dot.len _ _) (by decide)) (RV.tmp rfl) rfl (fun w hΦ => ⟨hΦ.1.1, (hR w (hΦ.1.1)).1, (hR w (hΦ.1.1)).2.1, (hR w (hΦ.1.1)).2.2⟩) ⟨(b1_0, b1_1, b1_2), rfl, rfl, rfl⟩
              · replace h := iteF hb25 h
                refine CW.skip ?_
                refine QC.then_n ?_
                refine CW.reg ?_
                refine RO.val (Wt.no rfl) rfl (PV.loadM (l := S.t_Dot.enc ({ Node := a2, N := (w64 (a1.dots + 1)) } : S.Dot) (hf [])) 7 Try.TF45 rfl rfl (cut_self (S.t_Dot.len _ _)) rfl (by decide)) ?_
                refine RO.eff (Wt.no rfl) rfl (EV.storeW (B := S.t_Dot.enc ({ Node := a2, N := (w64 (a1.dots + 1)) } : S.Dot) (hf [])) 6 Try.TF45 rfl rfl rfl (by exact S.t_Dot.len ({ Node := a2, N := (w64 (a1.dots + 1)) } : S.Dot) (hf [])) (by exact S.t_Dot.one ({ Node := a2, N := (w64 (a1.dots + 1)) } : S.Dot) (hf [])) (S.t_Dot.len S.Dot.z (hf [])) rfl) ?_
                rintro _ _ _ ⟨rfl, rfl, rfl⟩
                refine RO.val (Wt.no rfl) rfl (PV.assign rfl) ?_
                refine RO.nil ?_
                refine CW.ret ?_
                obtain rfl := Option.some.inj h
                exact retP2 (Ψ := fun w => Φ w ∧ (rdS S.t_Deed w a1.l.l b1_0.sub ∧ slR (tInt .i64) w a1.ring.Plan.Targets b1_1 ∧ mpR S.t_Bag w a1.bags b1_2)) [0, 1, 2, 3, 4] (by decide) rfl (RV.cell (A := S.t_Dot.enc ({ Node := a2, N := (w64 (a1.dots + 1)) } : S.Dot) (hf [])) 6 rfl Try.TF45 rfl (S.t_Dot.len _ _) (by decide)) (RV.tmp rfl) rfl (fun w hΦ => ⟨hΦ.1.1, (hR w (hΦ.1.1)).1, (hR w (hΦ.1.1)).2.1, (hR w (hΦ.1.1)).2.2⟩) ⟨(b1_0, b1_1, b1_2), rfl, rfl, rfl⟩

theorem W_law18_awake {D : Mem} {Φ : World → Prop} {r : Bool} (h : S.law18_awake = some r) :
    SpecK Try.prog 35 [] D [] Φ (fun x : Unit => .bool r) (fun x => []) (fun x => []) (fun _ => Φ) := by
  refine enterK Try.func35 rfl Try.ntmps35 rfl ?_
  unfold S.law18_awake at h
  refine CW.reg ?_
  refine RO.val (Wt.no rfl) rfl (PV.assign rfl) ?_
  refine RO.nil ?_
  replace h := bindS h
  obtain ⟨v1, hx2, h⟩ := h
  refine CW.reg ?_
  refine RO.eff (Wt.no rfl) rfl (EV.call (K := _) Try.call15 rfl (SpecK.call0 (W_ledger_New 9 hx2))) ?_
  rintro _ _ _ ⟨⟨g3, q4⟩, rfl, rfl, rfl⟩
  refine RO.val (Wt.no rfl) rfl (PV.assign rfl) ?_
  refine RO.nil ?_
  replace h := bindS h
  obtain ⟨⟨v6, v7⟩, hx8, h⟩ := h
  dsimp only at h
  refine CW.reg ?_
  refine RO.val (Wt.no rfl) rfl (PV.move rfl) ?_
  refine RO.eff (Wt.no rfl) rfl (EV.call (K := _) Try.call14 rfl (SpecK.call [1, 2] (fun x : Nat × Nat × Hd × (Nat → Hs) × Hd => [frame D, .blk g3 (S.t_ledger_Ledger.enc v7 (hf [x.2.2.2.2])), rowE S.t_Deed 106 v7.l x.2.2.2.2]) (Outs.cons rfl (Outs.cons rfl Outs.nil)) (fun _ => (Outs.cons rfl (Outs.cons rfl Outs.nil))) (W_vault_Open v1 g3 q4 hx8 (fun w hΦ => (hΦ.2))))) ?_
  rintro _ _ _ ⟨⟨g9, g10, q11, q12, q13⟩, rfl, rfl, rfl⟩
  refine RO.val (Wt.no rfl) rfl (PV.assign rfl) ?_
  refine RO.nil ?_
  replace h := bindS h
  obtain ⟨⟨v15, v16, v17⟩, hx18, h⟩ := h
  dsimp only at h
  refine CW.reg ?_
  refine RO.val (Wt.no rfl) rfl (PV.move rfl) ?_
  refine RO.val (Wt.no rfl) rfl (PV.buildS (B := S.t_A8_int.enc (Vector.replicate 8 (0 : Int)) (hf [])) (xs := []) [] Try.BT37 rfl rfl rfl (by simp) trivial rfl) ?_
  refine RO.eff (Wt.no rfl) rfl (EV.call (K := _) Try.call36 rfl (SpecK.call [3, 1, 2, 4] (fun x : Hd × Hd × (Nat → Hs) => [frame D, .blk g3 (S.t_ledger_Ledger.enc v17.l (hf [x.1])), rowE S.t_Deed 106 v17.l.l x.1, .blk g9 (S.t_vault_Vault.enc v17 (hf [(pq g3), x.2.1, (pq g10)])), mpE Value.string S.t_Bag g10 v17.bags x.2.2]) (Outs.cons rfl (Outs.cons rfl (Outs.cons rfl (Outs.cons rfl Outs.nil)))) (fun _ => (Outs.cons rfl (Outs.cons rfl (Outs.cons rfl (Outs.cons rfl Outs.nil))))) (W_vault_Vault_Put ({ v6 with l := v7 } : S.vault_Vault) 0 (⟨#[107]⟩ : ByteArray) (Vector.replicate 8 (0 : Int)) (⟨#[97]⟩ : ByteArray) g9 g3 g10 q13 q11 q12 hx18 (fun w hΦ => ⟨(hΦ.2.2.2), (hΦ.2.1), (hΦ.2.2.1)⟩)))) ?_
  rintro _ _ _ ⟨⟨q19, q20, q21⟩, rfl, rfl, rfl⟩
  refine RO.val (Wt.no rfl) rfl (PV.move rfl) ?_
  refine RO.val (Wt.no rfl) rfl (PV.extract rfl rfl) ?_
  refine RO.val (Wt.no rfl) rfl (PV.extract rfl rfl) ?_
  refine RO.eff (Wt.no rfl) rfl (EV.allocB (B := S.t_Dot.enc S.Dot.z (hf [])) Try.zeroValue45 rfl) ?_
  rintro _ _ _ ⟨g23, rfl, rfl, rfl⟩
  refine RO.eff (Wt.no rfl) rfl (EV.storeW (B := S.t_Dot.enc v15 (hf [])) 5 Try.TF45 rfl rfl rfl (by exact S.t_Dot.len v15 (hf [])) (by exact S.t_Dot.one v15 (hf [])) (S.t_Dot.len S.Dot.z (hf [])) rfl) ?_
  rintro _ _ _ ⟨rfl, rfl, rfl⟩
  refine RO.val (Wt.no rfl) rfl (PV.assign rfl) ?_
  refine RO.nil ?_
  replace h := bindS h
  obtain ⟨v24, hx25, h⟩ := h
  refine CW.reg ?_
  refine RO.val (Wt.no rfl) rfl (PV.move rfl) ?_
  refine RO.eff (Wt.no rfl) rfl (EV.call (K := _) Try.call20 rfl (SpecK.call [3, 1, 2, 4] (fun x : Hd => [frame D, .blk g3 (S.t_ledger_Ledger.enc v17.l (hf [q19])), rowE S.t_Deed 106 v17.l.l q19, .blk g9 (S.t_vault_Vault.enc v17 (hf [(pq g3), q20, (pq g10)])), mpE Value.string S.t_Bag g10 v17.bags q21, .blk g23 (S.t_Dot.enc v15 (hf []))]) (Outs.cons rfl (Outs.cons rfl (Outs.cons rfl (Outs.cons rfl Outs.nil)))) (fun _ => (Outs.cons rfl (Outs.cons rfl (Outs.cons rfl (Outs.cons rfl Outs.nil))))) (W_vault_Vault_Bag v17 (⟨#[107]⟩ : ByteArray) g9 g3 g10 q19 q20 q21 hx25 (fun w hm hΦ => ⟨(hΦ.2.1), (hΦ.2.2.1), (hΦ.2.2.2)⟩)))) ?_
  rintro _ _ _ ⟨q26, rfl, rfl, rfl⟩
  refine RO.eff (Wt.no rfl) rfl (EV.allocB (B := S.t_Bag.enc S.Bag.z (hf [Hd.z])) Try.zeroValue40 rfl) ?_
  rintro _ _ _ ⟨g28, rfl, rfl, rfl⟩
  refine RO.eff (Wt.no rfl) rfl (EV.storeW (B := S.t_Bag.enc v24 (hf [q26])) 6 Try.TF40 rfl rfl rfl (by exact S.t_Bag.len v24 (hf [q26])) (by exact S.t_Bag.one v24 (hf [q26])) (S.t_Bag.len S.Bag.z (hf [Hd.z])) rfl) ?_
  rintro _ _ _ ⟨rfl, rfl, rfl⟩
  refine RO.nil ?_
  by_cases hb29 : (decide (v16 = 0)) = true
  · replace h := iteT hb29 h
    by_cases hb30 : (decide (v15 = ({ Node := 0, N := 1 } : S.Dot))) = true
    · replace h := iteT hb30 h
      by_cases hb31 : (decide ((v24.Values.length : Int) = 1)) = true
      · replace h := iteT hb31 h
        replace h := bindS h
        obtain ⟨v32, hx33, h⟩ := h
        by_cases hb34 : (decide (v32.Data = (⟨#[97]⟩ : ByteArray))) = true
        · replace h := iteT hb34 h
          replace h := bindS h
          obtain ⟨v35, hx36, h⟩ := h
          refine CW.reg ?_
          refine RO.val (Wt.no rfl) rfl (PV.move rfl) ?_
          refine RO.val (Wt.no rfl) rfl (PV.eql rfl rfl) ?_
          refine RO.val (Wt.no rfl) rfl ((PV.move rfl).to (congrArg Value.bool hb29)) ?_
          refine RO.val (Wt.yes rfl rfl rfl rfl) rfl (PV.loadM (l := S.t_Dot.enc v15 (hf [])) 5 Try.TF45 rfl rfl (cut_self (S.t_Dot.len _ _)) rfl (by decide)) ?_
          refine RO.val (Wt.yes rfl rfl rfl rfl) rfl (PV.buildS (B := S.t_Dot.enc ({ Node := 0, N := 1 } : S.Dot) (hf [])) (xs := [.const (.int .i64 0), .const (.int .i64 1)]) [(0, 0, 1), (1, 1, 1)] Try.BT45 rfl rfl rfl (by decide) ⟨rfl, rfl, rfl, rfl, trivial⟩ rfl) ?_
          refine RO.val (Wt.yes rfl rfl rfl rfl) rfl (PV.eqlAgg Try.eqGuardType45 rfl rfl Try.eqq45) ?_
          refine RO.val (Wt.no rfl) rfl (PV.pickT rfl rfl) ?_
          refine RO.val (Wt.no rfl) rfl ((PV.move rfl).to (congrArg Value.bool hb30)) ?_
          refine RO.val (Wt.yes rfl rfl rfl rfl) rfl (PV.fieldAddr Try.fa40_1 rfl) ?_
          refine RO.val (Wt.yes rfl rfl rfl rfl) rfl (PV.loadM (l := [.slice q26.a v24.Values.length q26.cap]) 6 Try.TF38 rfl rfl (cut_Bag_Values _ _) rfl (by decide)) ?_
          refine RO.val (Wt.yes rfl rfl rfl rfl) rfl (PV.lenS Try.underlying38 rfl) ?_
          refine RO.val (Wt.yes rfl rfl rfl rfl) rfl (PV.eql rfl rfl) ?_
          refine RO.val (Wt.no rfl) rfl (PV.pickT rfl rfl) ?_
          refine RO.val (Wt.no rfl) rfl ((PV.move rfl).to (congrArg Value.bool hb31)) ?_
          refine RO.val (Wt.yes rfl rfl rfl rfl) rfl (PV.fieldAddr Try.fa40_1 rfl) ?_
          refine RO.val (Wt.yes rfl rfl rfl rfl) rfl (PV.loadM (l := [.slice q26.a v24.Values.length q26.cap]) 6 Try.TF38 rfl rfl (cut_Bag_Values _ _) rfl (by decide)) ?_
          refine RO.val (Wt.yes rfl rfl rfl rfl) rfl (PV.idxQ (t := S.t_Val) (l := v24.Values) (q := q26) Try.underlying38 Try.sizeOf80 (fun w hm hΦ => (hΦ.2)) rfl rfl hx33) ?_
          refine RO.val (Wt.yes rfl rfl rfl rfl) rfl (PV.fieldAddr Try.fa80_1 rfl) ?_
          refine RO.val (Wt.yes rfl rfl rfl rfl) rfl (PV.loadQ (off := 0 + 2) (cs := [.string v32.Data]) (t := S.t_Val) (l := v24.Values) (q := q26) Try.TF9 (fun w hm hΦ => (hΦ.2)) hx33 rfl rfl rfl (cut_Val_Data _ _) rfl (by decide)) ?_
          refine RO.val (Wt.yes rfl rfl rfl rfl) rfl (PV.eqlStr rfl rfl) ?_
          refine RO.val (Wt.no rfl) rfl (PV.pickT rfl rfl) ?_
          refine RO.val (Wt.no rfl) rfl ((PV.move rfl).to (congrArg Value.bool hb34)) ?_
          refine RO.val (Wt.yes rfl rfl rfl rfl) rfl (PV.move rfl) ?_
          refine RO.eff (Wt.yes rfl rfl rfl rfl) rfl (EV.call (K := _) Try.call78 rfl (SpecK.call [1, 2] (fun x : Unit => [frame D, .blk g3 (S.t_ledger_Ledger.enc v17.l (hf [q19])), rowE S.t_Deed 106 v17.l.l q19, .blk g9 (S.t_vault_Vault.enc v17 (hf [(pq g3), q20, (pq g10)])), mpE Value.string S.t_Bag g10 v17.bags q21, .blk g23 (S.t_Dot.enc v15 (hf [])), .blk g28 (S.t_Bag.enc v24 (hf [q26]))]) (Outs.cons rfl (Outs.cons rfl Outs.nil)) (fun _ => (Outs.cons rfl (Outs.cons rfl Outs.nil))) (W_ledger_Ledger_Len v17.l g3 q19 hx36 (fun w hm hΦ => (hΦ.1.2.1))))) ?_
          rintro _ _ _ ⟨_, rfl, rfl, rfl⟩
          refine RO.val (Wt.yes rfl rfl rfl rfl) rfl (PV.eql rfl rfl) ?_
          refine RO.val (Wt.no rfl) rfl (PV.pickT rfl rfl) ?_
          refine RO.val (Wt.no rfl) rfl (PV.assign rfl) ?_
          refine RO.nil ?_
          refine CW.ret ?_
          obtain rfl := Option.some.inj h
          exact retP1 (Ψ := Φ) [0] (by decide) rfl (RV.tmp rfl) rfl (fun w hΦ => hΦ.1.1.1.1.1) ⟨(), rfl, rfl, rfl⟩
        · replace hb34 := Bool.eq_false_iff.2 hb34
          replace h := iteF hb34 h
          refine CW.reg ?_
          refine RO.val (Wt.no rfl) rfl (PV.move rfl) ?_
          refine RO.val (Wt.no rfl) rfl (PV.eql rfl rfl) ?_
          refine RO.val (Wt.no rfl) rfl ((PV.move rfl).to (congrArg Value.bool hb29)) ?_
          refine RO.val (Wt.yes rfl rfl rfl rfl) rfl (PV.loadM (l := S.t_Dot.enc v15 (hf [])) 5 Try.TF45 rfl rfl (cut_self (S.t_Dot.len _ _)) rfl (by decide)) ?_
          refine RO.val (Wt.yes rfl rfl rfl rfl) rfl (PV.buildS (B := S.t_Dot.enc ({ Node := 0, N := 1 } : S.Dot) (hf [])) (xs := [.const (.int .i64 0), .const (.int .i64 1)]) [(0, 0, 1), (1, 1, 1)] Try.BT45 rfl rfl rfl (by decide) ⟨rfl, rfl, rfl, rfl, trivial⟩ rfl) ?_
          refine RO.val (Wt.yes rfl rfl rfl rfl) rfl (PV.eqlAgg Try.eqGuardType45 rfl rfl Try.eqq45) ?_
          refine RO.val (Wt.no rfl) rfl (PV.pickT rfl rfl) ?_
          refine RO.val (Wt.no rfl) rfl ((PV.move rfl).to (congrArg Value.bool hb30)) ?_
          refine RO.val (Wt.yes rfl rfl rfl rfl) rfl (PV.fieldAddr Try.fa40_1 rfl) ?_
          refine RO.val (Wt.yes rfl rfl rfl rfl) rfl (PV.loadM (l := [.slice q26.a v24.Values.length q26.cap]) 6 Try.TF38 rfl rfl (cut_Bag_Values _ _) rfl (by decide)) ?_
          refine RO.val (Wt.yes rfl rfl rfl rfl) rfl (PV.lenS Try.underlying38 rfl) ?_
          refine RO.val (Wt.yes rfl rfl rfl rfl) rfl (PV.eql rfl rfl) ?_
          refine RO.val (Wt.no rfl) rfl (PV.pickT rfl rfl) ?_
          refine RO.val (Wt.no rfl) rfl ((PV.move rfl).to (congrArg Value.bool hb31)) ?_
          refine RO.val (Wt.yes rfl rfl rfl rfl) rfl (PV.fieldAddr Try.fa40_1 rfl) ?_
          refine RO.val (Wt.yes rfl rfl rfl rfl) rfl (PV.loadM (l := [.slice q26.a v24.Values.length q26.cap]) 6 Try.TF38 rfl rfl (cut_Bag_Values _ _) rfl (by decide)) ?_
          refine RO.val (Wt.yes rfl rfl rfl rfl) rfl (PV.idxQ (t := S.t_Val) (l := v24.Values) (q := q26) Try.underlying38 Try.sizeOf80 (fun w hm hΦ => (hΦ.2)) rfl rfl hx33) ?_
          refine RO.val (Wt.yes rfl rfl rfl rfl) rfl (PV.fieldAddr Try.fa80_1 rfl) ?_
          refine RO.val (Wt.yes rfl rfl rfl rfl) rfl (PV.loadQ (off := 0 + 2) (cs := [.string v32.Data]) (t := S.t_Val) (l := v24.Values) (q := q26) Try.TF9 (fun w hm hΦ => (hΦ.2)) hx33 rfl rfl rfl (cut_Val_Data _ _) rfl (by decide)) ?_
          refine RO.val (Wt.yes rfl rfl rfl rfl) rfl (PV.eqlStr rfl rfl) ?_
          refine RO.val (Wt.no rfl) rfl (PV.pickT rfl rfl) ?_
          refine RO.val (Wt.no rfl) rfl ((PV.move rfl).to (congrArg Value.bool hb34)) ?_
          refine RO.skip (Un.mk rfl rfl rfl rfl) rfl ?_
          refine RO.skip (Un.mk rfl rfl rfl rfl) rfl ?_
          refine RO.skip (Un.mk rfl rfl rfl rfl) rfl ?_
          refine RO.val (Wt.no rfl) rfl (PV.pickF rfl rfl) ?_
          refine RO.val (Wt.no rfl) rfl (PV.assign rfl) ?_
          refine RO.nil ?_
          refine CW.ret ?_
          obtain rfl := Option.some.inj h
          exact retP1 (Ψ := Φ) [0] (by decide) rfl (RV.tmp rfl) rfl (fun w hΦ => hΦ.1.1.1.1.1) ⟨(), rfl, rfl, rfl⟩
      · replace hb31 := Bool.eq_false_iff.2 hb31
        replace h := iteF hb31 h
        refine CW.reg ?_
        refine RO.val (Wt.no rfl) rfl (PV.move rfl) ?_
        refine RO.val (Wt.no rfl) rfl (PV.eql rfl rfl) ?_
        refine RO.val (Wt.no rfl) rfl ((PV.move rfl).to (congrArg Value.bool hb29)) ?_
        refine RO.val (Wt.yes rfl rfl rfl rfl) rfl (PV.loadM (l := S.t_Dot.enc v15 (hf [])) 5 Try.TF45 rfl rfl (cut_self (S.t_Dot.len _ _)) rfl (by decide)) ?_
        refine RO.val (Wt.yes rfl rfl rfl rfl) rfl (PV.buildS (B := S.t_Dot.enc ({ Node := 0, N := 1 } : S.Dot) (hf [])) (xs := [.const (.int .i64 0), .const (.int .i64 1)]) [(0, 0, 1), (1, 1, 1)] Try.BT45 rfl rfl rfl (by decide) ⟨rfl, rfl, rfl, rfl, trivial⟩ rfl) ?_
        refine RO.val (Wt.yes rfl rfl rfl rfl) rfl (PV.eqlAgg Try.eqGuardType45 rfl rfl Try.eqq45) ?_
        refine RO.val (Wt.no rfl) rfl (PV.pickT rfl rfl) ?_
        refine RO.val (Wt.no rfl) rfl ((PV.move rfl).to (congrArg Value.bool hb30)) ?_
        refine RO.val (Wt.yes rfl rfl rfl rfl) rfl (PV.fieldAddr Try.fa40_1 rfl) ?_
        refine RO.val (Wt.yes rfl rfl rfl rfl) rfl (PV.loadM (l := [.slice q26.a v24.Values.length q26.cap]) 6 Try.TF38 rfl rfl (cut_Bag_Values _ _) rfl (by decide)) ?_
        refine RO.val (Wt.yes rfl rfl rfl rfl) rfl (PV.lenS Try.underlying38 rfl) ?_
        refine RO.val (Wt.yes rfl rfl rfl rfl) rfl (PV.eql rfl rfl) ?_
        refine RO.val (Wt.no rfl) rfl (PV.pickT rfl rfl) ?_
        refine RO.val (Wt.no rfl) rfl ((PV.move rfl).to (congrArg Value.bool hb31)) ?_
        refine RO.skip (Un.mk rfl rfl rfl rfl) rfl ?_
        refine RO.skip (Un.mk rfl rfl rfl rfl) rfl ?_
        refine RO.skip (Un.mk rfl rfl rfl rfl) rfl ?_
        refine RO.skip (Un.mk rfl rfl rfl rfl) rfl ?_
        refine RO.skip (Un.mk rfl rfl rfl rfl) rfl ?_
        refine RO.skip (Un.mk rfl rfl rfl rfl) rfl ?_
        refine RO.val (Wt.no rfl) rfl (PV.pickF rfl rfl) ?_
        refine RO.val (Wt.no rfl) rfl (PV.move rfl) ?_
        refine RO.skip (Un.mk rfl rfl rfl rfl) rfl ?_
        refine RO.skip (Un.mk rfl rfl rfl rfl) rfl ?_
        refine RO.skip (Un.mk rfl rfl rfl rfl) rfl ?_
        refine RO.val (Wt.no rfl) rfl (PV.pickF rfl rfl) ?_
        refine RO.val (Wt.no rfl) rfl (PV.assign rfl) ?_
        refine RO.nil ?_
        refine CW.ret ?_
        obtain rfl := Option.some.inj h
        exact retP1 (Ψ := Φ) [0] (by decide) rfl (RV.tmp rfl) rfl (fun w hΦ => hΦ.1.1.1.1.1) ⟨(), rfl, rfl, rfl⟩
    · replace hb30 := Bool.eq_false_iff.2 hb30
      replace h := iteF hb30 h
      refine CW.reg ?_
      refine RO.val (Wt.no rfl) rfl (PV.move rfl) ?_
      refine RO.val (Wt.no rfl) rfl (PV.eql rfl rfl) ?_
      refine RO.val (Wt.no rfl) rfl ((PV.move rfl).to (congrArg Value.bool hb29)) ?_
      refine RO.val (Wt.yes rfl rfl rfl rfl) rfl (PV.loadM (l := S.t_Dot.enc v15 (hf [])) 5 Try.TF45 rfl rfl (cut_self (S.t_Dot.len _ _)) rfl (by decide)) ?_
      refine RO.val (Wt.yes rfl rfl rfl rfl) rfl (PV.buildS (B := S.t_Dot.enc ({ Node := 0, N := 1 } : S.Dot) (hf [])) (xs := [.const (.int .i64 0), .const (.int .i64 1)]) [(0, 0, 1), (1, 1, 1)] Try.BT45 rfl rfl rfl (by decide) ⟨rfl, rfl, rfl, rfl, trivial⟩ rfl) ?_
      refine RO.val (Wt.yes rfl rfl rfl rfl) rfl (PV.eqlAgg Try.eqGuardType45 rfl rfl Try.eqq45) ?_
      refine RO.val (Wt.no rfl) rfl (PV.pickT rfl rfl) ?_
      refine RO.val (Wt.no rfl) rfl ((PV.move rfl).to (congrArg Value.bool hb30)) ?_
      refine RO.skip (Un.mk rfl rfl rfl rfl) rfl ?_
      refine RO.skip (Un.mk rfl rfl rfl rfl) rfl ?_
      refine RO.skip (Un.mk rfl rfl rfl rfl) rfl ?_
      refine RO.skip (Un.mk rfl rfl rfl rfl) rfl ?_
      refine RO.val (Wt.no rfl) rfl (PV.pickF rfl rfl) ?_
      refine RO.val (Wt.no rfl) rfl (PV.move rfl) ?_
      refine RO.skip (Un.mk rfl rfl rfl rfl) rfl ?_
      refine RO.skip (Un.mk rfl rfl rfl rfl) rfl ?_
      refine RO.skip (Un.mk rfl rfl rfl rfl) rfl ?_
      refine RO.skip (Un.mk rfl rfl rfl rfl) rfl ?_
      refine RO.skip (Un.mk rfl rfl rfl rfl) rfl ?_
      refine RO.skip (Un.mk rfl rfl rfl rfl) rfl ?_
      refine RO.val (Wt.no rfl) rfl (PV.pickF rfl rfl) ?_
      refine RO.val (Wt.no rfl) rfl (PV.move rfl) ?_
      refine RO.skip (Un.mk rfl rfl rfl rfl) rfl ?_
      refine RO.skip (Un.mk rfl rfl rfl rfl) rfl ?_
      refine RO.skip (Un.mk rfl rfl rfl rfl) rfl ?_
      refine RO.val (Wt.no rfl) rfl (PV.pickF rfl rfl) ?_
      refine RO.val (Wt.no rfl) rfl (PV.assign rfl) ?_
      refine RO.nil ?_
      refine CW.ret ?_
      obtain rfl := Option.some.inj h
      exact retP1 (Ψ := Φ) [0] (by decide) rfl (RV.tmp rfl) rfl (fun w hΦ => hΦ.1.1.1.1.1) ⟨(), rfl, rfl, rfl⟩
  · replace hb29 := Bool.eq_false_iff.2 hb29
    replace h := iteF hb29 h
    refine CW.reg ?_
    refine RO.val (Wt.no rfl) rfl (PV.move rfl) ?_
    refine RO.val (Wt.no rfl) rfl (PV.eql rfl rfl) ?_
    refine RO.val (Wt.no rfl) rfl ((PV.move rfl).to (congrArg Value.bool hb29)) ?_
    refine RO.skip (Un.mk rfl rfl rfl rfl) rfl ?_
    refine RO.skip (Un.mk rfl rfl rfl rfl) rfl ?_
    refine RO.skip (Un.mk rfl rfl rfl rfl) rfl ?_
    refine RO.val (Wt.no rfl) rfl (PV.pickF rfl rfl) ?_
    refine RO.val (Wt.no rfl) rfl (PV.move rfl) ?_
    refine RO.skip (Un.mk rfl rfl rfl rfl) rfl ?_
    refine RO.skip (Un.mk rfl rfl rfl rfl) rfl ?_
    refine RO.skip (Un.mk rfl rfl rfl rfl) rfl ?_
    refine RO.skip (Un.mk rfl rfl rfl rfl) rfl ?_
    refine RO.val (Wt.no rfl) rfl (PV.pickF rfl rfl) ?_
    refine RO.val (Wt.no rfl) rfl (PV.move rfl) ?_
    refine RO.skip (Un.mk rfl rfl rfl rfl) rfl ?_
    refine RO.skip (Un.mk rfl rfl rfl rfl) rfl ?_
    refine RO.skip (Un.mk rfl rfl rfl rfl) rfl ?_
    refine RO.skip (Un.mk rfl rfl rfl rfl) rfl ?_
    refine RO.skip (Un.mk rfl rfl rfl rfl) rfl ?_
    refine RO.skip (Un.mk rfl rfl rfl rfl) rfl ?_
    refine RO.val (Wt.no rfl) rfl (PV.pickF rfl rfl) ?_
    refine RO.val (Wt.no rfl) rfl (PV.move rfl) ?_
    refine RO.skip (Un.mk rfl rfl rfl rfl) rfl ?_
    refine RO.skip (Un.mk rfl rfl rfl rfl) rfl ?_
    refine RO.skip (Un.mk rfl rfl rfl rfl) rfl ?_
    refine RO.val (Wt.no rfl) rfl (PV.pickF rfl rfl) ?_
    refine RO.val (Wt.no rfl) rfl (PV.assign rfl) ?_
    refine RO.nil ?_
    refine CW.ret ?_
    obtain rfl := Option.some.inj h
    exact retP1 (Ψ := Φ) [0] (by decide) rfl (RV.tmp rfl) rfl (fun w hΦ => hΦ.1.1.1.1.1) ⟨(), rfl, rfl, rfl⟩

theorem W_vault_Vault_Keys {D : Mem} {Φ : World → Prop} (a1 : S.vault_Vault) (a2 : Int) (ga1_0 ga1_1 ga1_2 : Nat) (b1_0 : Hd) (b1_1 : Hd) (b1_2 : (Nat → Hs)) {r : (List ByteArray)} (h : S.vault_Vault_Keys a1 a2 = some r) (hR : ∀ w, MemOk D w → Φ w → (rdS S.t_Deed w a1.l.l b1_0.sub ∧ slR (tInt .i64) w a1.ring.Plan.Targets b1_1 ∧ mpR S.t_Bag w a1.bags b1_2)) :
    SpecK Try.prog 37 [.pointer (pq ga1_0).a, .int .i64 a2] D [.blk ga1_0 (S.t_vault_Vault.enc a1 (hf [(pq ga1_1), b1_1, (pq ga1_2)])), .blk ga1_1 (S.t_ledger_Ledger.enc a1.l (hf [b1_0])), rowE S.t_Deed 106 a1.l.l b1_0, mpE Value.string S.t_Bag ga1_2 a1.bags b1_2] Φ (fun x : Hd => .slice x.a r.length x.cap) (fun x => [.blk ga1_0 (S.t_vault_Vault.enc a1 (hf [(pq ga1_1), b1_1, (pq ga1_2)])), .blk ga1_1 (S.t_ledger_Ledger.enc a1.l (hf [b1_0])), rowE S.t_Deed 106 a1.l.l b1_0, mpE Value.string S.t_Bag ga1_2 a1.bags b1_2]) (fun x => []) (fun x w => Φ w ∧ (slR tStr w r x)) := by
  refine enterK Try.func37 rfl Try.ntmps37 rfl ?_
  unfold S.vault_Vault_Keys at h
  refine CW.reg ?_
  refine RO.val (Wt.no rfl) rfl (PV.assign rfl) ?_
  refine RO.nil ?_
  refine CW.seq ?_
  refine CW.reg ?_
  refine RO.val (Wt.no rfl) rfl (PV.move rfl) ?_
  refine RO.val (Wt.no rfl) rfl ((PV.eqlPtr Try.underlying46 rfl rfl).to rfl) ?_
  refine RO.val (Wt.no rfl) rfl (PV.move rfl) ?_
  refine RO.val (Wt.yes rfl rfl rfl rfl) rfl (PV.move rfl) ?_
  refine RO.val (Wt.yes rfl rfl rfl rfl) rfl (PV.lss rfl rfl) ?_
  refine RO.val (Wt.no rfl) rfl (PV.pickF rfl rfl) ?_
  refine RO.nil ?_
  refine CW.cond rfl (fun hb1 => ?_) (fun hb1 => ?_)
  · replace h := iteT hb1 h
    refine CW.reg ?_
    refine RO.val (Wt.no rfl) rfl (PV.assign rfl) ?_
    refine RO.nil ?_
    refine CW.ret ?_
    refine QC.then_r ?_
    obtain rfl := Option.some.inj h
    exact retP1 (Ψ := fun w => Φ w ∧ (slR tStr w [] Hd.z)) [0, 1, 2, 3, 4] (by decide) rfl (RV.tmp rfl) rfl (fun w hΦ => ⟨hΦ.1, (slR.nil _ _)⟩) ⟨Hd.z, rfl, rfl, rfl⟩
  · replace h := iteF hb1 h
    refine CW.skip ?_
    refine QC.then_n ?_
    refine CW.reg ?_
    refine RO.val (Wt.no rfl) rfl (PV.assign rfl) ?_
    refine RO.nil ?_
    refine CW.seq ?_
    refine CW.reg ?_
    refine RO.val (Wt.no rfl) rfl (PV.move rfl) ?_
    refine RO.val (Wt.no rfl) rfl (PV.nilCheck rfl) ?_
    refine RO.val (Wt.no rfl) rfl (PV.fieldAddr Try.fa101_5 rfl) ?_
    refine RO.val (Wt.no rfl) rfl (PV.loadM (l := [.map (mb (pq ga1_2))]) 1 Try.TF99 rfl rfl (cut_vault_Vault_bags _ _) rfl (by decide)) ?_
    refine RO.eff (Wt.no rfl) rfl (EV.rangeQ (kv := Value.string) (tv := S.t_Bag) (l := a1.bags) (hh := b1_2) 4 Try.underlying99 rfl rfl) ?_
    rintro _ _ _ ⟨g2, rfl, rfl, rfl⟩
    refine RO.nil ?_
    refine CW.block ?_
    refine CW.row 9 1 ?_
    refine CW.loopE (X := (List ByteArray) × (List ByteArray) × Hd) (fun x => [(1, .int .i64 a2), (4, .slice Hd.z.a 0 Hd.z.cap), (5, .slice x.2.2.a x.2.1.length x.2.2.cap), (17, .pointer (some ⟨g2, 0, none⟩))]) (fun x => [frame D, .blk ga1_0 (S.t_vault_Vault.enc a1 (hf [(pq ga1_1), b1_1, (pq ga1_2)])), .blk ga1_1 (S.t_ledger_Ledger.enc a1.l (hf [b1_0])), rowE S.t_Deed 106 a1.l.l b1_0, rngE Value.string S.t_Bag ga1_2 g2 a1.bags b1_2 x.1 none, rowE tStr 9 x.2.1 x.2.2]) (fun x w => (Φ w ∧ True)) (fun x => ∀ π, π.Perm x.1 → andThen (foldR (S.vault_Vault_Keys_l1 a2) π x.2.1) S.vault_Vault_Keys_x1 = some r) (fun x => x.1.length) ((a1.bags.map (·.1)), [], Hd.z) (ordFree_all h) (by exact ⟨rfl, rfl, rfl, rfl, trivial⟩) rfl (fun w hΦ => hΦ) ?_
    rintro ⟨w10, v8, q9⟩ hI11
    try dsimp only at hI11 ⊢
    refine CW.reg ?_
    refine RO.eff (Wt.no rfl) rfl (EV.nextQ 4 str_inj rfl rfl) ?_
    rintro _ _ _ (⟨rfl, rfl, rfl, rfl⟩ | ⟨w15, v14, w16, _, rfl, rfl, rfl, rfl⟩)
    · refine RO.val (Wt.no rfl) rfl (PV.extract rfl rfl) ?_
      refine RO.nil ?_
      replace h := foldR_nil hI11
      unfold S.vault_Vault_Keys_x1 at h
      try dsimp only at h
      refine CW.unrange 4 rfl ?_
      refine CW.seq ?_
      refine CW.condF rfl ?_
      refine CW.exit ?_
      refine QC.then_x ?_
      refine QC.then_x ?_
      refine QC.blk_x ?_
      refine QC.then_n ?_
      replace h := bindS h
      obtain ⟨v17, hx18, h⟩ := h
      refine CW.reg ?_
      refine RO.val (Wt.no rfl) rfl (PV.move rfl) ?_
      refine RO.eff (Wt.no rfl) rfl (EV.sortQ (l := v8) (q := q9) 5 Try.call80 rfl rfl hx18 Try.slices_Sort_string_none Try.slices_Sort_string) ?_
      rintro _ _ _ ⟨rfl, rfl, rfl⟩
      rw [sortG_len hx18]
      refine RO.nil ?_
      refine CW.reg ?_
      refine RO.val (Wt.no rfl) rfl (PV.move rfl) ?_
      refine RO.val (Wt.no rfl) rfl (PV.assign rfl) ?_
      refine RO.nil ?_
      refine CW.ret ?_
      refine QC.freeze (t := tStr) 5 rfl (fun w hΦ => (fun _ _ _ => trivial)) ?_
      obtain rfl := Option.some.inj h
      exact retP1 (Ψ := fun w => Φ w ∧ (slR tStr w v17 q9)) [0, 1, 2, 3, 4] (by decide) rfl (RV.tmp rfl) rfl (fun w hΦ => ⟨hΦ.1.1, (hΦ.2)⟩) ⟨q9, rfl, rfl, rfl⟩
    · refine RO.val (Wt.no rfl) rfl (PV.extract rfl rfl) ?_
      refine RO.nil ?_
      obtain ⟨y12, h, hk13⟩ := foldR_step hI11
      unfold S.vault_Vault_Keys_l1 at h
      try dsimp only at h
      refine CW.seq ?_
      refine CW.condT rfl ?_
      refine CW.skip ?_
      refine QC.then_n ?_
      refine CW.block ?_
      refine CW.reg ?_
      refine RO.val (Wt.no rfl) rfl (PV.entryQ (kv := Value.string) (tv := S.t_Bag) (l := a1.bags) (hh := b1_2) (k := v14) 4 str_inj rfl rfl) ?_
      refine RO.val (Wt.no rfl) rfl (PV.extract rfl rfl) ?_
      refine RO.val (Wt.no rfl) rfl (PV.assign rfl) ?_
      refine RO.nil ?_
      replace h := bindS h
      obtain ⟨v20, hx21, h⟩ := h
      refine CW.reg ?_
      refine RO.val (Wt.no rfl) rfl (PV.move rfl) ?_
      refine RO.eff (Wt.no rfl) rfl (EV.call (K := _) Try.call12 rfl (SpecK.callV (W_spot_Of v14 hx21))) ?_
      rintro _ _ _ ⟨_, rfl, rfl, rfl⟩
      refine RO.val (Wt.no rfl) rfl (PV.move rfl) ?_
      refine RO.val (Wt.no rfl) rfl (PV.eql rfl rfl) ?_
      refine RO.nil ?_
      refine CW.cond rfl (fun hb22 => ?_) (fun hb22 => ?_)
      · replace h := iteT hb22 h
        replace h := bindS h
        obtain ⟨v24, hx25, h⟩ := h
        refine CW.region ?_
        refine RO.val (Wt.no rfl) rfl (PV.move rfl) ?_
        refine RO.val (Wt.no rfl) rfl (PV.move rfl) ?_
        refine RO.eff (Wt.no rfl) rfl (EV.buildSlice (xs := [.tmp 27]) rfl Try.underlying76 Try.sizeOf9 Try.zeroValue9 rfl rfl rfl rfl) ?_
        rintro _ _ _ ⟨g23, rfl, rfl, rfl⟩
        refine RO.eff (Wt.no rfl) rfl (EV.appQ (bytes := 16) (t := tStr) (l := v8) (q := q9) (y := v14) (hy := hf []) 5 6 Try.underlying76 Try.inf9 rfl rfl rfl rfl (by decide) rfl rfl rfl rfl hx25 (by decide)) ?_
        rintro _ _ _ ⟨a26, c27, rfl, rfl, rfl⟩
        refine RO.val (Wt.no rfl) rfl (PV.assign rfl) ?_
        refine RO.nil ?_
        refine QC.blk_n ?_
        obtain rfl := Option.some.inj h
        refine QC.uncur 4 rfl ?_
        refine QC.roundP ((w15 ++ w16), v24, (Hd.mk a26 c27 (snocS v8.length q9.sub (hf [])))) (afterR_inl hk13) (by exact midlt) [0, 1, 2, 3, 4, 5] (by decide) (by exact ⟨rfl, rfl, rfl, rfl, trivial⟩) rfl (fun w hΦ => hΦ)
      · replace h := iteF hb22 h
        refine CW.skip ?_
        refine QC.blk_n ?_
        obtain rfl := Option.some.inj h
        refine QC.uncur 4 rfl ?_
        refine QC.roundP ((w15 ++ w16), v8, q9) (afterR_inl hk13) (by exact midlt) [0, 1, 2, 3, 4, 5] (by decide) (by exact ⟨rfl, rfl, rfl, rfl, trivial⟩) rfl (fun w hΦ => hΦ)

theorem W_vault_Vault_Drop {D : Mem} {Φ : World → Prop} (a1 : S.vault_Vault) (a2 : Int) (ga1_0 ga1_1 ga1_2 : Nat) (b1_0 : Hd) (b1_1 : Hd) (b1_2 : (Nat → Hs)) {r : Int × S.vault_Vault} (h : S.vault_Vault_Drop a1 a2 = some r) (hR : ∀ w, Φ w → (rdS S.t_Deed w a1.l.l b1_0.sub ∧ slR (tInt .i64) w a1.ring.Plan.Targets b1_1 ∧ mpR S.t_Bag w a1.bags b1_2)) :
    SpecK Try.prog 38 [.pointer (pq ga1_0).a, .int .i64 a2] D [.blk ga1_0 (S.t_vault_Vault.enc a1 (hf [(pq ga1_1), b1_1, (pq ga1_2)])), .blk ga1_1 (S.t_ledger_Ledger.enc a1.l (hf [b1_0])), rowE S.t_Deed 106 a1.l.l b1_0, mpE Value.string S.t_Bag ga1_2 a1.bags b1_2] Φ (fun x : Hd × Hd × (Nat → Hs) => .int .i64 r.1) (fun x => [.blk ga1_0 (S.t_vault_Vault.enc r.2 (hf [(pq ga1_1), x.2.1, (pq ga1_2)])), .blk ga1_1 (S.t_ledger_Ledger.enc r.2.l (hf [x.1])), rowE S.t_Deed 106 r.2.l.l x.1, mpE Value.string S.t_Bag ga1_2 r.2.bags x.2.2]) (fun x => []) (fun x w => Φ w ∧ (rdS S.t_Deed w r.2.l.l x.1.sub ∧ slR (tInt .i64) w r.2.ring.Plan.Targets x.2.1 ∧ mpR S.t_Bag w r.2.bags x.2.2)) := by
  refine enterK Try.func38 rfl Try.ntmps38 rfl ?_
  unfold S.vault_Vault_Drop at h
  refine CW.reg ?_
  refine RO.val (Wt.no rfl) rfl (PV.assign rfl) ?_
  refine RO.nil ?_
  refine CW.seq ?_
  refine CW.block ?_
  replace h := bindS h
  obtain ⟨e17, h, hk16⟩ := h
  refine CW.meet (X := Bool) (fun x => [(0, .pointer (some ⟨ga1_0, 0, none⟩)), (1, .int .i64 a2), (4, .int .i64 0), (5, .bool x)]) (fun x => [frame D, .blk ga1_0 (S.t_vault_Vault.enc a1 (hf [(pq ga1_1), b1_1, (pq ga1_2)])), .blk ga1_1 (S.t_ledger_Ledger.enc a1.l (hf [b1_0])), rowE S.t_Deed 106 a1.l.l b1_0, mpE Value.string S.t_Bag ga1_2 a1.bags b1_2]) (fun x w => (Φ w ∧ True)) (fun x => S.vault_Vault_Drop_j2 a1 a2 x = some r) ?_ ?_
  · skip
    by_cases hb18 : (decide (a2 < 0)) = true
    · replace h := iteT hb18 h
      refine CW.region ?_
      refine RO.val (Wt.no rfl) rfl (PV.move rfl) ?_
      refine RO.val (Wt.no rfl) rfl ((PV.eqlPtr Try.underlying46 rfl rfl).to rfl) ?_
      refine RO.val (Wt.no rfl) rfl (PV.move rfl) ?_
      refine RO.val (Wt.yes rfl rfl rfl rfl) rfl (PV.move rfl) ?_
      refine RO.val (Wt.yes rfl rfl rfl rfl) rfl (PV.lss rfl rfl) ?_
      refine RO.val (Wt.no rfl) rfl (PV.pickF rfl rfl) ?_
      refine RO.val (Wt.no rfl) rfl ((PV.move rfl).to (congrArg Value.bool hb18)) ?_
      refine RO.skip (Un.mk rfl rfl rfl rfl) rfl ?_
      refine RO.skip (Un.mk rfl rfl rfl rfl) rfl ?_
      refine RO.val (Wt.no rfl) rfl (PV.pickT rfl rfl) ?_
      refine RO.val (Wt.no rfl) rfl (PV.assign rfl) ?_
      refine RO.nil ?_
      obtain rfl := Option.some.inj h
      refine QC.meetP true hk16 [0, 1, 2, 3, 4] (by decide) (by exact ⟨rfl, rfl, rfl, rfl, trivial⟩) rfl (fun w hΦ => hΦ)
    · replace hb18 := Bool.eq_false_iff.2 hb18
      replace h := iteF hb18 h
      refine CW.region ?_
      refine RO.val (Wt.no rfl) rfl (PV.move rfl) ?_
      refine RO.val (Wt.no rfl) rfl ((PV.eqlPtr Try.underlying46 rfl rfl).to rfl) ?_
      refine RO.val (Wt.no rfl) rfl (PV.move rfl) ?_
      refine RO.val (Wt.yes rfl rfl rfl rfl) rfl (PV.move rfl) ?_
      refine RO.val (Wt.yes rfl rfl rfl rfl) rfl (PV.lss rfl rfl) ?_
      refine RO.val (Wt.no rfl) rfl (PV.pickF rfl rfl) ?_
      refine RO.val (Wt.no rfl) rfl ((PV.move rfl).to (congrArg Value.bool hb18)) ?_
      refine RO.val (Wt.yes rfl rfl rfl rfl) rfl (PV.move rfl) ?_
      refine RO.val (Wt.yes rfl rfl rfl rfl) rfl (PV.geq rfl rfl) ?_
      refine RO.val (Wt.no rfl) rfl (PV.pickF rfl rfl) ?_
      refine RO.val (Wt.no rfl) rfl (PV.assign rfl) ?_
      refine RO.nil ?_
      obtain rfl := Option.some.inj h
      refine QC.meetP (decide (16 ≤ a2)) hk16 [0, 1, 2, 3, 4] (by decide) (by exact ⟨rfl, rfl, rfl, rfl, trivial⟩) rfl (fun w hΦ => hΦ)
  · rintro v2 h
    try dsimp only at h ⊢
    unfold S.vault_Vault_Drop_j2 at h
    refine CW.cond rfl (fun hb3 => ?_) (fun hb3 => ?_)
    · replace h := iteT hb3 h
      subst hb3
      refine CW.reg ?_
      refine RO.val (Wt.no rfl) rfl (PV.assign rfl) ?_
      refine RO.nil ?_
      refine CW.ret ?_
      refine QC.blk_r ?_
      refine QC.then_r ?_
      obtain rfl := Option.some.inj h
      exact retP1 (Ψ := fun w => Φ w ∧ (rdS S.t_Deed w a1.l.l b1_0.sub ∧ slR (tInt .i64) w a1.ring.Plan.Targets b1_1 ∧ mpR S.t_Bag w a1.bags b1_2)) [0, 1, 2, 3, 4] (by decide) rfl (RV.tmp rfl) rfl (fun w hΦ => ⟨hΦ.1, (hR w (hΦ.1)).1, (hR w (hΦ.1)).2.1, (hR w (hΦ.1)).2.2⟩) ⟨(b1_0, b1_1, b1_2), rfl, rfl, rfl⟩
    · replace h := iteF hb3 h
      subst hb3
      replace h := bindS h
      obtain ⟨v4, hx5, h⟩ := h
      refine CW.reg ?_
      refine RO.val (Wt.no rfl) rfl (PV.move rfl) ?_
      refine RO.val (Wt.no rfl) rfl (PV.move rfl) ?_
      refine RO.eff (Wt.no rfl) rfl (EV.call (K := _) Try.call37 rfl (SpecK.call [1, 2, 3, 4] (fun x : Hd => [frame D, .blk ga1_0 (S.t_vault_Vault.enc a1 (hf [(pq ga1_1), b1_1, (pq ga1_2)])), .blk ga1_1 (S.t_ledger_Ledger.enc a1.l (hf [b1_0])), rowE S.t_Deed 106 a1.l.l b1_0, mpE Value.string S.t_Bag ga1_2 a1.bags b1_2]) (Outs.cons rfl (Outs.cons rfl (Outs.cons rfl (Outs.cons rfl Outs.nil)))) (fun _ => (Outs.cons rfl (Outs.cons rfl (Outs.cons rfl (Outs.cons rfl Outs.nil))))) (W_vault_Vault_Keys a1 a2 ga1_0 ga1_1 ga1_2 b1_0 b1_1 b1_2 hx5 (fun w hm hΦ => ⟨(hR w (hΦ.1)).1, (hR w (hΦ.1)).2.1, (hR w (hΦ.1)).2.2⟩)))) ?_
      rintro _ _ _ ⟨q6, rfl, rfl, rfl⟩
      refine RO.val (Wt.no rfl) rfl (PV.lenS Try.underlying76 rfl) ?_
      refine RO.val (Wt.no rfl) rfl (PV.eql rfl rfl) ?_
      refine RO.val (Wt.no rfl) rfl (PV.assign rfl) ?_
      refine RO.nil ?_
      refine CW.cond rfl (fun hb8 => ?_) (fun hb8 => ?_)
      · replace h := iteT hb8 h
        refine CW.reg ?_
        refine RO.val (Wt.no rfl) rfl (PV.assign rfl) ?_
        refine RO.nil ?_
        refine CW.ret ?_
        refine QC.blk_r ?_
        refine QC.then_r ?_
        obtain rfl := Option.some.inj h
        exact retP1 (Ψ := fun w => Φ w ∧ (rdS S.t_Deed w a1.l.l b1_0.sub ∧ slR (tInt .i64) w a1.ring.Plan.Targets b1_1 ∧ mpR S.t_Bag w a1.bags b1_2)) [0, 1, 2, 3, 4] (by decide) rfl (RV.tmp rfl) rfl (fun w hΦ => ⟨hΦ.1.1, (hR w (hΦ.1.1)).1, (hR w (hΦ.1.1)).2.1, (hR w (hΦ.1.1)).2.2⟩) ⟨(b1_0, b1_1, b1_2), rfl, rfl, rfl⟩
      · replace h := iteF hb8 h
        refine CW.skip ?_
        refine QC.blk_n ?_
        refine QC.then_n ?_
        replace h := bindS h
        obtain ⟨⟨v9, v10⟩, hx11, h⟩ := h
        dsimp only at h
        refine CW.reg ?_
        refine RO.val (Wt.no rfl) rfl (PV.move rfl) ?_
        refine RO.val (Wt.no rfl) rfl (PV.move rfl) ?_
        refine RO.val (Wt.no rfl) rfl (PV.buildS (B := S.t_Deed.enc ({ S.Deed.z with Kind := 4, Part := a2 } : S.Deed) (hf [Hd.z, Hd.z])) (xs := [.const (.int .i64 4), .tmp 23]) [(0, 0, 1), (5, 55, 1)] Try.BT106 rfl rfl rfl (by decide) ⟨rfl, rfl, rfl, rfl, trivial⟩ rfl) ?_
        refine RO.eff (Wt.no rfl) rfl (EV.call (K := _) Try.call54 rfl (SpecK.call [1, 2, 3, 4] (fun x : Hd × Hd × (Nat → Hs) => [frame D, .blk ga1_0 (S.t_vault_Vault.enc v10 (hf [(pq ga1_1), x.2.1, (pq ga1_2)])), .blk ga1_1 (S.t_ledger_Ledger.enc v10.l (hf [x.1])), rowE S.t_Deed 106 v10.l.l x.1, mpE Value.string S.t_Bag ga1_2 v10.bags x.2.2]) (Outs.cons rfl (Outs.cons rfl (Outs.cons rfl (Outs.cons rfl Outs.nil)))) (fun _ => (Outs.cons rfl (Outs.cons rfl (Outs.cons rfl (Outs.cons rfl Outs.nil))))) (W_vault_Vault_write a1 ({ S.Deed.z with Kind := 4, Part := a2 } : S.Deed) ga1_0 ga1_1 ga1_2 b1_0 b1_1 b1_2 Hd.z Hd.z hx11 (fun w hΦ => ⟨(hR w (hΦ.1.1)).1, (hR w (hΦ.1.1)).2.1, (hR w (hΦ.1.1)).2.2, (slR.nil _ _), (slR.nil _ _)⟩)))) ?_
        rintro _ _ _ ⟨⟨q12, q13, q14⟩, rfl, rfl, rfl⟩
        refine RO.val (Wt.no rfl) rfl (PV.assign rfl) ?_
        refine RO.nil ?_
        refine CW.ret ?_
        obtain rfl := Option.some.inj h
        exact retP1 (Ψ := fun w => Φ w ∧ (rdS S.t_Deed w v10.l.l q12.sub ∧ slR (tInt .i64) w v10.ring.Plan.Targets q13 ∧ mpR S.t_Bag w v10.bags q14)) [0, 1, 2, 3, 4] (by decide) rfl (RV.tmp rfl) rfl (fun w hΦ => ⟨hΦ.1.1.1, (hΦ.2.1), (hΦ.2.2.1), (hΦ.2.2.2)⟩) ⟨(q12, q13, q14), rfl, rfl, rfl⟩

theorem W_law18_named {D : Mem} {Φ : World → Prop} (a1 : Int) {r : ByteArray} (h : S.law18_named a1 = some r) :
    SpecK Try.prog 39 [.int .i64 a1] D [] Φ (fun x : Unit => .string r) (fun x => []) (fun x => []) (fun _ => Φ) := by
  refine enterK Try.func39 rfl Try.ntmps39 rfl ?_
  unfold S.law18_named at h
  refine CW.reg ?_
  refine RO.val (Wt.no rfl) rfl (PV.assign rfl) ?_
  refine RO.nil ?_
  refine CW.reg ?_
  refine RO.val (Wt.no rfl) rfl (PV.move rfl) ?_
  refine RO.val (Wt.no rfl) rfl (PV.rem rfl rfl (by decide)) ?_
  refine RO.val (Wt.no rfl) rfl (PV.addW rfl rfl) ?_
  refine RO.val (Wt.no rfl) rfl (PV.conv Try.underlying5 ⟨_, Try.underlying3⟩ rfl) ?_
  refine RO.val (Wt.no rfl) rfl (PV.move rfl) ?_
  refine RO.val (Wt.no rfl) rfl (PV.quoW rfl rfl (by decide)) ?_
  refine RO.val (Wt.no rfl) rfl (PV.addW rfl rfl) ?_
  refine RO.val (Wt.no rfl) rfl (PV.conv Try.underlying5 ⟨_, Try.underlying3⟩ rfl) ?_
  refine RO.eff (Wt.no rfl) rfl (EV.buildRowQ (t := (tInt .u8)) (l := [(IntKind.u8.wrap (w64 (97 + (Int.tmod a1 26)))), (IntKind.u8.wrap (w64 (97 + (IntKind.i64.wrap (Int.tdiv a1 26)))))]) (xs := [.tmp 6, .tmp 10]) rfl (by decide) Try.underlying138 Try.sizeOf5 Try.zeroValue5 rfl rfl rfl rfl rfl) ?_
  rintro _ _ _ ⟨g1, rfl, rfl, rfl⟩
  refine RO.val (Wt.no rfl) rfl (PV.bytesStr (l := [(IntKind.u8.wrap (w64 (97 + (Int.tmod a1 26)))), (IntKind.u8.wrap (w64 (97 + (IntKind.i64.wrap (Int.tdiv a1 26)))))]) (q := (Hd.mk (some ⟨g1, 0, none⟩) 2 (fun _ _ => Hd.z))) Try.underlying138 Try.underlying9 Try.underlying5 (fun w hm hΦ => (slR_row (hm.rowAt (i := 1) rfl) (fun _ _ _ => trivial))) rfl) ?_
  refine RO.val (Wt.no rfl) rfl (PV.assign rfl) ?_
  refine RO.nil ?_
  refine CW.ret ?_
  obtain rfl := Option.some.inj h
  exact retP1 (Ψ := Φ) [0] (by decide) rfl (RV.tmp rfl) rfl (fun w hΦ => hΦ.1) ⟨(), rfl, rfl, rfl⟩

end Go.Proofs.Ytofmaoickidjcaa

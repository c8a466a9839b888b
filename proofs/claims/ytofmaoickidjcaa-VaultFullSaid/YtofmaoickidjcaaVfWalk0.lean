/- A part of the proof: Walk (for the law Vf). -/
import Derived.Test.YtofmaoickidjcaaProg
import Derived.Test.YtofmaoickidjcaaVfIns
import Derived.Test.YtofmaoickidjcaaVfPlain
import Derived.Test.YtofmaoickidjcaaVfSl
import Derived.Test.YtofmaoickidjcaaVfSortL
set_option linter.all false
namespace Go.Proofs.Ytofmaoickidjcaa
open Go Go.Sx Go.S
set_option maxHeartbeats 1000000
set_option maxRecDepth 4000
theorem Try.eqq37 {d : Nat} {x y : Vector Int 8} {h1 h2 : Hs} : EqOf Try.prog (d + 2) 37 (.agg (S.t_A8_int.enc x h1).toArray) (.agg (S.t_A8_int.enc y h2).toArray) (decide (x = y)) := by
  have h := EqOf.array (P := Try.prog) (d := d + 1) (f := fun i => decide ((if hn : i < 8 then x[i]'hn else 0) = (if hn : i < 8 then y[i]'hn else 0))) (g1 := fun i => [.int .i64 (if hn : i < 8 then x[i]'hn else 0)]) (g2 := fun i => [.int .i64 (if hn : i < 8 then y[i]'hn else 0)]) (xs := S.t_A8_int.enc x h1) (ys := S.t_A8_int.enc y h2) Try.underlying37 Try.TF3 (by decide) (fun i hi => ⟨by rw [idx_A8_int _ _ _ hi]; simp only [dif_pos hi], rfl⟩) (fun i hi => ⟨by rw [idx_A8_int _ _ _ hi]; simp only [dif_pos hi], rfl⟩) (fun i hi => (EqOf.int Try.underlying3))
  rw [show decide (x = y) = (List.range 8).all (fun i => decide ((if hn : i < 8 then x[i]'hn else 0) = (if hn : i < 8 then y[i]'hn else 0))) by
    rw [Bool.eq_iff_iff]
    simp only [decide_eq_true_eq, List.all_eq_true, List.mem_range]
    constructor
    · rintro rfl i hi; rfl
    · intro hh; ext i hi; have := hh i hi; simp only [dif_pos hi] at this; first | exact this | rw [this]]
  exact h
theorem Try.eqq45 {d : Nat} {x y : S.Dot} {h1 h2 : Hs} : EqOf Try.prog (d + 2) 45 (.agg (S.t_Dot.enc x h1).toArray) (.agg (S.t_Dot.enc y h2).toArray) (decide (x = y)) := by
  have h : EqOf Try.prog (d + 2) 45 (.agg (S.t_Dot.enc x h1).toArray) (.agg (S.t_Dot.enc y h2).toArray) ((decide (x.Node = y.Node) && (decide (x.N = y.N) && true))) :=
    EqOf.struct Try.underlying45 Try.stoodInHeld45 (EqFs.cons (by decide) Try.TF3 rfl rfl rfl rfl (by decide) (EqOf.int Try.underlying3) (EqFs.cons (by decide) Try.TF3 rfl rfl rfl rfl (by decide) (EqOf.int Try.underlying3) EqFs.nil))
  rw [show decide (x = y) = ((decide (x.Node = y.Node) && (decide (x.N = y.N) && true))) by cases x; cases y; rw [Bool.eq_iff_iff]; simp]
  exact h
theorem Try.eqq80 {d : Nat} {x y : S.Val} {h1 h2 : Hs} : EqOf Try.prog (d + 3) 80 (.agg (S.t_Val.enc x h1).toArray) (.agg (S.t_Val.enc y h2).toArray) (decide (x = y)) := by
  have h : EqOf Try.prog (d + 3) 80 (.agg (S.t_Val.enc x h1).toArray) (.agg (S.t_Val.enc y h2).toArray) ((decide (x.Dot = y.Dot) && (decide (x.Data = y.Data) && true))) :=
    EqOf.struct Try.underlying80 Try.stoodInHeld80 (EqFs.cons (by decide) Try.TF45 rfl rfl rfl rfl (by decide) (Try.eqq45 (h1 := fun _ => Hd.z) (h2 := fun _ => Hd.z)) (EqFs.cons (by decide) Try.TF9 rfl rfl rfl rfl (by decide) (EqOf.str Try.underlying9) EqFs.nil))
  rw [show decide (x = y) = ((decide (x.Dot = y.Dot) && (decide (x.Data = y.Data) && true))) by cases x; cases y; rw [Bool.eq_iff_iff]; simp]
  exact h
theorem Try.eqq25 {d : Nat} {x y : Vector Int 8} {h1 h2 : Hs} : EqOf Try.prog (d + 2) 25 (.agg (S.t_A8_int.enc x h1).toArray) (.agg (S.t_A8_int.enc y h2).toArray) (decide (x = y)) := by
  have h := EqOf.array (P := Try.prog) (d := d + 1) (f := fun i => decide ((if hn : i < 8 then x[i]'hn else 0) = (if hn : i < 8 then y[i]'hn else 0))) (g1 := fun i => [.int .i64 (if hn : i < 8 then x[i]'hn else 0)]) (g2 := fun i => [.int .i64 (if hn : i < 8 then y[i]'hn else 0)]) (xs := S.t_A8_int.enc x h1) (ys := S.t_A8_int.enc y h2) Try.underlying25 Try.TF3 (by decide) (fun i hi => ⟨by rw [idx_A8_int _ _ _ hi]; simp only [dif_pos hi], rfl⟩) (fun i hi => ⟨by rw [idx_A8_int _ _ _ hi]; simp only [dif_pos hi], rfl⟩) (fun i hi => (EqOf.int Try.underlying3))
  rw [show decide (x = y) = (List.range 8).all (fun i => decide ((if hn : i < 8 then x[i]'hn else 0) = (if hn : i < 8 then y[i]'hn else 0))) by
    rw [Bool.eq_iff_iff]
    simp only [decide_eq_true_eq, List.all_eq_true, List.mem_range]
    constructor
    · rintro rfl i hi; rfl
    · intro hh; ext i hi; have := hh i hi; simp only [dif_pos hi] at this; first | exact this | rw [this]]
  exact h
theorem Try.eqq30 {d : Nat} {x y : S.Entry} {h1 h2 : Hs} : EqOf Try.prog (d + 2) 30 (.agg (S.t_Entry.enc x h1).toArray) (.agg (S.t_Entry.enc y h2).toArray) (decide (x = y)) := by
  have h : EqOf Try.prog (d + 2) 30 (.agg (S.t_Entry.enc x h1).toArray) (.agg (S.t_Entry.enc y h2).toArray) ((decide (x.Epoch = y.Epoch) && (decide (x.Owner = y.Owner) && true))) :=
    EqOf.struct Try.underlying30 Try.stoodInHeld30 (EqFs.cons (by decide) Try.TF3 rfl rfl rfl rfl (by decide) (EqOf.int Try.underlying3) (EqFs.cons (by decide) Try.TF3 rfl rfl rfl rfl (by decide) (EqOf.int Try.underlying3) EqFs.nil))
  rw [show decide (x = y) = ((decide (x.Epoch = y.Epoch) && (decide (x.Owner = y.Owner) && true))) by cases x; cases y; rw [Bool.eq_iff_iff]; simp]
  exact h
theorem Try.eqq31 {d : Nat} {x y : Vector S.Entry 16} {h1 h2 : Hs} : EqOf Try.prog (d + 3) 31 (.agg (S.t_A16_Entry.enc x h1).toArray) (.agg (S.t_A16_Entry.enc y h2).toArray) (decide (x = y)) := by
  have h := EqOf.array (P := Try.prog) (d := d + 2) (f := fun i => decide ((if hn : i < 16 then x[i]'hn else S.Entry.z) = (if hn : i < 16 then y[i]'hn else S.Entry.z))) (g1 := fun i => S.t_Entry.enc (if hn : i < 16 then x[i]'hn else S.Entry.z) (hf [])) (g2 := fun i => S.t_Entry.enc (if hn : i < 16 then y[i]'hn else S.Entry.z) (hf [])) (xs := S.t_A16_Entry.enc x h1) (ys := S.t_A16_Entry.enc y h2) Try.underlying31 Try.TF30 (by decide) (fun i hi => ⟨by rw [idx_A16_Entry _ _ _ hi]; simp only [dif_pos hi], rfl⟩) (fun i hi => ⟨by rw [idx_A16_Entry _ _ _ hi]; simp only [dif_pos hi], rfl⟩) (fun i hi => (Try.eqq30 (h1 := fun _ => Hd.z) (h2 := fun _ => Hd.z)))
  rw [show decide (x = y) = (List.range 16).all (fun i => decide ((if hn : i < 16 then x[i]'hn else S.Entry.z) = (if hn : i < 16 then y[i]'hn else S.Entry.z))) by
    rw [Bool.eq_iff_iff]
    simp only [decide_eq_true_eq, List.all_eq_true, List.mem_range]
    constructor
    · rintro rfl i hi; rfl
    · intro hh; ext i hi; have := hh i hi; simp only [dif_pos hi] at this; first | exact this | rw [this]]
  exact h
theorem W_spot_May {D : Mem} {Φ : World → Prop} (a1 : ByteArray) {r : Bool} (h : S.spot_May a1 = some r) :
    SpecK Try.prog 8 [.string a1] D [] Φ (fun x : Unit => .bool r) (fun x => []) (fun x => []) (fun _ => Φ) := by
  refine enterK Try.func8 rfl Try.ntmps8 rfl ?_
  unfold S.spot_May at h
  refine CW.reg ?_
  refine RO.val (Wt.no rfl) rfl (PV.assign rfl) ?_
  refine RO.nil ?_
  by_cases hb1 : (decide (1 ≤ (a1.size : Int))) = true
  · replace h := iteT hb1 h
    refine CW.reg ?_
    refine RO.val (Wt.no rfl) rfl (PV.move rfl) ?_
    refine RO.val (Wt.no rfl) rfl (PV.lenStr Try.underlying9 rfl) ?_
    refine RO.val (Wt.no rfl) rfl (PV.geq rfl rfl) ?_
    refine RO.val (Wt.no rfl) rfl ((PV.move rfl).to (congrArg Value.bool hb1)) ?_
    refine RO.val (Wt.yes rfl rfl rfl rfl) rfl (PV.move rfl) ?_
    refine RO.val (Wt.yes rfl rfl rfl rfl) rfl (PV.lenStr Try.underlying9 rfl) ?_
    refine RO.val (Wt.yes rfl rfl rfl rfl) rfl (PV.leq rfl rfl) ?_
    refine RO.val (Wt.no rfl) rfl (PV.pickT rfl rfl) ?_
    refine RO.val (Wt.no rfl) rfl (PV.assign rfl) ?_
    refine RO.nil ?_
    refine CW.ret ?_
    obtain rfl := Option.some.inj h
    exact retP1 (Ψ := Φ) [0] (by decide) rfl (RV.tmp rfl) rfl (fun w hΦ => hΦ.1) ⟨(), rfl, rfl, rfl⟩
  · replace hb1 := Bool.eq_false_iff.2 hb1
    replace h := iteF hb1 h
    refine CW.reg ?_
    refine RO.val (Wt.no rfl) rfl (PV.move rfl) ?_
    refine RO.val (Wt.no rfl) rfl (PV.lenStr Try.underlying9 rfl) ?_
    refine RO.val (Wt.no rfl) rfl (PV.geq rfl rfl) ?_
    refine RO.val (Wt.no rfl) rfl ((PV.move rfl).to (congrArg Value.bool hb1)) ?_
    refine RO.skip (Un.mk rfl rfl rfl rfl) rfl ?_
    refine RO.skip (Un.mk rfl rfl rfl rfl) rfl ?_
    refine RO.skip (Un.mk rfl rfl rfl rfl) rfl ?_
    refine RO.val (Wt.no rfl) rfl (PV.pickF rfl rfl) ?_
    refine RO.val (Wt.no rfl) rfl (PV.assign rfl) ?_
    refine RO.nil ?_
    refine CW.ret ?_
    obtain rfl := Option.some.inj h
    exact retP1 (Ψ := Φ) [0] (by decide) rfl (RV.tmp rfl) rfl (fun w hΦ => hΦ.1) ⟨(), rfl, rfl, rfl⟩

theorem W_ledger_New {D : Mem} {Φ : World → Prop} (a1 : Int) {r : S.ledger_Ledger} (h : S.ledger_New a1 = some r) :
    SpecK Try.prog 15 [.int .i64 a1] D [] Φ (fun x : Nat × Hd => .pointer (some ⟨x.1, 0, none⟩)) (fun x => []) (fun x => [.blk x.1 (S.t_ledger_Ledger.enc r (hf [x.2])), rowE S.t_Deed 106 r.l x.2]) (fun x w => Φ w ∧ (rdS S.t_Deed w r.l x.2.sub)) := by
  refine enterK Try.func15 rfl Try.ntmps15 rfl ?_
  unfold S.ledger_New at h
  refine CW.reg ?_
  refine RO.val (Wt.no rfl) rfl (PV.assign rfl) ?_
  refine RO.nil ?_
  refine CW.reg ?_
  refine RO.val (Wt.no rfl) rfl (PV.move rfl) ?_
  refine RO.val (Wt.no rfl) rfl (PV.min rfl rfl) ?_
  refine RO.val (Wt.no rfl) rfl (PV.max rfl rfl) ?_
  refine RO.val (Wt.no rfl) rfl (PV.buildS (B := S.t_ledger_Ledger.enc ({ S.ledger_Ledger.z with room_ := (max 0 (min a1 3000)) } : S.ledger_Ledger) (hf [Hd.z])) (xs := [.tmp 5]) [(2, 2, 1)] Try.BT108 rfl rfl rfl (by decide) ⟨rfl, rfl, trivial⟩ rfl) ?_
  refine RO.eff (Wt.no rfl) rfl (EV.boxB (B := S.t_ledger_Ledger.enc ({ S.ledger_Ledger.z with room_ := (max 0 (min a1 3000)) } : S.ledger_Ledger) (hf [Hd.z])) rfl rfl) ?_
  rintro _ _ _ ⟨g1, rfl, rfl, rfl⟩
  refine RO.val (Wt.no rfl) rfl (PV.assign rfl) ?_
  refine RO.nil ?_
  refine CW.ret ?_
  refine QC.row 106 56 ?_
  obtain rfl := Option.some.inj h
  exact retP1 (Ψ := fun w => Φ w ∧ (rdS S.t_Deed w (({ S.ledger_Ledger.z with room_ := (max 0 (min a1 3000)) } : S.ledger_Ledger).l) Hd.z.sub)) [0, 1, 2] (by decide) rfl (RV.tmp rfl) rfl (fun w hΦ => ⟨hΦ.1, rdS.nil⟩) ⟨(g1, Hd.z), rfl, rfl, rfl⟩

theorem W_slices_Clone_api_Value_api_Value {D : Mem} {Φ : World → Prop} (a1 : List S.Val) (b1 : Hd) {r : List S.Val} (h : S.slices_Clone_api_Value_api_Value a1 = some r) (hR : ∀ w, MemOk D w → Φ w → slR S.t_Val w a1 b1) :
    SpecK Try.prog 59 [.slice b1.a a1.length b1.cap] D [] Φ (fun x : Hd => .slice x.a r.length x.cap) (fun x => []) (fun x => [rowE S.t_Val 80 r x]) (fun _ => Φ) := by
  refine enterK Try.func59 rfl Try.ntmps59 rfl ?_
  unfold S.slices_Clone_api_Value_api_Value at h
  refine CW.know (p := hdOk a1.length b1) (fun w hm hΦ => (hR w (hm.frameAt (i := 0) rfl) hΦ.1).1.2) (fun hf => ?_)
  refine CW.reg ?_
  refine RO.val (Wt.no rfl) rfl (PV.assign rfl) ?_
  refine RO.nil ?_
  refine CW.seq ?_
  refine CW.reg ?_
  refine RO.val (Wt.no rfl) rfl (PV.move rfl) ?_
  refine RO.val (Wt.no rfl) rfl (PV.eqlSl Try.underlying38 rfl rfl) ?_
  refine RO.nil ?_
  refine CW.cond rfl (fun hc4 => ?_) (fun hc4 => ?_)
  · refine CW.reg ?_
    refine RO.val (Wt.no rfl) rfl (PV.assign rfl) ?_
    refine RO.nil ?_
    refine CW.ret ?_
    refine QC.then_r ?_
    obtain rfl : a1 = [] := by
      rcases hf with ⟨_, hn⟩ | ⟨ha, _⟩
      · exact List.length_eq_zero_iff.1 hn
      · rw [ha] at hc4; simp at hc4
    obtain rfl : [] = r := (appsG_some h).2
    refine QC.row 80 3 ?_
    exact retP1 (Ψ := Φ) [0, 1] (by decide) rfl (RV.tmp rfl) rfl (fun w hΦ => hΦ.1) ⟨Hd.z, rfl, rfl, rfl⟩
  · refine CW.skip ?_
    refine QC.then_n ?_
    refine CW.reg ?_
    refine RO.eff (Wt.no rfl) rfl (EV.buildRowQ (t := S.t_Val) (l := []) (xs := []) rfl (by decide) Try.underlying38 Try.sizeOf80 Try.zeroValue80 rfl rfl rfl rfl rfl) ?_
    rintro _ _ _ ⟨g5, rfl, rfl, rfl⟩
    refine RO.val (Wt.no rfl) rfl (PV.move rfl) ?_
    refine RO.eff (Wt.no rfl) rfl (EV.appQL (bytes := 32) (t := S.t_Val) (l := []) (l2 := a1) (q := .mk (some ⟨g5, 0, none⟩) 0 (fun _ _ => Hd.z)) (q2 := b1) 1 Try.underlying38 Try.sizeOf80 Try.inf80 rfl rfl rfl rfl (by decide) rfl rfl rfl (fun w hm hΦ => hR w (hm.frameAt (i := 0) rfl) hΦ.1) h (by decide)) ?_
    rintro _ _ _ ⟨a7, c7, rfl, rfl, rfl⟩
    refine RO.val (Wt.no rfl) rfl (PV.assign rfl) ?_
    refine RO.nil ?_
    refine CW.ret ?_
    exact retP1 (Ψ := Φ) [0, 1] (by decide) rfl (RV.tmp rfl) rfl (fun w hΦ => hΦ.1) ⟨_, rfl, rfl, rfl⟩

theorem W_slices_Clone_int_int {D : Mem} {Φ : World → Prop} (a1 : List Int) (b1 : Hd) {r : List Int} (h : S.slices_Clone_int_int a1 = some r) (hR : ∀ w, MemOk D w → Φ w → slR (tInt .i64) w a1 b1) :
    SpecK Try.prog 112 [.slice b1.a a1.length b1.cap] D [] Φ (fun x : Hd => .slice x.a r.length x.cap) (fun x => []) (fun x => [rowE (tInt .i64) 3 r x]) (fun _ => Φ) := by
  refine enterK Try.func112 rfl Try.ntmps112 rfl ?_
  unfold S.slices_Clone_int_int at h
  refine CW.know (p := hdOk a1.length b1) (fun w hm hΦ => (hR w (hm.frameAt (i := 0) rfl) hΦ.1).1.2) (fun hf => ?_)
  refine CW.reg ?_
  refine RO.val (Wt.no rfl) rfl (PV.assign rfl) ?_
  refine RO.nil ?_
  refine CW.seq ?_
  refine CW.reg ?_
  refine RO.val (Wt.no rfl) rfl (PV.move rfl) ?_
  refine RO.val (Wt.no rfl) rfl (PV.eqlSl Try.underlying26 rfl rfl) ?_
  refine RO.nil ?_
  refine CW.cond rfl (fun hc4 => ?_) (fun hc4 => ?_)
  · refine CW.reg ?_
    refine RO.val (Wt.no rfl) rfl (PV.assign rfl) ?_
    refine RO.nil ?_
    refine CW.ret ?_
    refine QC.then_r ?_
    obtain rfl : a1 = [] := by
      rcases hf with ⟨_, hn⟩ | ⟨ha, _⟩
      · exact List.length_eq_zero_iff.1 hn
      · rw [ha] at hc4; simp at hc4
    obtain rfl : [] = r := (appsG_some h).2
    refine QC.row 3 1 ?_
    exact retP1 (Ψ := Φ) [0, 1] (by decide) rfl (RV.tmp rfl) rfl (fun w hΦ => hΦ.1) ⟨Hd.z, rfl, rfl, rfl⟩
  · refine CW.skip ?_
    refine QC.then_n ?_
    refine CW.reg ?_
    refine RO.eff (Wt.no rfl) rfl (EV.buildRowQ (t := (tInt .i64)) (l := []) (xs := []) rfl (by decide) Try.underlying26 Try.sizeOf3 Try.zeroValue3 rfl rfl rfl rfl rfl) ?_
    rintro _ _ _ ⟨g5, rfl, rfl, rfl⟩
    refine RO.val (Wt.no rfl) rfl (PV.move rfl) ?_
    refine RO.eff (Wt.no rfl) rfl (EV.appQL (bytes := 8) (t := (tInt .i64)) (l := []) (l2 := a1) (q := .mk (some ⟨g5, 0, none⟩) 0 (fun _ _ => Hd.z)) (q2 := b1) 1 Try.underlying26 Try.sizeOf3 Try.inf3 rfl rfl rfl rfl (by decide) rfl rfl rfl (fun w hm hΦ => hR w (hm.frameAt (i := 0) rfl) hΦ.1) h (by decide)) ?_
    rintro _ _ _ ⟨a7, c7, rfl, rfl, rfl⟩
    refine RO.val (Wt.no rfl) rfl (PV.assign rfl) ?_
    refine RO.nil ?_
    refine CW.ret ?_
    exact retP1 (Ψ := Φ) [0, 1] (by decide) rfl (RV.tmp rfl) rfl (fun w hΦ => hΦ.1) ⟨_, rfl, rfl, rfl⟩

theorem W_ledger_copied {D : Mem} {Φ : World → Prop} (a1 : S.Deed) (b1_0 : Hd) (b1_1 : Hd) {r : S.Deed} (h : S.ledger_copied a1 = some r) (hR : ∀ w, MemOk D w → Φ w → (slR S.t_Val w a1.Bag.Values b1_0 ∧ slR (tInt .i64) w a1.Ring.Plan.Targets b1_1)) :
    SpecK Try.prog 86 [.agg (S.t_Deed.enc a1 (hf [b1_0, b1_1])).toArray] D [] Φ (fun x : Hd × Hd => .agg (S.t_Deed.enc r (hf [x.1, x.2])).toArray) (fun x => []) (fun x => []) (fun x w => Φ w ∧ (slR S.t_Val w r.Bag.Values x.1 ∧ slR (tInt .i64) w r.Ring.Plan.Targets x.2)) := by
  refine enterK Try.func86 rfl Try.ntmps86 rfl ?_
  unfold S.ledger_copied at h
  refine CW.reg ?_
  refine RO.eff (Wt.no rfl) rfl (EV.boxB (B := S.t_Deed.enc a1 (hf [b1_0, b1_1])) rfl rfl) ?_
  rintro _ _ _ ⟨g1, rfl, rfl, rfl⟩
  refine RO.eff (Wt.no rfl) rfl (EV.allocB (B := S.t_Deed.enc S.Deed.z (hf [Hd.z, Hd.z])) Try.zeroValue106 rfl) ?_
  rintro _ _ _ ⟨g2, rfl, rfl, rfl⟩
  refine RO.nil ?_
  replace h := bindS h
  obtain ⟨v3, hx4, h⟩ := h
  refine CW.reg ?_
  refine RO.val (Wt.no rfl) rfl (PV.fieldAddr Try.fa106_3 rfl) ?_
  refine RO.val (Wt.no rfl) rfl (PV.fieldAddr Try.fa40_1 rfl) ?_
  refine RO.val (Wt.no rfl) rfl (PV.loadM (l := [.slice b1_0.a a1.Bag.Values.length b1_0.cap]) 1 Try.TF38 rfl rfl (cut_Deed_Bag_Values _ _) rfl (by decide)) ?_
  refine RO.eff (Wt.no rfl) rfl (EV.call (K := _) Try.call59 rfl (SpecK.call0 (W_slices_Clone_api_Value_api_Value a1.Bag.Values b1_0 hx4 (fun w hm hΦ => (hR w (hm.frameAt (i := 0) rfl) (hΦ.1)).1)))) ?_
  rintro _ _ _ ⟨q5, rfl, rfl, rfl⟩
  refine RO.val (Wt.no rfl) rfl (PV.fieldAddr Try.fa106_3 rfl) ?_
  refine RO.val (Wt.no rfl) rfl (PV.fieldAddr Try.fa40_1 rfl) ?_
  refine RO.eff (Wt.no rfl) rfl (EV.storeB (B := S.t_Deed.enc ({ a1 with Bag := ({ a1.Bag with Values := v3 } : S.Bag) } : S.Deed) (hf [q5, b1_1])) 1 Try.TF38 rfl rfl rfl rfl rfl (by rw [S.t_Deed.len]; decide) (wr_Deed_Bag_Values a1 b1_0 b1_1 q5 v3)) ?_
  rintro _ _ _ ⟨rfl, rfl, rfl⟩
  refine RO.nil ?_
  replace h := bindS h
  obtain ⟨v6, hx7, h⟩ := h
  refine CW.reg ?_
  refine RO.val (Wt.no rfl) rfl (PV.fieldAddr Try.fa106_4 rfl) ?_
  refine RO.val (Wt.no rfl) rfl (PV.fieldAddr Try.fa33_1 rfl) ?_
  refine RO.val (Wt.no rfl) rfl (PV.fieldAddr Try.fa28_2 rfl) ?_
  refine RO.val (Wt.no rfl) rfl (PV.loadM (l := [.slice b1_1.a a1.Ring.Plan.Targets.length b1_1.cap]) 1 Try.TF26 rfl rfl (cut_Deed_Ring_Plan_Targets _ _) rfl (by decide)) ?_
  refine RO.eff (Wt.no rfl) rfl (EV.call (K := _) Try.call112 rfl (SpecK.call0 (W_slices_Clone_int_int a1.Ring.Plan.Targets b1_1 hx7 (fun w hm hΦ => (hR w (hm.frameAt (i := 0) rfl) (hΦ.1)).2)))) ?_
  rintro _ _ _ ⟨q8, rfl, rfl, rfl⟩
  refine RO.val (Wt.no rfl) rfl (PV.fieldAddr Try.fa106_4 rfl) ?_
  refine RO.val (Wt.no rfl) rfl (PV.fieldAddr Try.fa33_1 rfl) ?_
  refine RO.val (Wt.no rfl) rfl (PV.fieldAddr Try.fa28_2 rfl) ?_
  refine RO.eff (Wt.no rfl) rfl (EV.storeB (B := S.t_Deed.enc ({ a1 with Bag := ({ a1.Bag with Values := v3 } : S.Bag), Ring := ({ a1.Ring with Plan := ({ a1.Ring.Plan with Targets := v6 } : S.Plan) } : S.Ring) } : S.Deed) (hf [q5, q8])) 1 Try.TF26 rfl rfl rfl rfl rfl (by rw [S.t_Deed.len]; decide) (wr_Deed_Ring_Plan_Targets ({ a1 with Bag := ({ a1.Bag with Values := v3 } : S.Bag) } : S.Deed) q5 b1_1 q8 v6)) ?_
  rintro _ _ _ ⟨rfl, rfl, rfl⟩
  refine RO.nil ?_
  refine CW.reg ?_
  refine RO.val (Wt.no rfl) rfl (PV.loadM (l := S.t_Deed.enc ({ a1 with Bag := ({ a1.Bag with Values := v3 } : S.Bag), Ring := ({ a1.Ring with Plan := ({ a1.Ring.Plan with Targets := v6 } : S.Plan) } : S.Ring) } : S.Deed) (hf [q5, q8])) 1 Try.TF106 rfl rfl (cut_self (S.t_Deed.len _ _)) rfl (by decide)) ?_
  refine RO.eff (Wt.no rfl) rfl (EV.storeW (B := S.t_Deed.enc ({ a1 with Bag := ({ a1.Bag with Values := v3 } : S.Bag), Ring := ({ a1.Ring with Plan := ({ a1.Ring.Plan with Targets := v6 } : S.Plan) } : S.Ring) } : S.Deed) (hf [q5, q8])) 2 Try.TF106 rfl rfl rfl (by exact S.t_Deed.len ({ a1 with Bag := ({ a1.Bag with Values := v3 } : S.Bag), Ring := ({ a1.Ring with Plan := ({ a1.Ring.Plan with Targets := v6 } : S.Plan) } : S.Ring) } : S.Deed) (hf [q5, q8])) (by exact S.t_Deed.one ({ a1 with Bag := ({ a1.Bag with Values := v3 } : S.Bag), Ring := ({ a1.Ring with Plan := ({ a1.Ring.Plan with Targets := v6 } : S.Plan) } : S.Ring) } : S.Deed) (hf [q5, q8])) (S.t_Deed.len S.Deed.z (hf [Hd.z, Hd.z])) rfl) ?_
  rintro _ _ _ ⟨rfl, rfl, rfl⟩
  refine RO.nil ?_
  refine CW.ret ?_
  refine QC.freeze (t := S.t_Val) 3 rfl (fun w hΦ => (fun _ _ _ => trivial)) ?_
  refine QC.freeze (t := (tInt .i64)) 4 rfl (fun w hΦ => (fun _ _ _ => trivial)) ?_
  obtain rfl := Option.some.inj h
  exact retP1 (Ψ := fun w => Φ w ∧ (slR S.t_Val w v3 q5 ∧ slR (tInt .i64) w v6 q8)) [0] (by decide) rfl (RV.cell (A := S.t_Deed.enc ({ a1 with Bag := ({ a1.Bag with Values := v3 } : S.Bag), Ring := ({ a1.Ring with Plan := ({ a1.Ring.Plan with Targets := v6 } : S.Plan) } : S.Ring) } : S.Deed) (hf [q5, q8])) 2 rfl Try.TF106 rfl (S.t_Deed.len _ _) (by decide)) rfl (fun w hΦ => ⟨hΦ.1.1.1, (hΦ.1.2), (hΦ.2)⟩) ⟨(q5, q8), rfl, rfl, rfl⟩

theorem W_ledger_Ledger_All {D : Mem} {Φ : World → Prop} (a1 : S.ledger_Ledger) (ga1_0 : Nat) (b1_0 : Hd) {r : (List S.Deed)} (h : S.ledger_Ledger_All a1 = some r) (hR : ∀ w, MemOk D w → Φ w → (rdS S.t_Deed w a1.l b1_0.sub)) :
    SpecK Try.prog 53 [.pointer (pq ga1_0).a] D [.blk ga1_0 (S.t_ledger_Ledger.enc a1 (hf [b1_0])), rowE S.t_Deed 106 a1.l b1_0] Φ (fun x : Hd => .slice x.a r.length x.cap) (fun x => [.blk ga1_0 (S.t_ledger_Ledger.enc a1 (hf [b1_0])), rowE S.t_Deed 106 a1.l b1_0]) (fun x => []) (fun x w => Φ w ∧ (slR S.t_Deed w r x)) := by
  refine enterK Try.func53 rfl Try.ntmps53 rfl ?_
  unfold S.ledger_Ledger_All at h
  refine CW.reg ?_
  refine RO.val (Wt.no rfl) rfl (PV.assign rfl) ?_
  refine RO.nil ?_
  refine CW.reg ?_
  refine RO.val (Wt.no rfl) rfl (PV.assign rfl) ?_
  refine RO.nil ?_
  refine CW.row 106 56 ?_
  replace h := bindS h
  obtain ⟨e6, h, hk5⟩ := h
  refine CW.meet (X := (List S.Deed) × Hd) (fun x => [(2, .slice Hd.z.a 0 Hd.z.cap), (3, .slice x.2.a x.1.length x.2.cap)]) (fun x => [frame D, .blk ga1_0 (S.t_ledger_Ledger.enc a1 (hf [b1_0])), rowE S.t_Deed 106 a1.l b1_0, rowE S.t_Deed 106 x.1 x.2]) (fun x w => (Φ w ∧ True) ∧ (rdS S.t_Deed w x.1 x.2.sub)) (fun x => S.ledger_Ledger_All_j3 x.1 = some r) ?_ ?_
  · skip
    refine CW.reg ?_
    refine RO.val (Wt.no rfl) rfl (PV.move rfl) ?_
    refine RO.val (Wt.no rfl) rfl ((PV.neqPtr Try.underlying48 rfl rfl).to rfl) ?_
    refine RO.nil ?_
    refine CW.condT rfl ?_
    refine CW.reg ?_
    refine RO.val (Wt.no rfl) rfl (PV.move rfl) ?_
    refine RO.val (Wt.no rfl) rfl (PV.nilCheck rfl) ?_
    refine RO.val (Wt.no rfl) rfl (PV.fieldAddr Try.fa108_0 rfl) ?_
    refine RO.val (Wt.no rfl) rfl (PV.loadM (l := [.slice b1_0.a a1.l.length b1_0.cap]) 1 Try.TF103 rfl rfl (cut_ledger_Ledger_l _ _) rfl (by decide)) ?_
    refine RO.val (Wt.no rfl) rfl (PV.lenS Try.underlying103 rfl) ?_
    refine RO.val (Wt.no rfl) rfl (PV.move rfl) ?_
    refine RO.nil ?_
    refine CW.block ?_
    refine CW.loopE (X := Nat × (List S.Deed) × Int × Hd) (fun x => [(2, .slice Hd.z.a 0 Hd.z.cap), (3, .slice x.2.2.2.a x.2.1.length x.2.2.2.cap), (11, .slice b1_0.a a1.l.length b1_0.cap), (12, .int .i64 (a1.l.length : Int)), (13, .int .i64 x.2.2.1)]) (fun x => [frame D, .blk ga1_0 (S.t_ledger_Ledger.enc a1 (hf [b1_0])), rowE S.t_Deed 106 a1.l b1_0, rowE S.t_Deed 106 x.2.1 x.2.2.2]) (fun x w => (Φ w ∧ True) ∧ (rdS S.t_Deed w x.2.1 x.2.2.2.sub)) (fun x => loopN (S.ledger_Ledger_All_l4 a1) x.1 (x.2.1, x.2.2.1) = some e6) (fun x => x.1) (FUEL, [], 0, Hd.z) h (by exact ⟨rfl, rfl, rfl, rfl, rfl, trivial⟩) rfl (fun w hΦ => ⟨hΦ, rdS.nil⟩) ?_
    rintro ⟨n18', v13, v15, q14⟩ hI16
    try dsimp only at hI16 ⊢
    obtain ⟨n18, y17, rfl, h, hk19⟩ := loopN_some hI16
    unfold S.ledger_Ledger_All_l4 at h
    try dsimp only at h
    refine CW.reg ?_
    refine RO.val (Wt.no rfl) rfl (PV.lss rfl rfl) ?_
    refine RO.nil ?_
    refine CW.seq ?_
    refine CW.cond rfl (fun hb20 => ?_) (fun hb20 => ?_)
    · replace h := iteT hb20 h
      refine CW.skip ?_
      refine QC.then_n ?_
      refine CW.seq ?_
      refine CW.block ?_
      replace h := bindS h
      obtain ⟨v21, hx22, h⟩ := h
      refine CW.reg ?_
      refine RO.val (Wt.no rfl) rfl (PV.idxQ (t := S.t_Deed) (l := a1.l) (q := b1_0) Try.underlying103 Try.sizeOf106 (fun w hm hΦ => (slR_row (hm.rowAt (i := 2) rfl) (hR w (hm.frameAt (i := 0) rfl) (hΦ.1.1)))) rfl rfl hx22) ?_
      refine RO.val (Wt.no rfl) rfl (PV.loadQ (off := 0) (cs := S.t_Deed.enc v21 (hf [(b1_0.sub v15.toNat 0), (b1_0.sub v15.toNat 1)])) (t := S.t_Deed) (l := a1.l) (q := b1_0) Try.TF106 (fun w hm hΦ => (slR_row (hm.rowAt (i := 2) rfl) (hR w (hm.frameAt (i := 0) rfl) (hΦ.1.1)))) hx22 rfl rfl rfl (cut_self (S.t_Deed.len _ _)) rfl (by decide)) ?_
      refine RO.eff (Wt.no rfl) rfl (EV.allocB (B := S.t_Deed.enc S.Deed.z (hf [Hd.z, Hd.z])) Try.zeroValue106 rfl) ?_
      rintro _ _ _ ⟨g23, rfl, rfl, rfl⟩
      refine RO.eff (Wt.no rfl) rfl (EV.storeW (B := S.t_Deed.enc v21 (hf [(b1_0.sub v15.toNat 0), (b1_0.sub v15.toNat 1)])) 4 Try.TF106 rfl rfl rfl (by exact S.t_Deed.len v21 (hf [(b1_0.sub v15.toNat 0), (b1_0.sub v15.toNat 1)])) (by exact S.t_Deed.one v21 (hf [(b1_0.sub v15.toNat 0), (b1_0.sub v15.toNat 1)])) (S.t_Deed.len S.Deed.z (hf [Hd.z, Hd.z])) rfl) ?_
      rintro _ _ _ ⟨rfl, rfl, rfl⟩
      refine RO.nil ?_
      replace h := bindS h
      obtain ⟨v24, hx25, h⟩ := h
      replace h := bindS h
      obtain ⟨v30, hx31, h⟩ := h
      refine CW.region ?_
      refine RO.val (Wt.no rfl) rfl (PV.move rfl) ?_
      refine RO.val (Wt.no rfl) rfl (PV.loadM (l := S.t_Deed.enc v21 (hf [(b1_0.sub v15.toNat 0), (b1_0.sub v15.toNat 1)])) 4 Try.TF106 rfl rfl (cut_self (S.t_Deed.len _ _)) rfl (by decide)) ?_
      refine RO.eff (Wt.no rfl) rfl (EV.call (K := _) Try.call86 rfl (SpecK.callV (W_ledger_copied v21 (b1_0.sub v15.toNat 0) (b1_0.sub v15.toNat 1) hx25 (fun w hm hΦ => ⟨(((slR_row (hm.rowAt (i := 2) rfl) (hR w (hm.frameAt (i := 0) rfl) (hΦ.1.1))).2 _ _ (lget_some hx22).2).2.2.1), (((slR_row (hm.rowAt (i := 2) rfl) (hR w (hm.frameAt (i := 0) rfl) (hΦ.1.1))).2 _ _ (lget_some hx22).2).2.2.2)⟩)))) ?_
      rintro _ _ _ ⟨⟨q26, q27⟩, rfl, rfl, rfl⟩
      refine RO.eff (Wt.no rfl) rfl (EV.buildSlice (xs := [.tmp 19]) rfl Try.underlying103 Try.sizeOf106 Try.zeroValue106 rfl rfl rfl rfl) ?_
      rintro _ _ _ ⟨g29, rfl, rfl, rfl⟩
      refine RO.eff (Wt.no rfl) rfl (EV.appQ (bytes := 488) (t := S.t_Deed) (l := v13) (q := q14) (y := v24) (hy := hf [q26, q27]) 3 5 Try.underlying103 Try.inf106 rfl rfl rfl rfl (by decide) rfl rfl rfl rfl hx31 (by decide)) ?_
      rintro _ _ _ ⟨a32, c33, rfl, rfl, rfl⟩
      refine RO.val (Wt.no rfl) rfl (PV.assign rfl) ?_
      refine RO.nil ?_
      refine QC.blk_n ?_
      refine QC.then_n ?_
      refine CW.region ?_
      refine RO.val (Wt.no rfl) rfl (PV.addW rfl rfl) ?_
      refine RO.val (Wt.no rfl) rfl (PV.move rfl) ?_
      refine RO.nil ?_
      obtain rfl := Option.some.inj h
      refine QC.roundP (n18, v30, (w64 (v15 + 1)), (Hd.mk a32 c33 (snocS v13.length q14.sub (hf [q26, q27])))) (nextL_inl hk19) (by exact Nat.lt_succ_self _) [0, 1, 2, 3] (by decide) (by exact ⟨rfl, rfl, rfl, rfl, rfl, trivial⟩) rfl (fun w hΦ => ⟨hΦ.1.1, (rdS.snocG (hf [q26, q27]) hx31 (hΦ.1.2) ⟨(hΦ.2.1), (hΦ.2.2)⟩)⟩)
    · replace h := iteF hb20 h
      refine CW.exit ?_
      refine QC.then_x ?_
      refine QC.then_x ?_
      refine QC.blk_x ?_
      obtain rfl := Option.some.inj h
      obtain rfl := nextL_inr hk19
      refine QC.meetP (v13, q14) hk5 [0, 1, 2, 3] (by decide) (by exact ⟨rfl, rfl, trivial⟩) rfl (fun w hΦ => ⟨hΦ.1, (hΦ.2)⟩)
  · rintro ⟨v2, q3⟩ h
    try dsimp only at h ⊢
    unfold S.ledger_Ledger_All_j3 at h
    refine CW.reg ?_
    refine RO.val (Wt.no rfl) rfl (PV.move rfl) ?_
    refine RO.val (Wt.no rfl) rfl (PV.assign rfl) ?_
    refine RO.nil ?_
    refine CW.ret ?_
    refine QC.freeze (t := S.t_Deed) 3 rfl (fun w hΦ => (hΦ.2)) ?_
    obtain rfl := Option.some.inj h
    exact retP1 (Ψ := fun w => Φ w ∧ (slR S.t_Deed w v2 q3)) [0, 1, 2] (by decide) rfl (RV.tmp rfl) rfl (fun w hΦ => ⟨hΦ.1.1.1, (hΦ.2)⟩) ⟨q3, rfl, rfl, rfl⟩

theorem W_cmp_isNaN_int {D : Mem} {Φ : World → Prop} (a1 : Int) {r : Bool} (h : S.cmp_isNaN_int a1 = some r) :
    SpecK Try.prog 148 [.int .i64 a1] D [] Φ (fun x : Unit => .bool r) (fun x => []) (fun x => []) (fun _ => Φ) := by
  refine enterK Try.func148 rfl Try.ntmps148 rfl ?_
  unfold S.cmp_isNaN_int at h
  refine CW.reg ?_
  refine RO.val (Wt.no rfl) rfl (PV.assign rfl) ?_
  refine RO.nil ?_
  refine CW.reg ?_
  refine RO.val (Wt.no rfl) rfl (PV.move rfl) ?_
  refine RO.val (Wt.no rfl) rfl (PV.move rfl) ?_
  refine RO.val (Wt.no rfl) rfl (PV.neq rfl rfl) ?_
  refine RO.val (Wt.no rfl) rfl (PV.assign rfl) ?_
  refine RO.nil ?_
  refine CW.ret ?_
  obtain rfl := Option.some.inj h
  exact retP1 (Ψ := Φ) [0] (by decide) rfl (RV.tmp rfl) rfl (fun w hΦ => hΦ.1) ⟨(), rfl, rfl, rfl⟩

theorem W_cmp_Compare_int {D : Mem} {Φ : World → Prop} (a1 : Int) (a2 : Int) {r : Int} (h : S.cmp_Compare_int a1 a2 = some r) :
    SpecK Try.prog 122 [.int .i64 a1, .int .i64 a2] D [] Φ (fun x : Unit => .int .i64 r) (fun x => []) (fun x => []) (fun _ => Φ) := by
  refine enterK Try.func122 rfl Try.ntmps122 rfl ?_
  unfold S.cmp_Compare_int at h
  refine CW.reg ?_
  refine RO.val (Wt.no rfl) rfl (PV.assign rfl) ?_
  refine RO.nil ?_
  replace h := bindS h
  obtain ⟨v1, hx2, h⟩ := h
  refine CW.reg ?_
  refine RO.val (Wt.no rfl) rfl (PV.move rfl) ?_
  refine RO.eff (Wt.no rfl) rfl (EV.call (K := _) Try.call148 rfl (SpecK.callV (W_cmp_isNaN_int a1 hx2))) ?_
  rintro _ _ _ ⟨_, rfl, rfl, rfl⟩
  refine RO.val (Wt.no rfl) rfl (PV.assign rfl) ?_
  refine RO.nil ?_
  replace h := bindS h
  obtain ⟨v3, hx4, h⟩ := h
  refine CW.reg ?_
  refine RO.val (Wt.no rfl) rfl (PV.move rfl) ?_
  refine RO.eff (Wt.no rfl) rfl (EV.call (K := _) Try.call148 rfl (SpecK.callV (W_cmp_isNaN_int a2 hx4))) ?_
  rintro _ _ _ ⟨_, rfl, rfl, rfl⟩
  refine RO.val (Wt.no rfl) rfl (PV.assign rfl) ?_
  refine RO.nil ?_
  refine CW.seq ?_
  refine CW.reg ?_
  refine RO.val (Wt.no rfl) rfl (PV.move rfl) ?_
  refine RO.nil ?_
  refine CW.cond rfl (fun hb5 => ?_) (fun hb5 => ?_)
  · replace h := iteT hb5 h
    subst hb5
    refine CW.seq ?_
    refine CW.reg ?_
    refine RO.val (Wt.no rfl) rfl (PV.move rfl) ?_
    refine RO.nil ?_
    refine CW.cond rfl (fun hb6 => ?_) (fun hb6 => ?_)
    · replace h := iteT hb6 h
      subst hb6
      refine CW.reg ?_
      refine RO.val (Wt.no rfl) rfl (PV.assign rfl) ?_
      refine RO.nil ?_
      refine CW.ret ?_
      refine QC.then_r ?_
      refine QC.then_r ?_
      obtain rfl := Option.some.inj h
      exact retP1 (Ψ := Φ) [0] (by decide) rfl (RV.tmp rfl) rfl (fun w hΦ => hΦ.1) ⟨(), rfl, rfl, rfl⟩
    · replace h := iteF hb6 h
      subst hb6
      refine CW.skip ?_
      refine QC.then_n ?_
      refine CW.reg ?_
      refine RO.val (Wt.no rfl) rfl (PV.assign rfl) ?_
      refine RO.nil ?_
      refine CW.ret ?_
      refine QC.then_r ?_
      obtain rfl := Option.some.inj h
      exact retP1 (Ψ := Φ) [0] (by decide) rfl (RV.tmp rfl) rfl (fun w hΦ => hΦ.1) ⟨(), rfl, rfl, rfl⟩
  · replace h := iteF hb5 h
    subst hb5
    refine CW.skip ?_
    refine QC.then_n ?_
    refine CW.seq ?_
    refine CW.reg ?_
    refine RO.val (Wt.no rfl) rfl (PV.move rfl) ?_
    refine RO.nil ?_
    refine CW.cond rfl (fun hb7 => ?_) (fun hb7 => ?_)
    · replace h := iteT hb7 h
      subst hb7
      refine CW.reg ?_
      refine RO.val (Wt.no rfl) rfl (PV.assign rfl) ?_
      refine RO.nil ?_
      refine CW.ret ?_
      refine QC.then_r ?_
      obtain rfl := Option.some.inj h
      exact retP1 (Ψ := Φ) [0] (by decide) rfl (RV.tmp rfl) rfl (fun w hΦ => hΦ.1) ⟨(), rfl, rfl, rfl⟩
    · replace h := iteF hb7 h
      subst hb7
      refine CW.skip ?_
      refine QC.then_n ?_
      refine CW.seq ?_
      refine CW.reg ?_
      refine RO.val (Wt.no rfl) rfl (PV.move rfl) ?_
      refine RO.val (Wt.no rfl) rfl (PV.move rfl) ?_
      refine RO.val (Wt.no rfl) rfl (PV.lss rfl rfl) ?_
      refine RO.nil ?_
      refine CW.cond rfl (fun hb8 => ?_) (fun hb8 => ?_)
      · replace h := iteT hb8 h
        refine CW.reg ?_
        refine RO.val (Wt.no rfl) rfl (PV.assign rfl) ?_
        refine RO.nil ?_
        refine CW.ret ?_
        refine QC.then_r ?_
        obtain rfl := Option.some.inj h
        exact retP1 (Ψ := Φ) [0] (by decide) rfl (RV.tmp rfl) rfl (fun w hΦ => hΦ.1) ⟨(), rfl, rfl, rfl⟩
      · replace h := iteF hb8 h
        refine CW.skip ?_
        refine QC.then_n ?_
        refine CW.seq ?_
        refine CW.reg ?_
        refine RO.val (Wt.no rfl) rfl (PV.move rfl) ?_
        refine RO.val (Wt.no rfl) rfl (PV.move rfl) ?_
        refine RO.val (Wt.no rfl) rfl (PV.gtr rfl rfl) ?_
        refine RO.nil ?_
        refine CW.cond rfl (fun hb9 => ?_) (fun hb9 => ?_)
        · replace h := iteT hb9 h
          refine CW.reg ?_
          refine RO.val (Wt.no rfl) rfl (PV.assign rfl) ?_
          refine RO.nil ?_
          refine CW.ret ?_
          refine QC.then_r ?_
          obtain rfl := Option.some.inj h
          exact retP1 (Ψ := Φ) [0] (by decide) rfl (RV.tmp rfl) rfl (fun w hΦ => hΦ.1) ⟨(), rfl, rfl, rfl⟩
        · replace h := iteF hb9 h
          refine CW.skip ?_
          refine QC.then_n ?_
          refine CW.reg ?_
          refine RO.val (Wt.no rfl) rfl (PV.assign rfl) ?_
          refine RO.nil ?_
          refine CW.ret ?_
          obtain rfl := Option.some.inj h
          exact retP1 (Ψ := Φ) [0] (by decide) rfl (RV.tmp rfl) rfl (fun w hΦ => hΦ.1) ⟨(), rfl, rfl, rfl⟩

theorem W_slices_Compare_int_int {D : Mem} {Φ : World → Prop} (a1 : List Int) (a2 : List Int) (b1_0 : Hd) (b2_0 : Hd) {r : Int} (h : S.slices_Compare_int_int a1 a2 = some r) (hR : ∀ w, MemOk D w → Φ w → (slR (tInt .i64) w a1 b1_0 ∧ slR (tInt .i64) w a2 b2_0)) :
    SpecK Try.prog 156 [.slice b1_0.a a1.length b1_0.cap, .slice b2_0.a a2.length b2_0.cap] D [] Φ (fun x : Unit => .int .i64 r) (fun x => []) (fun x => []) (fun _ => Φ) := by
  refine enterK Try.func156 rfl Try.ntmps156 rfl ?_
  unfold S.slices_Compare_int_int at h
  refine CW.reg ?_
  refine RO.val (Wt.no rfl) rfl (PV.assign rfl) ?_
  refine RO.nil ?_
  replace h := andThen_some h
  obtain ⟨e4, h, hk3⟩ := h
  refine CW.meet (X := Unit) (fun x => [(0, .slice b1_0.a a1.length b1_0.cap), (1, .slice b2_0.a a2.length b2_0.cap), (4, .int .i64 0)]) (fun x => [frame D]) (fun x w => (Φ w ∧ True)) (fun x => S.slices_Compare_int_int_j2 a1 a2 = some r) ?_ ?_
  · skip
    refine CW.reg ?_
    refine RO.val (Wt.no rfl) rfl (PV.move rfl) ?_
    refine RO.val (Wt.no rfl) rfl (PV.lenS Try.underlying26 rfl) ?_
    refine RO.val (Wt.no rfl) rfl (PV.move rfl) ?_
    refine RO.nil ?_
    refine CW.block ?_
    refine CW.loopE (X := Nat × Int) (fun x => [(0, .slice b1_0.a a1.length b1_0.cap), (1, .slice b2_0.a a2.length b2_0.cap), (4, .int .i64 0), (9, .slice b1_0.a a1.length b1_0.cap), (10, .int .i64 (a1.length : Int)), (11, .int .i64 x.2)]) (fun x => [frame D]) (fun x w => (Φ w ∧ True)) (fun x => loopN (S.slices_Compare_int_int_l3 a1 a2) x.1 x.2 = some e4) (fun x => x.1) (FUEL, 0) h (by exact ⟨rfl, rfl, rfl, rfl, rfl, rfl, trivial⟩) rfl (fun w hΦ => hΦ) ?_
    rintro ⟨n12', v9⟩ hI10
    try dsimp only at hI10 ⊢
    obtain ⟨n12, y11, rfl, h, hk13⟩ := loopN_some hI10
    unfold S.slices_Compare_int_int_l3 at h
    try dsimp only at h
    refine CW.reg ?_
    refine RO.val (Wt.no rfl) rfl (PV.lss rfl rfl) ?_
    refine RO.nil ?_
    refine CW.seq ?_
    refine CW.cond rfl (fun hb14 => ?_) (fun hb14 => ?_)
    · replace h := iteT hb14 h
      refine CW.skip ?_
      refine QC.then_n ?_
      refine CW.seq ?_
      refine CW.block ?_
      replace h := bindS h
      obtain ⟨v15, hx16, h⟩ := h
      refine CW.reg ?_
      refine RO.val (Wt.no rfl) rfl (PV.move rfl) ?_
      refine RO.val (Wt.no rfl) rfl (PV.idxQ (t := (tInt .i64)) (l := a1) (q := b1_0) Try.underlying26 Try.sizeOf3 (fun w hm hΦ => (hR w (hm.frameAt (i := 0) rfl) (hΦ.1)).1) rfl rfl hx16) ?_
      refine RO.val (Wt.no rfl) rfl (PV.loadQ (off := 0) (cs := [.int .i64 v15]) (t := (tInt .i64)) (l := a1) (q := b1_0) Try.TF3 (fun w hm hΦ => (hR w (hm.frameAt (i := 0) rfl) (hΦ.1)).1) hx16 rfl rfl rfl (cut_self ((tInt .i64).len _ _)) rfl (by decide)) ?_
      refine RO.val (Wt.no rfl) rfl (PV.assign rfl) ?_
      refine RO.val (Wt.no rfl) rfl (PV.assign rfl) ?_
      refine RO.nil ?_
      refine CW.seq ?_
      refine CW.reg ?_
      refine RO.val (Wt.no rfl) rfl (PV.move rfl) ?_
      refine RO.val (Wt.no rfl) rfl (PV.move rfl) ?_
      refine RO.val (Wt.no rfl) rfl (PV.lenS Try.underlying26 rfl) ?_
      refine RO.val (Wt.no rfl) rfl (PV.geq rfl rfl) ?_
      refine RO.nil ?_
      refine CW.cond rfl (fun hb17 => ?_) (fun hb17 => ?_)
      · replace h := iteT hb17 h
        refine CW.reg ?_
        refine RO.val (Wt.no rfl) rfl (PV.assign rfl) ?_
        refine RO.nil ?_
        refine CW.ret ?_
        refine QC.then_r ?_
        refine QC.blk_r ?_
        refine QC.then_r ?_
        refine QC.then_r ?_
        refine QC.blk_r ?_
        refine QC.then_r ?_
        obtain rfl := Option.some.inj h
        obtain rfl := nextL_inr hk13
        obtain rfl := afterS_inr hk3
        exact retP1 (Ψ := Φ) [0] (by decide) rfl (RV.tmp rfl) rfl (fun w hΦ => hΦ.1) ⟨(), rfl, rfl, rfl⟩
      · replace h := iteF hb17 h
        refine CW.skip ?_
        refine QC.then_n ?_
        replace h := bindS h
        obtain ⟨v18, hx19, h⟩ := h
        refine CW.reg ?_
        refine RO.val (Wt.no rfl) rfl (PV.move rfl) ?_
        refine RO.val (Wt.no rfl) rfl (PV.move rfl) ?_
        refine RO.val (Wt.no rfl) rfl (PV.idxQ (t := (tInt .i64)) (l := a2) (q := b2_0) Try.underlying26 Try.sizeOf3 (fun w hm hΦ => (hR w (hm.frameAt (i := 0) rfl) (hΦ.1)).2) rfl rfl hx19) ?_
        refine RO.val (Wt.no rfl) rfl (PV.loadQ (off := 0) (cs := [.int .i64 v18]) (t := (tInt .i64)) (l := a2) (q := b2_0) Try.TF3 (fun w hm hΦ => (hR w (hm.frameAt (i := 0) rfl) (hΦ.1)).2) hx19 rfl rfl rfl (cut_self ((tInt .i64).len _ _)) rfl (by decide)) ?_
        refine RO.val (Wt.no rfl) rfl (PV.assign rfl) ?_
        refine RO.nil ?_
        replace h := bindS h
        obtain ⟨v20, hx21, h⟩ := h
        refine CW.reg ?_
        refine RO.val (Wt.no rfl) rfl (PV.move rfl) ?_
        refine RO.val (Wt.no rfl) rfl (PV.move rfl) ?_
        refine RO.eff (Wt.no rfl) rfl (EV.call (K := _) Try.call122 rfl (SpecK.callV (W_cmp_Compare_int v15 v18 hx21))) ?_
        rintro _ _ _ ⟨_, rfl, rfl, rfl⟩
        refine RO.val (Wt.no rfl) rfl (PV.assign rfl) ?_
        refine RO.nil ?_
        refine CW.reg ?_
        refine RO.val (Wt.no rfl) rfl (PV.move rfl) ?_
        refine RO.val (Wt.no rfl) rfl (PV.neq rfl rfl) ?_
        refine RO.nil ?_
        refine CW.cond rfl (fun hb22 => ?_) (fun hb22 => ?_)
        · replace h := iteT hb22 h
          refine CW.reg ?_
          refine RO.val (Wt.no rfl) rfl (PV.move rfl) ?_
          refine RO.val (Wt.no rfl) rfl (PV.assign rfl) ?_
          refine RO.nil ?_
          refine CW.ret ?_
          refine QC.blk_r ?_
          refine QC.then_r ?_
          refine QC.then_r ?_
          refine QC.blk_r ?_
          refine QC.then_r ?_
          obtain rfl := Option.some.inj h
          obtain rfl := nextL_inr hk13
          obtain rfl := afterS_inr hk3
          exact retP1 (Ψ := Φ) [0] (by decide) rfl (RV.tmp rfl) rfl (fun w hΦ => hΦ.1) ⟨(), rfl, rfl, rfl⟩
        · replace h := iteF hb22 h
          refine CW.skip ?_
          refine QC.blk_n ?_
          refine QC.then_n ?_
          refine CW.region ?_
          refine RO.val (Wt.no rfl) rfl (PV.addW rfl rfl) ?_
          refine RO.val (Wt.no rfl) rfl (PV.move rfl) ?_
          refine RO.nil ?_
          obtain rfl := Option.some.inj h
          refine QC.roundP (n12, (w64 (v9 + 1))) (nextL_inl hk13) (by exact Nat.lt_succ_self _) [0] (by decide) (by exact ⟨rfl, rfl, rfl, rfl, rfl, rfl, trivial⟩) rfl (fun w hΦ => hΦ)
    · replace h := iteF hb14 h
      refine CW.exit ?_
      refine QC.then_x ?_
      refine QC.then_x ?_
      refine QC.blk_x ?_
      obtain rfl := Option.some.inj h
      obtain rfl := nextL_inr hk13
      refine QC.meetP () (afterS_inl hk3) [0] (by decide) (by exact ⟨rfl, rfl, rfl, trivial⟩) rfl (fun w hΦ => hΦ)
  · rintro ⟨⟩ h
    try dsimp only at h ⊢
    unfold S.slices_Compare_int_int_j2 at h
    refine CW.seq ?_
    refine CW.reg ?_
    refine RO.val (Wt.no rfl) rfl (PV.move rfl) ?_
    refine RO.val (Wt.no rfl) rfl (PV.lenS Try.underlying26 rfl) ?_
    refine RO.val (Wt.no rfl) rfl (PV.move rfl) ?_
    refine RO.val (Wt.no rfl) rfl (PV.lenS Try.underlying26 rfl) ?_
    refine RO.val (Wt.no rfl) rfl (PV.lss rfl rfl) ?_
    refine RO.nil ?_
    refine CW.cond rfl (fun hb2 => ?_) (fun hb2 => ?_)
    · replace h := iteT hb2 h
      refine CW.reg ?_
      refine RO.val (Wt.no rfl) rfl (PV.assign rfl) ?_
      refine RO.nil ?_
      refine CW.ret ?_
      refine QC.then_r ?_
      obtain rfl := Option.some.inj h
      exact retP1 (Ψ := Φ) [0] (by decide) rfl (RV.tmp rfl) rfl (fun w hΦ => hΦ.1) ⟨(), rfl, rfl, rfl⟩
    · replace h := iteF hb2 h
      refine CW.skip ?_
      refine QC.then_n ?_
      refine CW.reg ?_
      refine RO.val (Wt.no rfl) rfl (PV.assign rfl) ?_
      refine RO.nil ?_
      refine CW.ret ?_
      obtain rfl := Option.some.inj h
      exact retP1 (Ψ := Φ) [0] (by decide) rfl (RV.tmp rfl) rfl (fun w hΦ => hΦ.1) ⟨(), rfl, rfl, rfl⟩

theorem W_cmp_Or_int {D : Mem} {Φ : World → Prop} (a1 : List Int) (b1_0 : Hd) {r : Int} (h : S.cmp_Or_int a1 = some r) (hR : ∀ w, MemOk D w → Φ w → (slR (tInt .i64) w a1 b1_0)) :
    SpecK Try.prog 121 [.slice b1_0.a a1.length b1_0.cap] D [] Φ (fun x : Unit => .int .i64 r) (fun x => []) (fun x => []) (fun _ => Φ) := by
  refine enterK Try.func121 rfl Try.ntmps121 rfl ?_
  unfold S.cmp_Or_int at h
  refine CW.reg ?_
  refine RO.val (Wt.no rfl) rfl (PV.assign rfl) ?_
  refine RO.nil ?_
  refine CW.reg ?_
  refine RO.val (Wt.no rfl) rfl (PV.assign rfl) ?_
  refine RO.nil ?_
  replace h := andThen_some h
  obtain ⟨e3, h, hk2⟩ := h
  refine CW.meet (X := Unit) (fun x => [(2, .int .i64 0), (3, .int .i64 0)]) (fun x => [frame D]) (fun x w => (Φ w ∧ True)) (fun x => S.cmp_Or_int_j2 = some r) ?_ ?_
  · skip
    refine CW.reg ?_
    refine RO.val (Wt.no rfl) rfl (PV.move rfl) ?_
    refine RO.val (Wt.no rfl) rfl (PV.lenS Try.underlying26 rfl) ?_
    refine RO.val (Wt.no rfl) rfl (PV.move rfl) ?_
    refine RO.nil ?_
    refine CW.block ?_
    refine CW.loopE (X := Nat × Int) (fun x => [(2, .int .i64 0), (3, .int .i64 0), (6, .slice b1_0.a a1.length b1_0.cap), (7, .int .i64 (a1.length : Int)), (8, .int .i64 x.2)]) (fun x => [frame D]) (fun x w => (Φ w ∧ True)) (fun x => loopN (S.cmp_Or_int_l3 a1) x.1 x.2 = some e3) (fun x => x.1) (FUEL, 0) h (by exact ⟨rfl, rfl, rfl, rfl, rfl, trivial⟩) rfl (fun w hΦ => hΦ) ?_
    rintro ⟨n11', v8⟩ hI9
    try dsimp only at hI9 ⊢
    obtain ⟨n11, y10, rfl, h, hk12⟩ := loopN_some hI9
    unfold S.cmp_Or_int_l3 at h
    try dsimp only at h
    refine CW.reg ?_
    refine RO.val (Wt.no rfl) rfl (PV.lss rfl rfl) ?_
    refine RO.nil ?_
    refine CW.seq ?_
    refine CW.cond rfl (fun hb13 => ?_) (fun hb13 => ?_)
    · replace h := iteT hb13 h
      refine CW.skip ?_
      refine QC.then_n ?_
      refine CW.seq ?_
      refine CW.block ?_
      replace h := bindS h
      obtain ⟨v14, hx15, h⟩ := h
      refine CW.reg ?_
      refine RO.val (Wt.no rfl) rfl (PV.idxQ (t := (tInt .i64)) (l := a1) (q := b1_0) Try.underlying26 Try.sizeOf3 (fun w hm hΦ => (hR w (hm.frameAt (i := 0) rfl) (hΦ.1))) rfl rfl hx15) ?_
      refine RO.val (Wt.no rfl) rfl (PV.loadQ (off := 0) (cs := [.int .i64 v14]) (t := (tInt .i64)) (l := a1) (q := b1_0) Try.TF3 (fun w hm hΦ => (hR w (hm.frameAt (i := 0) rfl) (hΦ.1))) hx15 rfl rfl rfl (cut_self ((tInt .i64).len _ _)) rfl (by decide)) ?_
      refine RO.val (Wt.no rfl) rfl (PV.assign rfl) ?_
      refine RO.nil ?_
      refine CW.reg ?_
      refine RO.val (Wt.no rfl) rfl (PV.move rfl) ?_
      refine RO.val (Wt.no rfl) rfl (PV.move rfl) ?_
      refine RO.val (Wt.no rfl) rfl (PV.neq rfl rfl) ?_
      refine RO.nil ?_
      refine CW.cond rfl (fun hb16 => ?_) (fun hb16 => ?_)
      · replace h := iteT hb16 h
        refine CW.reg ?_
        refine RO.val (Wt.no rfl) rfl (PV.move rfl) ?_
        refine RO.val (Wt.no rfl) rfl (PV.assign rfl) ?_
        refine RO.nil ?_
        refine CW.ret ?_
        refine QC.blk_r ?_
        refine QC.then_r ?_
        refine QC.then_r ?_
        refine QC.blk_r ?_
        refine QC.then_r ?_
        obtain rfl := Option.some.inj h
        obtain rfl := nextL_inr hk12
        obtain rfl := afterS_inr hk2
        exact retP1 (Ψ := Φ) [0] (by decide) rfl (RV.tmp rfl) rfl (fun w hΦ => hΦ.1) ⟨(), rfl, rfl, rfl⟩
      · replace h := iteF hb16 h
        refine CW.skip ?_
        refine QC.blk_n ?_
        refine QC.then_n ?_
        refine CW.region ?_
        refine RO.val (Wt.no rfl) rfl (PV.addW rfl rfl) ?_
        refine RO.val (Wt.no rfl) rfl (PV.move rfl) ?_
        refine RO.nil ?_
        obtain rfl := Option.some.inj h
        refine QC.roundP (n11, (w64 (v8 + 1))) (nextL_inl hk12) (by exact Nat.lt_succ_self _) [0] (by decide) (by exact ⟨rfl, rfl, rfl, rfl, rfl, trivial⟩) rfl (fun w hΦ => hΦ)
    · replace h := iteF hb13 h
      refine CW.exit ?_
      refine QC.then_x ?_
      refine QC.then_x ?_
      refine QC.blk_x ?_
      obtain rfl := Option.some.inj h
      obtain rfl := nextL_inr hk12
      refine QC.meetP () (afterS_inl hk2) [0] (by decide) (by exact ⟨rfl, rfl, trivial⟩) rfl (fun w hΦ => hΦ)
  · rintro ⟨⟩ h
    try dsimp only at h ⊢
    unfold S.cmp_Or_int_j2 at h
    refine CW.reg ?_
    refine RO.val (Wt.no rfl) rfl (PV.move rfl) ?_
    refine RO.val (Wt.no rfl) rfl (PV.assign rfl) ?_
    refine RO.nil ?_
    refine CW.ret ?_
    obtain rfl := Option.some.inj h
    exact retP1 (Ψ := Φ) [0] (by decide) rfl (RV.tmp rfl) rfl (fun w hΦ => hΦ.1) ⟨(), rfl, rfl, rfl⟩

theorem W_plan_Compare {D : Mem} {Φ : World → Prop} (a1 : S.Plan) (a2 : S.Plan) (b1_0 : Hd) (b2_0 : Hd) {r : Int} (h : S.plan_Compare a1 a2 = some r) (hR : ∀ w, MemOk D w → Φ w → (slR (tInt .i64) w a1.Targets b1_0 ∧ slR (tInt .i64) w a2.Targets b2_0)) :
    SpecK Try.prog 136 [.agg (S.t_Plan.enc a1 (hf [b1_0])).toArray, .agg (S.t_Plan.enc a2 (hf [b2_0])).toArray] D [] Φ (fun x : Unit => .int .i64 r) (fun x => []) (fun x => []) (fun _ => Φ) := by
  refine enterK Try.func136 rfl Try.ntmps136 rfl ?_
  unfold S.plan_Compare at h
  refine CW.reg ?_
  refine RO.eff (Wt.no rfl) rfl (EV.boxB (B := S.t_Plan.enc a1 (hf [b1_0])) rfl rfl) ?_
  rintro _ _ _ ⟨g1, rfl, rfl, rfl⟩
  refine RO.eff (Wt.no rfl) rfl (EV.boxB (B := S.t_Plan.enc a2 (hf [b2_0])) rfl rfl) ?_
  rintro _ _ _ ⟨g2, rfl, rfl, rfl⟩
  refine RO.val (Wt.no rfl) rfl (PV.assign rfl) ?_
  refine RO.nil ?_
  replace h := bindS h
  obtain ⟨v3, hx4, h⟩ := h
  replace h := bindS h
  obtain ⟨v5, hx6, h⟩ := h
  replace h := bindS h
  obtain ⟨v7, hx8, h⟩ := h
  replace h := bindS h
  obtain ⟨v9, hx10, h⟩ := h
  replace h := bindS h
  obtain ⟨v12, hx13, h⟩ := h
  refine CW.regD (pickM [0, 1, 2] _) _ (by kernel_rfl) (St.of (by decide) rfl (fun _ h => h)) ?_
  refine RD.take 0 rfl (by kernel_rfl) (by kernel_rfl) (by kernel_rfl) (Wt.no rfl) rfl (PV.fieldAddr Try.fa28_0 rfl) ?_
  refine RD.take 1 rfl (by kernel_rfl) (by kernel_rfl) (by kernel_rfl) (Wt.no rfl) rfl (PV.loadM (l := [.int .i64 a1.Version]) 1 Try.TF3 rfl rfl (cut_Plan_Version _ _) rfl (by decide)) ?_
  refine RD.take 2 rfl (by kernel_rfl) (by kernel_rfl) (by kernel_rfl) (Wt.no rfl) rfl (PV.fieldAddr Try.fa28_0 rfl) ?_
  refine RD.take 3 rfl (by kernel_rfl) (by kernel_rfl) (by kernel_rfl) (Wt.no rfl) rfl (PV.loadM (l := [.int .i64 a2.Version]) 2 Try.TF3 rfl rfl (cut_Plan_Version _ _) rfl (by decide)) ?_
  refine RD.take 5 rfl (by kernel_rfl) (by kernel_rfl) (by kernel_rfl) (Wt.no rfl) rfl (PV.fieldAddr Try.fa28_1 rfl) ?_
  refine RD.take 6 rfl (by kernel_rfl) (by kernel_rfl) (by kernel_rfl) (Wt.no rfl) rfl (PV.loadM (l := [.int .i64 a1.By]) 1 Try.TF3 rfl rfl (cut_Plan_By _ _) rfl (by decide)) ?_
  refine RD.take 7 rfl (by kernel_rfl) (by kernel_rfl) (by kernel_rfl) (Wt.no rfl) rfl (PV.fieldAddr Try.fa28_1 rfl) ?_
  refine RD.take 8 rfl (by kernel_rfl) (by kernel_rfl) (by kernel_rfl) (Wt.no rfl) rfl (PV.loadM (l := [.int .i64 a2.By]) 2 Try.TF3 rfl rfl (cut_Plan_By _ _) rfl (by decide)) ?_
  refine RD.take 10 rfl (by kernel_rfl) (by kernel_rfl) (by kernel_rfl) (Wt.no rfl) rfl (PV.fieldAddr Try.fa28_2 rfl) ?_
  refine RD.take 11 rfl (by kernel_rfl) (by kernel_rfl) (by kernel_rfl) (Wt.no rfl) rfl (PV.loadM (l := [.slice b1_0.a a1.Targets.length b1_0.cap]) 1 Try.TF26 rfl rfl (cut_Plan_Targets _ _) rfl (by decide)) ?_
  refine RD.take 12 rfl (by kernel_rfl) (by kernel_rfl) (by kernel_rfl) (Wt.no rfl) rfl (PV.lenS Try.underlying26 rfl) ?_
  refine RD.take 13 rfl (by kernel_rfl) (by kernel_rfl) (by kernel_rfl) (Wt.no rfl) rfl (PV.fieldAddr Try.fa28_2 rfl) ?_
  refine RD.take 14 rfl (by kernel_rfl) (by kernel_rfl) (by kernel_rfl) (Wt.no rfl) rfl (PV.loadM (l := [.slice b2_0.a a2.Targets.length b2_0.cap]) 2 Try.TF26 rfl rfl (cut_Plan_Targets _ _) rfl (by decide)) ?_
  refine RD.take 15 rfl (by kernel_rfl) (by kernel_rfl) (by kernel_rfl) (Wt.no rfl) rfl (PV.lenS Try.underlying26 rfl) ?_
  refine RD.take 17 rfl (by kernel_rfl) (by kernel_rfl) (by kernel_rfl) (Wt.no rfl) rfl (PV.fieldAddr Try.fa28_2 rfl) ?_
  refine RD.take 18 rfl (by kernel_rfl) (by kernel_rfl) (by kernel_rfl) (Wt.no rfl) rfl (PV.loadM (l := [.slice b1_0.a a1.Targets.length b1_0.cap]) 1 Try.TF26 rfl rfl (cut_Plan_Targets _ _) rfl (by decide)) ?_
  refine RD.take 19 rfl (by kernel_rfl) (by kernel_rfl) (by kernel_rfl) (Wt.no rfl) rfl (PV.fieldAddr Try.fa28_2 rfl) ?_
  refine RD.take 20 rfl (by kernel_rfl) (by kernel_rfl) (by kernel_rfl) (Wt.no rfl) rfl (PV.loadM (l := [.slice b2_0.a a2.Targets.length b2_0.cap]) 2 Try.TF26 rfl rfl (cut_Plan_Targets _ _) rfl (by decide)) ?_
  refine RD.one 4 (by kernel_rfl) ?_
  refine Up.eff rfl (Wt.no rfl) rfl (EV.call (K := _) Try.call122 rfl (SpecK.callV (W_cmp_Compare_int a1.Version a2.Version hx4))) ?_ ?_
  · rintro _ _ _ ⟨_, rfl, rfl, rfl⟩; exact St.of' (by decide) (L' := [0, 1, 2]) rfl (fun _ h => h)
  rintro _ _ _ ⟨_, rfl, rfl, rfl⟩
  refine RD.one 9 (by kernel_rfl) ?_
  refine Up.eff rfl (Wt.no rfl) rfl (EV.call (K := _) Try.call122 rfl (SpecK.callV (W_cmp_Compare_int a1.By a2.By hx6))) ?_ ?_
  · rintro _ _ _ ⟨_, rfl, rfl, rfl⟩; exact St.of' (by decide) (L' := [0, 1, 2]) rfl (fun _ h => h)
  rintro _ _ _ ⟨_, rfl, rfl, rfl⟩
  refine RD.one 16 (by kernel_rfl) ?_
  refine Up.eff rfl (Wt.no rfl) rfl (EV.call (K := _) Try.call122 rfl (SpecK.callV (W_cmp_Compare_int (a1.Targets.length : Int) (a2.Targets.length : Int) hx8))) ?_ ?_
  · rintro _ _ _ ⟨_, rfl, rfl, rfl⟩; exact St.of' (by decide) (L' := [0, 1, 2]) rfl (fun _ h => h)
  rintro _ _ _ ⟨_, rfl, rfl, rfl⟩
  refine RD.one 21 (by kernel_rfl) ?_
  refine Up.eff rfl (Wt.no rfl) rfl (EV.call (K := _) Try.call156 rfl (SpecK.callV (W_slices_Compare_int_int a1.Targets a2.Targets b1_0 b2_0 hx10 (fun w hm hΦ => ⟨(hR w (hm.frameAt (i := 0) rfl) (hΦ.1)).1, (hR w (hm.frameAt (i := 0) rfl) (hΦ.1)).2⟩)))) ?_ ?_
  · rintro _ _ _ ⟨_, rfl, rfl, rfl⟩; exact St.of' (by decide) (L' := [0, 1, 2]) rfl (fun _ h => h)
  rintro _ _ _ ⟨_, rfl, rfl, rfl⟩
  refine RD.one 22 (by kernel_rfl) ?_
  refine Up.eff rfl (Wt.no rfl) rfl (EV.buildRowQ (t := (tInt .i64)) (l := [v3, v5, v7, v9]) (xs := [.tmp 9, .tmp 14, .tmp 21, .tmp 26]) rfl (by decide) Try.underlying26 Try.sizeOf3 Try.zeroValue3 rfl rfl rfl rfl rfl) ?_ ?_
  · rintro _ _ _ ⟨g11, rfl, rfl, rfl⟩; exact St.of' (by decide) (L' := [0, 1, 2]) rfl (fun _ h => h)
  rintro _ _ _ ⟨g11, rfl, rfl, rfl⟩
  refine RD.one 23 (by kernel_rfl) ?_
  refine Up.eff rfl (Wt.no rfl) rfl (EV.call (K := _) Try.call121 rfl (SpecK.callV (W_cmp_Or_int [v3, v5, v7, v9] (Hd.mk (some ⟨g11, 0, none⟩) 4 (fun _ _ => Hd.z)) hx13 (fun w hm hΦ => (slR_row (hm.rowAt (i := 3) rfl) (fun _ _ _ => trivial)))))) ?_ ?_
  · rintro _ _ _ ⟨_, rfl, rfl, rfl⟩; exact St.of' (by decide) (L' := [0, 1, 2]) rfl (fun _ h => h)
  rintro _ _ _ ⟨_, rfl, rfl, rfl⟩
  refine RD.take 24 rfl (by kernel_rfl) (by kernel_rfl) (by kernel_rfl) (Wt.no rfl) rfl (PV.assign rfl) ?_
  refine RD.done (by kernel_rfl) ?_
  refine CW.ret ?_
  obtain rfl := Option.some.inj h
  exact retP1 (Ψ := Φ) [0] (by decide) rfl (RV.tmp rfl) rfl (fun w hΦ => hΦ.1) ⟨(), rfl, rfl, rfl⟩

theorem W_plan_copied {D : Mem} {Φ : World → Prop} (a1 : S.Plan) (b1_0 : Hd) {r : S.Plan} (h : S.plan_copied a1 = some r) (hR : ∀ w, MemOk D w → Φ w → (slR (tInt .i64) w a1.Targets b1_0)) :
    SpecK Try.prog 137 [.agg (S.t_Plan.enc a1 (hf [b1_0])).toArray] D [] Φ (fun x : Hd => .agg (S.t_Plan.enc r (hf [x])).toArray) (fun x => []) (fun x => []) (fun x w => Φ w ∧ (slR (tInt .i64) w r.Targets x)) := by
  refine enterK Try.func137 rfl Try.ntmps137 rfl ?_
  unfold S.plan_copied at h
  refine CW.reg ?_
  refine RO.eff (Wt.no rfl) rfl (EV.boxB (B := S.t_Plan.enc a1 (hf [b1_0])) rfl rfl) ?_
  rintro _ _ _ ⟨g1, rfl, rfl, rfl⟩
  refine RO.eff (Wt.no rfl) rfl (EV.allocB (B := S.t_Plan.enc S.Plan.z (hf [Hd.z])) Try.zeroValue28 rfl) ?_
  rintro _ _ _ ⟨g2, rfl, rfl, rfl⟩
  refine RO.nil ?_
  replace h := bindS h
  obtain ⟨v3, hx4, h⟩ := h
  refine CW.reg ?_
  refine RO.val (Wt.no rfl) rfl (PV.fieldAddr Try.fa28_2 rfl) ?_
  refine RO.val (Wt.no rfl) rfl (PV.loadM (l := [.slice b1_0.a a1.Targets.length b1_0.cap]) 1 Try.TF26 rfl rfl (cut_Plan_Targets _ _) rfl (by decide)) ?_
  refine RO.eff (Wt.no rfl) rfl (EV.call (K := _) Try.call112 rfl (SpecK.call0 (W_slices_Clone_int_int a1.Targets b1_0 hx4 (fun w hm hΦ => (hR w (hm.frameAt (i := 0) rfl) (hΦ.1)))))) ?_
  rintro _ _ _ ⟨q5, rfl, rfl, rfl⟩
  refine RO.val (Wt.no rfl) rfl (PV.fieldAddr Try.fa28_2 rfl) ?_
  refine RO.eff (Wt.no rfl) rfl (EV.storeB (B := S.t_Plan.enc ({ a1 with Targets := v3 } : S.Plan) (hf [q5])) 1 Try.TF26 rfl rfl rfl rfl rfl (by rw [S.t_Plan.len]; decide) (wr_Plan_Targets a1 b1_0 q5 v3)) ?_
  rintro _ _ _ ⟨rfl, rfl, rfl⟩
  refine RO.nil ?_
  refine CW.reg ?_
  refine RO.val (Wt.no rfl) rfl (PV.loadM (l := S.t_Plan.enc ({ a1 with Targets := v3 } : S.Plan) (hf [q5])) 1 Try.TF28 rfl rfl (cut_self (S.t_Plan.len _ _)) rfl (by decide)) ?_
  refine RO.eff (Wt.no rfl) rfl (EV.storeW (B := S.t_Plan.enc ({ a1 with Targets := v3 } : S.Plan) (hf [q5])) 2 Try.TF28 rfl rfl rfl (by exact S.t_Plan.len ({ a1 with Targets := v3 } : S.Plan) (hf [q5])) (by exact S.t_Plan.one ({ a1 with Targets := v3 } : S.Plan) (hf [q5])) (S.t_Plan.len S.Plan.z (hf [Hd.z])) rfl) ?_
  rintro _ _ _ ⟨rfl, rfl, rfl⟩
  refine RO.nil ?_
  refine CW.ret ?_
  refine QC.freeze (t := (tInt .i64)) 3 rfl (fun w hΦ => (fun _ _ _ => trivial)) ?_
  obtain rfl := Option.some.inj h
  exact retP1 (Ψ := fun w => Φ w ∧ (slR (tInt .i64) w v3 q5)) [0] (by decide) rfl (RV.cell (A := S.t_Plan.enc ({ a1 with Targets := v3 } : S.Plan) (hf [q5])) 2 rfl Try.TF28 rfl (S.t_Plan.len _ _) (by decide)) rfl (fun w hΦ => ⟨hΦ.1.1, (hΦ.2)⟩) ⟨q5, rfl, rfl, rfl⟩

theorem W_plan_Join {D : Mem} {Φ : World → Prop} (a1 : S.Plan) (a2 : S.Plan) (b1_0 : Hd) (b2_0 : Hd) {r : S.Plan} (h : S.plan_Join a1 a2 = some r) (hR : ∀ w, MemOk D w → Φ w → (slR (tInt .i64) w a1.Targets b1_0 ∧ slR (tInt .i64) w a2.Targets b2_0)) :
    SpecK Try.prog 110 [.agg (S.t_Plan.enc a1 (hf [b1_0])).toArray, .agg (S.t_Plan.enc a2 (hf [b2_0])).toArray] D [] Φ (fun x : Hd => .agg (S.t_Plan.enc r (hf [x])).toArray) (fun x => []) (fun x => []) (fun x w => Φ w ∧ (slR (tInt .i64) w r.Targets x)) := by
  refine enterK Try.func110 rfl Try.ntmps110 rfl ?_
  unfold S.plan_Join at h
  refine CW.reg ?_
  refine RO.eff (Wt.no rfl) rfl (EV.boxB (B := S.t_Plan.enc a1 (hf [b1_0])) rfl rfl) ?_
  rintro _ _ _ ⟨g1, rfl, rfl, rfl⟩
  refine RO.eff (Wt.no rfl) rfl (EV.boxB (B := S.t_Plan.enc a2 (hf [b2_0])) rfl rfl) ?_
  rintro _ _ _ ⟨g2, rfl, rfl, rfl⟩
  refine RO.eff (Wt.no rfl) rfl (EV.allocB (B := S.t_Plan.enc S.Plan.z (hf [Hd.z])) Try.zeroValue28 rfl) ?_
  rintro _ _ _ ⟨g3, rfl, rfl, rfl⟩
  refine RO.nil ?_
  refine CW.seq ?_
  replace h := bindS h
  obtain ⟨v4, hx5, h⟩ := h
  refine CW.reg ?_
  refine RO.val (Wt.no rfl) rfl (PV.loadM (l := S.t_Plan.enc a2 (hf [b2_0])) 2 Try.TF28 rfl rfl (cut_self (S.t_Plan.len _ _)) rfl (by decide)) ?_
  refine RO.val (Wt.no rfl) rfl (PV.loadM (l := S.t_Plan.enc a1 (hf [b1_0])) 1 Try.TF28 rfl rfl (cut_self (S.t_Plan.len _ _)) rfl (by decide)) ?_
  refine RO.eff (Wt.no rfl) rfl (EV.call (K := _) Try.call136 rfl (SpecK.callV (W_plan_Compare a2 a1 b2_0 b1_0 hx5 (fun w hm hΦ => ⟨(hR w (hm.frameAt (i := 0) rfl) (hΦ.1)).2, (hR w (hm.frameAt (i := 0) rfl) (hΦ.1)).1⟩)))) ?_
  rintro _ _ _ ⟨_, rfl, rfl, rfl⟩
  refine RO.val (Wt.no rfl) rfl (PV.gtr rfl rfl) ?_
  refine RO.nil ?_
  refine CW.cond rfl (fun hb6 => ?_) (fun hb6 => ?_)
  · replace h := iteT hb6 h
    replace h := bindS h
    obtain ⟨v7, hx8, h⟩ := h
    refine CW.reg ?_
    refine RO.val (Wt.no rfl) rfl (PV.loadM (l := S.t_Plan.enc a2 (hf [b2_0])) 2 Try.TF28 rfl rfl (cut_self (S.t_Plan.len _ _)) rfl (by decide)) ?_
    refine RO.eff (Wt.no rfl) rfl (EV.call (K := _) Try.call137 rfl (SpecK.callV (W_plan_copied a2 b2_0 hx8 (fun w hm hΦ => (hR w (hm.frameAt (i := 0) rfl) (hΦ.1)).2)))) ?_
    rintro _ _ _ ⟨q9, rfl, rfl, rfl⟩
    refine RO.eff (Wt.no rfl) rfl (EV.storeW (B := S.t_Plan.enc v7 (hf [q9])) 3 Try.TF28 rfl rfl rfl (by exact S.t_Plan.len v7 (hf [q9])) (by exact S.t_Plan.one v7 (hf [q9])) (S.t_Plan.len S.Plan.z (hf [Hd.z])) rfl) ?_
    rintro _ _ _ ⟨rfl, rfl, rfl⟩
    refine RO.nil ?_
    refine CW.ret ?_
    refine QC.then_r ?_
    obtain rfl := Option.some.inj h
    exact retP1 (Ψ := fun w => Φ w ∧ (slR (tInt .i64) w v7.Targets q9)) [0] (by decide) rfl (RV.cell (A := S.t_Plan.enc v7 (hf [q9])) 3 rfl Try.TF28 rfl (S.t_Plan.len _ _) (by decide)) rfl (fun w hΦ => ⟨hΦ.1.1, (hΦ.2)⟩) ⟨q9, rfl, rfl, rfl⟩
  · replace h := iteF hb6 h
    refine CW.skip ?_
    refine QC.then_n ?_
    replace h := bindS h
    obtain ⟨v11, hx12, h⟩ := h
    refine CW.reg ?_
    refine RO.val (Wt.no rfl) rfl (PV.loadM (l := S.t_Plan.enc a1 (hf [b1_0])) 1 Try.TF28 rfl rfl (cut_self (S.t_Plan.len _ _)) rfl (by decide)) ?_
    refine RO.eff (Wt.no rfl) rfl (EV.call (K := _) Try.call137 rfl (SpecK.callV (W_plan_copied a1 b1_0 hx12 (fun w hm hΦ => (hR w (hm.frameAt (i := 0) rfl) (hΦ.1)).1)))) ?_
    rintro _ _ _ ⟨q13, rfl, rfl, rfl⟩
    refine RO.eff (Wt.no rfl) rfl (EV.storeW (B := S.t_Plan.enc v11 (hf [q13])) 3 Try.TF28 rfl rfl rfl (by exact S.t_Plan.len v11 (hf [q13])) (by exact S.t_Plan.one v11 (hf [q13])) (S.t_Plan.len S.Plan.z (hf [Hd.z])) rfl) ?_
    rintro _ _ _ ⟨rfl, rfl, rfl⟩
    refine RO.nil ?_
    refine CW.ret ?_
    obtain rfl := Option.some.inj h
    exact retP1 (Ψ := fun w => Φ w ∧ (slR (tInt .i64) w v11.Targets q13)) [0] (by decide) rfl (RV.cell (A := S.t_Plan.enc v11 (hf [q13])) 3 rfl Try.TF28 rfl (S.t_Plan.len _ _) (by decide)) rfl (fun w hΦ => ⟨hΦ.1.1, (hΦ.2)⟩) ⟨q13, rfl, rfl, rfl⟩

theorem W_entry_Compare {D : Mem} {Φ : World → Prop} (a1 : S.Entry) (a2 : S.Entry) {r : Int} (h : S.entry_Compare a1 a2 = some r) :
    SpecK Try.prog 138 [.agg (S.t_Entry.enc a1 (hf [])).toArray, .agg (S.t_Entry.enc a2 (hf [])).toArray] D [] Φ (fun x : Unit => .int .i64 r) (fun x => []) (fun x => []) (fun _ => Φ) := by
  refine enterK Try.func138 rfl Try.ntmps138 rfl ?_
  unfold S.entry_Compare at h
  refine CW.reg ?_
  refine RO.eff (Wt.no rfl) rfl (EV.boxB (B := S.t_Entry.enc a1 (hf [])) rfl rfl) ?_
  rintro _ _ _ ⟨g1, rfl, rfl, rfl⟩
  refine RO.eff (Wt.no rfl) rfl (EV.boxB (B := S.t_Entry.enc a2 (hf [])) rfl rfl) ?_
  rintro _ _ _ ⟨g2, rfl, rfl, rfl⟩
  refine RO.val (Wt.no rfl) rfl (PV.assign rfl) ?_
  refine RO.nil ?_
  replace h := bindS h
  obtain ⟨v3, hx4, h⟩ := h
  replace h := bindS h
  obtain ⟨v5, hx6, h⟩ := h
  replace h := bindS h
  obtain ⟨v8, hx9, h⟩ := h
  refine CW.regD (pickM [0, 1, 2] _) _ (by kernel_rfl) (St.of (by decide) rfl (fun _ h => h)) ?_
  refine RD.take 0 rfl (by kernel_rfl) (by kernel_rfl) (by kernel_rfl) (Wt.no rfl) rfl (PV.fieldAddr Try.fa30_0 rfl) ?_
  refine RD.take 1 rfl (by kernel_rfl) (by kernel_rfl) (by kernel_rfl) (Wt.no rfl) rfl (PV.loadM (l := [.int .i64 a1.Epoch]) 1 Try.TF3 rfl rfl (cut_Entry_Epoch _ _) rfl (by decide)) ?_
  refine RD.take 2 rfl (by kernel_rfl) (by kernel_rfl) (by kernel_rfl) (Wt.no rfl) rfl (PV.fieldAddr Try.fa30_0 rfl) ?_
  refine RD.take 3 rfl (by kernel_rfl) (by kernel_rfl) (by kernel_rfl) (Wt.no rfl) rfl (PV.loadM (l := [.int .i64 a2.Epoch]) 2 Try.TF3 rfl rfl (cut_Entry_Epoch _ _) rfl (by decide)) ?_
  refine RD.take 5 rfl (by kernel_rfl) (by kernel_rfl) (by kernel_rfl) (Wt.no rfl) rfl (PV.fieldAddr Try.fa30_1 rfl) ?_
  refine RD.take 6 rfl (by kernel_rfl) (by kernel_rfl) (by kernel_rfl) (Wt.no rfl) rfl (PV.loadM (l := [.int .i64 a1.Owner]) 1 Try.TF3 rfl rfl (cut_Entry_Owner _ _) rfl (by decide)) ?_
  refine RD.take 7 rfl (by kernel_rfl) (by kernel_rfl) (by kernel_rfl) (Wt.no rfl) rfl (PV.fieldAddr Try.fa30_1 rfl) ?_
  refine RD.take 8 rfl (by kernel_rfl) (by kernel_rfl) (by kernel_rfl) (Wt.no rfl) rfl (PV.loadM (l := [.int .i64 a2.Owner]) 2 Try.TF3 rfl rfl (cut_Entry_Owner _ _) rfl (by decide)) ?_
  refine RD.one 4 (by kernel_rfl) ?_
  refine Up.eff rfl (Wt.no rfl) rfl (EV.call (K := _) Try.call122 rfl (SpecK.callV (W_cmp_Compare_int a1.Epoch a2.Epoch hx4))) ?_ ?_
  · rintro _ _ _ ⟨_, rfl, rfl, rfl⟩; exact St.of' (by decide) (L' := [0, 1, 2]) rfl (fun _ h => h)
  rintro _ _ _ ⟨_, rfl, rfl, rfl⟩
  refine RD.one 9 (by kernel_rfl) ?_
  refine Up.eff rfl (Wt.no rfl) rfl (EV.call (K := _) Try.call122 rfl (SpecK.callV (W_cmp_Compare_int a1.Owner a2.Owner hx6))) ?_ ?_
  · rintro _ _ _ ⟨_, rfl, rfl, rfl⟩; exact St.of' (by decide) (L' := [0, 1, 2]) rfl (fun _ h => h)
  rintro _ _ _ ⟨_, rfl, rfl, rfl⟩
  refine RD.one 10 (by kernel_rfl) ?_
  refine Up.eff rfl (Wt.no rfl) rfl (EV.buildRowQ (t := (tInt .i64)) (l := [v3, v5]) (xs := [.tmp 9, .tmp 14]) rfl (by decide) Try.underlying26 Try.sizeOf3 Try.zeroValue3 rfl rfl rfl rfl rfl) ?_ ?_
  · rintro _ _ _ ⟨g7, rfl, rfl, rfl⟩; exact St.of' (by decide) (L' := [0, 1, 2]) rfl (fun _ h => h)
  rintro _ _ _ ⟨g7, rfl, rfl, rfl⟩
  refine RD.one 11 (by kernel_rfl) ?_
  refine Up.eff rfl (Wt.no rfl) rfl (EV.call (K := _) Try.call121 rfl (SpecK.callV (W_cmp_Or_int [v3, v5] (Hd.mk (some ⟨g7, 0, none⟩) 2 (fun _ _ => Hd.z)) hx9 (fun w hm hΦ => (slR_row (hm.rowAt (i := 3) rfl) (fun _ _ _ => trivial)))))) ?_ ?_
  · rintro _ _ _ ⟨_, rfl, rfl, rfl⟩; exact St.of' (by decide) (L' := [0, 1, 2]) rfl (fun _ h => h)
  rintro _ _ _ ⟨_, rfl, rfl, rfl⟩
  refine RD.take 12 rfl (by kernel_rfl) (by kernel_rfl) (by kernel_rfl) (Wt.no rfl) rfl (PV.assign rfl) ?_
  refine RD.done (by kernel_rfl) ?_
  refine CW.ret ?_
  obtain rfl := Option.some.inj h
  exact retP1 (Ψ := Φ) [0] (by decide) rfl (RV.tmp rfl) rfl (fun w hΦ => hΦ.1) ⟨(), rfl, rfl, rfl⟩

theorem W_entry_Join {D : Mem} {Φ : World → Prop} (a1 : S.Entry) (a2 : S.Entry) {r : S.Entry} (h : S.entry_Join a1 a2 = some r) :
    SpecK Try.prog 111 [.agg (S.t_Entry.enc a1 (hf [])).toArray, .agg (S.t_Entry.enc a2 (hf [])).toArray] D [] Φ (fun x : Unit => .agg (S.t_Entry.enc r (hf [])).toArray) (fun x => []) (fun x => []) (fun _ => Φ) := by
  refine enterK Try.func111 rfl Try.ntmps111 rfl ?_
  unfold S.entry_Join at h
  refine CW.reg ?_
  refine RO.eff (Wt.no rfl) rfl (EV.boxB (B := S.t_Entry.enc a1 (hf [])) rfl rfl) ?_
  rintro _ _ _ ⟨g1, rfl, rfl, rfl⟩
  refine RO.eff (Wt.no rfl) rfl (EV.boxB (B := S.t_Entry.enc a2 (hf [])) rfl rfl) ?_
  rintro _ _ _ ⟨g2, rfl, rfl, rfl⟩
  refine RO.eff (Wt.no rfl) rfl (EV.allocB (B := S.t_Entry.enc S.Entry.z (hf [])) Try.zeroValue30 rfl) ?_
  rintro _ _ _ ⟨g3, rfl, rfl, rfl⟩
  refine RO.nil ?_
  refine CW.seq ?_
  replace h := bindS h
  obtain ⟨v4, hx5, h⟩ := h
  refine CW.reg ?_
  refine RO.val (Wt.no rfl) rfl (PV.loadM (l := S.t_Entry.enc a2 (hf [])) 2 Try.TF30 rfl rfl (cut_self (S.t_Entry.len _ _)) rfl (by decide)) ?_
  refine RO.val (Wt.no rfl) rfl (PV.loadM (l := S.t_Entry.enc a1 (hf [])) 1 Try.TF30 rfl rfl (cut_self (S.t_Entry.len _ _)) rfl (by decide)) ?_
  refine RO.eff (Wt.no rfl) rfl (EV.call (K := _) Try.call138 rfl (SpecK.callV (W_entry_Compare a2 a1 hx5))) ?_
  rintro _ _ _ ⟨_, rfl, rfl, rfl⟩
  refine RO.val (Wt.no rfl) rfl (PV.gtr rfl rfl) ?_
  refine RO.nil ?_
  refine CW.cond rfl (fun hb6 => ?_) (fun hb6 => ?_)
  · replace h := iteT hb6 h
    refine CW.reg ?_
    refine RO.val (Wt.no rfl) rfl (PV.loadM (l := S.t_Entry.enc a2 (hf [])) 2 Try.TF30 rfl rfl (cut_self (S.t_Entry.len _ _)) rfl (by decide)) ?_
    refine RO.eff (Wt.no rfl) rfl (EV.storeW (B := S.t_Entry.enc a2 (hf [])) 3 Try.TF30 rfl rfl rfl (by exact S.t_Entry.len a2 (hf [])) (by exact S.t_Entry.one a2 (hf [])) (S.t_Entry.len S.Entry.z (hf [])) rfl) ?_
    rintro _ _ _ ⟨rfl, rfl, rfl⟩
    refine RO.nil ?_
    refine CW.ret ?_
    refine QC.then_r ?_
    obtain rfl := Option.some.inj h
    exact retP1 (Ψ := Φ) [0] (by decide) rfl (RV.cell (A := S.t_Entry.enc a2 (hf [])) 3 rfl Try.TF30 rfl (S.t_Entry.len _ _) (by decide)) rfl (fun w hΦ => hΦ.1) ⟨(), rfl, rfl, rfl⟩
  · replace h := iteF hb6 h
    refine CW.skip ?_
    refine QC.then_n ?_
    refine CW.reg ?_
    refine RO.val (Wt.no rfl) rfl (PV.loadM (l := S.t_Entry.enc a1 (hf [])) 1 Try.TF30 rfl rfl (cut_self (S.t_Entry.len _ _)) rfl (by decide)) ?_
    refine RO.eff (Wt.no rfl) rfl (EV.storeW (B := S.t_Entry.enc a1 (hf [])) 3 Try.TF30 rfl rfl rfl (by exact S.t_Entry.len a1 (hf [])) (by exact S.t_Entry.one a1 (hf [])) (S.t_Entry.len S.Entry.z (hf [])) rfl) ?_
    rintro _ _ _ ⟨rfl, rfl, rfl⟩
    refine RO.nil ?_
    refine CW.ret ?_
    obtain rfl := Option.some.inj h
    exact retP1 (Ψ := Φ) [0] (by decide) rfl (RV.cell (A := S.t_Entry.enc a1 (hf [])) 3 rfl Try.TF30 rfl (S.t_Entry.len _ _) (by decide)) rfl (fun w hΦ => hΦ.1) ⟨(), rfl, rfl, rfl⟩

theorem W_ring_Join {D : Mem} {Φ : World → Prop} (a1 : S.Ring) (a2 : S.Ring) (b1_0 : Hd) (b2_0 : Hd) {r : S.Ring} (h : S.ring_Join a1 a2 = some r) (hR : ∀ w, MemOk D w → Φ w → (slR (tInt .i64) w a1.Plan.Targets b1_0 ∧ slR (tInt .i64) w a2.Plan.Targets b2_0)) :
    SpecK Try.prog 83 [.agg (S.t_Ring.enc a1 (hf [b1_0])).toArray, .agg (S.t_Ring.enc a2 (hf [b2_0])).toArray] D [] Φ (fun x : Hd => .agg (S.t_Ring.enc r (hf [x])).toArray) (fun x => []) (fun x => []) (fun x w => Φ w ∧ (slR (tInt .i64) w r.Plan.Targets x)) := by
  refine enterK Try.func83 rfl Try.ntmps83 rfl ?_
  unfold S.ring_Join at h
  refine CW.reg ?_
  refine RO.eff (Wt.no rfl) rfl (EV.boxB (B := S.t_Ring.enc a1 (hf [b1_0])) rfl rfl) ?_
  rintro _ _ _ ⟨g1, rfl, rfl, rfl⟩
  refine RO.eff (Wt.no rfl) rfl (EV.boxB (B := S.t_Ring.enc a2 (hf [b2_0])) rfl rfl) ?_
  rintro _ _ _ ⟨g2, rfl, rfl, rfl⟩
  refine RO.eff (Wt.no rfl) rfl (EV.allocB (B := S.t_Ring.enc S.Ring.z (hf [Hd.z])) Try.zeroValue33 rfl) ?_
  rintro _ _ _ ⟨g3, rfl, rfl, rfl⟩
  refine RO.nil ?_
  replace h := bindS h
  obtain ⟨v4, hx5, h⟩ := h
  refine CW.reg ?_
  refine RO.val (Wt.no rfl) rfl (PV.fieldAddr Try.fa33_1 rfl) ?_
  refine RO.val (Wt.no rfl) rfl (PV.loadM (l := S.t_Plan.enc a1.Plan (hf [b1_0])) 1 Try.TF28 rfl rfl (cut_Ring_Plan _ _) rfl (by decide)) ?_
  refine RO.val (Wt.no rfl) rfl (PV.fieldAddr Try.fa33_1 rfl) ?_
  refine RO.val (Wt.no rfl) rfl (PV.loadM (l := S.t_Plan.enc a2.Plan (hf [b2_0])) 2 Try.TF28 rfl rfl (cut_Ring_Plan _ _) rfl (by decide)) ?_
  refine RO.eff (Wt.no rfl) rfl (EV.call (K := _) Try.call110 rfl (SpecK.callV (W_plan_Join a1.Plan a2.Plan b1_0 b2_0 hx5 (fun w hm hΦ => ⟨(hR w (hm.frameAt (i := 0) rfl) (hΦ.1)).1, (hR w (hm.frameAt (i := 0) rfl) (hΦ.1)).2⟩)))) ?_
  rintro _ _ _ ⟨q6, rfl, rfl, rfl⟩
  refine RO.val (Wt.no rfl) rfl (PV.buildS (B := S.t_Ring.enc ({ S.Ring.z with Plan := v4 } : S.Ring) (hf [q6])) (xs := [.tmp 12]) [(1, 8, 3)] Try.BT33 rfl rfl rfl (by decide) ⟨rfl, rfl, trivial⟩ rfl) ?_
  refine RO.eff (Wt.no rfl) rfl (EV.allocB (B := S.t_Ring.enc S.Ring.z (hf [Hd.z])) Try.zeroValue33 rfl) ?_
  rintro _ _ _ ⟨g8, rfl, rfl, rfl⟩
  refine RO.eff (Wt.no rfl) rfl (EV.storeW (B := S.t_Ring.enc ({ S.Ring.z with Plan := v4 } : S.Ring) (hf [q6])) 4 Try.TF33 rfl rfl rfl (by exact S.t_Ring.len ({ S.Ring.z with Plan := v4 } : S.Ring) (hf [q6])) (by exact S.t_Ring.one ({ S.Ring.z with Plan := v4 } : S.Ring) (hf [q6])) (S.t_Ring.len S.Ring.z (hf [Hd.z])) rfl) ?_
  rintro _ _ _ ⟨rfl, rfl, rfl⟩
  refine RO.nil ?_
  replace h := bindS h
  obtain ⟨e49, h, hk48⟩ := h
  refine CW.meet (X := S.Ring × Hd) (fun x => [(2, .pointer (some ⟨g1, 0, none⟩)), (3, .pointer (some ⟨g2, 0, none⟩)), (4, .pointer (some ⟨g3, 0, none⟩)), (5, .pointer (some ⟨g8, 0, none⟩))]) (fun x => [frame D, .blk g1 (S.t_Ring.enc a1 (hf [b1_0])), .blk g2 (S.t_Ring.enc a2 (hf [b2_0])), .blk g3 (S.t_Ring.enc S.Ring.z (hf [Hd.z])), .blk g8 (S.t_Ring.enc x.1 (hf [x.2]))]) (fun x w => ((Φ w ∧ True) ∧ (slR (tInt .i64) w v4.Targets q6)) ∧ (slR (tInt .i64) w x.1.Plan.Targets x.2)) (fun x => S.ring_Join_j2 a1 a2 x.1 = some r) ?_ ?_
  · skip
    refine CW.reg ?_
    refine RO.val (Wt.no rfl) rfl (PV.move rfl) ?_
    refine RO.nil ?_
    refine CW.block ?_
    refine CW.loopE (X := Nat × S.Ring × Int × Hd) (fun x => [(2, .pointer (some ⟨g1, 0, none⟩)), (3, .pointer (some ⟨g2, 0, none⟩)), (4, .pointer (some ⟨g3, 0, none⟩)), (5, .pointer (some ⟨g8, 0, none⟩)), (14, .int .i64 x.2.2.1)]) (fun x => [frame D, .blk g1 (S.t_Ring.enc a1 (hf [b1_0])), .blk g2 (S.t_Ring.enc a2 (hf [b2_0])), .blk g3 (S.t_Ring.enc S.Ring.z (hf [Hd.z])), .blk g8 (S.t_Ring.enc x.2.1 (hf [x.2.2.2]))]) (fun x w => ((Φ w ∧ True) ∧ (slR (tInt .i64) w v4.Targets q6)) ∧ (slR (tInt .i64) w x.2.1.Plan.Targets x.2.2.2)) (fun x => loopN (S.ring_Join_l6 a1 a2) x.1 (x.2.1, x.2.2.1) = some e49) (fun x => x.1) (FUEL, ({ S.Ring.z with Plan := v4 } : S.Ring), 0, q6) h (by exact ⟨rfl, rfl, rfl, rfl, rfl, trivial⟩) rfl (fun w hΦ => ⟨hΦ, (hΦ.2)⟩) ?_
    rintro ⟨n61', v56, v58, q57⟩ hI59
    try dsimp only at hI59 ⊢
    obtain ⟨n61, y60, rfl, h, hk62⟩ := loopN_some hI59
    unfold S.ring_Join_l6 at h
    try dsimp only at h
    refine CW.reg ?_
    refine RO.val (Wt.no rfl) rfl (PV.lss rfl rfl) ?_
    refine RO.nil ?_
    refine CW.seq ?_
    refine CW.cond rfl (fun hb63 => ?_) (fun hb63 => ?_)
    · replace h := iteT hb63 h
      refine CW.skip ?_
      refine QC.then_n ?_
      refine CW.seq ?_
      refine CW.block ?_
      refine CW.reg ?_
      refine RO.val (Wt.no rfl) rfl (PV.move rfl) ?_
      refine RO.val (Wt.no rfl) rfl (PV.assign rfl) ?_
      refine RO.nil ?_
      replace h := bindS h
      obtain ⟨v64, hx65, h⟩ := h
      obtain ⟨hn66, hn67, he68⟩ := aget_some hx65
      replace h := bindS h
      obtain ⟨v69, hx70, h⟩ := h
      obtain ⟨hn71, hn72, he73⟩ := aget_some hx70
      replace h := bindS h
      obtain ⟨v74, hx75, h⟩ := h
      obtain ⟨hn76, hn77, he78⟩ := aset_some hx75
      refine CW.regionD (pickM [0, 1, 2, 3] _) _ (by kernel_rfl) (St.of (by decide) rfl (fun _ h => h)) ?_
      refine RD.take 0 rfl (by kernel_rfl) (by kernel_rfl) (by kernel_rfl) (Wt.no rfl) rfl (PV.move rfl) ?_
      refine RD.take 1 rfl (by kernel_rfl) (by kernel_rfl) (by kernel_rfl) (Wt.no rfl) rfl (PV.move rfl) ?_
      refine RD.take 2 rfl (by kernel_rfl) (by kernel_rfl) (by kernel_rfl) (Wt.no rfl) rfl (PV.fieldAddr Try.fa33_0 rfl) ?_
      refine RD.take 3 rfl (by kernel_rfl) (by kernel_rfl) (by kernel_rfl) (Wt.no rfl) rfl (PV.idxA Try.underlying25 Try.sizeOf3 rfl rfl hn67 (by omega)) ?_
      refine RD.take 4 rfl (by kernel_rfl) (by kernel_rfl) (by kernel_rfl) (Wt.no rfl) rfl (PV.loadM (l := [.int .i64 v64]) 1 Try.TF3 rfl rfl (by rw [cut_Ring_Status_i _ _ _ hn66, he68]) rfl (by decide)) ?_
      refine RD.take 5 rfl (by kernel_rfl) (by kernel_rfl) (by kernel_rfl) (Wt.no rfl) rfl (PV.move rfl) ?_
      refine RD.take 6 rfl (by kernel_rfl) (by kernel_rfl) (by kernel_rfl) (Wt.no rfl) rfl (PV.fieldAddr Try.fa33_0 rfl) ?_
      refine RD.take 7 rfl (by kernel_rfl) (by kernel_rfl) (by kernel_rfl) (Wt.no rfl) rfl (PV.idxA Try.underlying25 Try.sizeOf3 rfl rfl hn72 (by omega)) ?_
      refine RD.take 8 rfl (by kernel_rfl) (by kernel_rfl) (by kernel_rfl) (Wt.no rfl) rfl (PV.loadM (l := [.int .i64 v69]) 2 Try.TF3 rfl rfl (by rw [cut_Ring_Status_i _ _ _ hn71, he73]) rfl (by decide)) ?_
      refine RD.take 9 rfl (by kernel_rfl) (by kernel_rfl) (by kernel_rfl) (Wt.no rfl) rfl (PV.max rfl rfl) ?_
      refine RD.take 10 rfl (by kernel_rfl) (by kernel_rfl) (by kernel_rfl) (Wt.no rfl) rfl (PV.fieldAddr Try.fa33_0 rfl) ?_
      refine RD.take 11 rfl (by kernel_rfl) (by kernel_rfl) (by kernel_rfl) (Wt.no rfl) rfl (PV.idxA Try.underlying25 Try.sizeOf3 rfl rfl hn77 (by omega)) ?_
      refine RD.one 12 (by kernel_rfl) ?_
      refine Up.eff rfl (Wt.no rfl) rfl (EV.storeB (B := S.t_Ring.enc ({ v56 with Status := v74 } : S.Ring) (hf [q57])) 4 Try.TF3 rfl rfl rfl rfl rfl (by rw [S.t_Ring.len]; show _ ≤ 43; omega) ((wr_Ring_Status_i v56 q57 (max v64 v69) _ hn76).trans (by rw [he78]))) ?_ ?_
      · rintro _ _ _ ⟨rfl, rfl, rfl⟩; exact St.of' (by decide) (L' := [0, 1, 2, 3]) rfl (fun _ h => h)
      rintro _ _ _ ⟨rfl, rfl, rfl⟩
      refine RD.done (by kernel_rfl) ?_
      refine QC.blk_n ?_
      refine QC.then_n ?_
      refine CW.region ?_
      refine RO.val (Wt.no rfl) rfl (PV.addW rfl rfl) ?_
      refine RO.val (Wt.no rfl) rfl (PV.move rfl) ?_
      refine RO.nil ?_
      obtain rfl := Option.some.inj h
      refine QC.roundP (n61, ({ v56 with Status := v74 } : S.Ring), (w64 (v58 + 1)), q57) (nextL_inl hk62) (by exact Nat.lt_succ_self _) [0, 1, 2, 3, 4] (by decide) (by exact ⟨rfl, rfl, rfl, rfl, rfl, trivial⟩) rfl (fun w hΦ => ⟨hΦ.1, (hΦ.2)⟩)
    · replace h := iteF hb63 h
      refine CW.exit ?_
      refine QC.then_x ?_
      refine QC.then_x ?_
      refine QC.blk_x ?_
      obtain rfl := Option.some.inj h
      obtain rfl := nextL_inr hk62
      refine QC.meetP (v56, q57) hk48 [0, 1, 2, 3, 4] (by decide) (by exact ⟨rfl, rfl, rfl, rfl, trivial⟩) rfl (fun w hΦ => ⟨hΦ.1, (hΦ.2)⟩)
  · rintro ⟨v10, q11⟩ h
    try dsimp only at h ⊢
    unfold S.ring_Join_j2 at h
    replace h := bindS h
    obtain ⟨e16, h, hk15⟩ := h
    refine CW.meet (X := S.Ring × Hd) (fun x => [(4, .pointer (some ⟨g3, 0, none⟩)), (5, .pointer (some ⟨g8, 0, none⟩))]) (fun x => [frame D, .blk g1 (S.t_Ring.enc a1 (hf [b1_0])), .blk g2 (S.t_Ring.enc a2 (hf [b2_0])), .blk g3 (S.t_Ring.enc S.Ring.z (hf [Hd.z])), .blk g8 (S.t_Ring.enc x.1 (hf [x.2]))]) (fun x w => (((Φ w ∧ True) ∧ (slR (tInt .i64) w v4.Targets q6)) ∧ (slR (tInt .i64) w v10.Plan.Targets q11)) ∧ (slR (tInt .i64) w x.1.Plan.Targets x.2)) (fun x => S.ring_Join_j4 x.1 = some r) ?_ ?_
    · skip
      refine CW.reg ?_
      refine RO.val (Wt.no rfl) rfl (PV.move rfl) ?_
      refine RO.nil ?_
      refine CW.block ?_
      refine CW.loopE (X := Nat × S.Ring × Int × Hd) (fun x => [(2, .pointer (some ⟨g1, 0, none⟩)), (3, .pointer (some ⟨g2, 0, none⟩)), (4, .pointer (some ⟨g3, 0, none⟩)), (5, .pointer (some ⟨g8, 0, none⟩)), (30, .int .i64 x.2.2.1)]) (fun x => [frame D, .blk g1 (S.t_Ring.enc a1 (hf [b1_0])), .blk g2 (S.t_Ring.enc a2 (hf [b2_0])), .blk g3 (S.t_Ring.enc S.Ring.z (hf [Hd.z])), .blk g8 (S.t_Ring.enc x.2.1 (hf [x.2.2.2]))]) (fun x w => (((Φ w ∧ True) ∧ (slR (tInt .i64) w v4.Targets q6)) ∧ (slR (tInt .i64) w v10.Plan.Targets q11)) ∧ (slR (tInt .i64) w x.2.1.Plan.Targets x.2.2.2)) (fun x => loopN (S.ring_Join_l5 a1 a2) x.1 (x.2.1, x.2.2.1) = some e16) (fun x => x.1) (FUEL, v10, 0, q11) h (by exact ⟨rfl, rfl, rfl, rfl, rfl, trivial⟩) rfl (fun w hΦ => ⟨hΦ, (hΦ.2)⟩) ?_
      rintro ⟨n28', v23, v25, q24⟩ hI26
      try dsimp only at hI26 ⊢
      obtain ⟨n28, y27, rfl, h, hk29⟩ := loopN_some hI26
      unfold S.ring_Join_l5 at h
      try dsimp only at h
      refine CW.reg ?_
      refine RO.val (Wt.no rfl) rfl (PV.lss rfl rfl) ?_
      refine RO.nil ?_
      refine CW.seq ?_
      refine CW.cond rfl (fun hb30 => ?_) (fun hb30 => ?_)
      · replace h := iteT hb30 h
        refine CW.skip ?_
        refine QC.then_n ?_
        refine CW.seq ?_
        refine CW.block ?_
        refine CW.reg ?_
        refine RO.val (Wt.no rfl) rfl (PV.move rfl) ?_
        refine RO.val (Wt.no rfl) rfl (PV.assign rfl) ?_
        refine RO.nil ?_
        replace h := bindS h
        obtain ⟨v31, hx32, h⟩ := h
        obtain ⟨hn33, hn34, he35⟩ := aget_some hx32
        replace h := bindS h
        obtain ⟨v36, hx37, h⟩ := h
        obtain ⟨hn38, hn39, he40⟩ := aget_some hx37
        replace h := bindS h
        obtain ⟨v41, hx42, h⟩ := h
        replace h := bindS h
        obtain ⟨v43, hx44, h⟩ := h
        obtain ⟨hn45, hn46, he47⟩ := aset_some hx44
        refine CW.regionD (pickM [0, 1, 2, 3] _) _ (by kernel_rfl) (St.of (by decide) rfl (fun _ h => h)) ?_
        refine RD.take 0 rfl (by kernel_rfl) (by kernel_rfl) (by kernel_rfl) (Wt.no rfl) rfl (PV.move rfl) ?_
        refine RD.take 1 rfl (by kernel_rfl) (by kernel_rfl) (by kernel_rfl) (Wt.no rfl) rfl (PV.move rfl) ?_
        refine RD.take 2 rfl (by kernel_rfl) (by kernel_rfl) (by kernel_rfl) (Wt.no rfl) rfl (PV.fieldAddr Try.fa33_2 rfl) ?_
        refine RD.take 3 rfl (by kernel_rfl) (by kernel_rfl) (by kernel_rfl) (Wt.no rfl) rfl (PV.idxA Try.underlying31 Try.sizeOf30 rfl rfl hn34 (by omega)) ?_
        refine RD.take 4 rfl (by kernel_rfl) (by kernel_rfl) (by kernel_rfl) (Wt.no rfl) rfl (PV.loadM (l := S.t_Entry.enc v31 (hf [])) 1 Try.TF30 rfl rfl (by rw [cut_Ring_Parts_i _ _ _ hn33, he35]) rfl (by decide)) ?_
        refine RD.take 5 rfl (by kernel_rfl) (by kernel_rfl) (by kernel_rfl) (Wt.no rfl) rfl (PV.move rfl) ?_
        refine RD.take 6 rfl (by kernel_rfl) (by kernel_rfl) (by kernel_rfl) (Wt.no rfl) rfl (PV.fieldAddr Try.fa33_2 rfl) ?_
        refine RD.take 7 rfl (by kernel_rfl) (by kernel_rfl) (by kernel_rfl) (Wt.no rfl) rfl (PV.idxA Try.underlying31 Try.sizeOf30 rfl rfl hn39 (by omega)) ?_
        refine RD.take 8 rfl (by kernel_rfl) (by kernel_rfl) (by kernel_rfl) (Wt.no rfl) rfl (PV.loadM (l := S.t_Entry.enc v36 (hf [])) 2 Try.TF30 rfl rfl (by rw [cut_Ring_Parts_i _ _ _ hn38, he40]) rfl (by decide)) ?_
        refine RD.take 10 rfl (by kernel_rfl) (by kernel_rfl) (by kernel_rfl) (Wt.no rfl) rfl (PV.fieldAddr Try.fa33_2 rfl) ?_
        refine RD.one 9 (by kernel_rfl) ?_
        refine Up.eff rfl (Wt.no rfl) rfl (EV.call (K := _) Try.call111 rfl (SpecK.callV (W_entry_Join v31 v36 hx42))) ?_ ?_
        · rintro _ _ _ ⟨_, rfl, rfl, rfl⟩; exact St.of' (by decide) (L' := [0, 1, 2, 3]) rfl (fun _ h => h)
        rintro _ _ _ ⟨_, rfl, rfl, rfl⟩
        refine RD.take 11 rfl (by kernel_rfl) (by kernel_rfl) (by kernel_rfl) (Wt.no rfl) rfl (PV.idxA Try.underlying31 Try.sizeOf30 rfl rfl hn46 (by omega)) ?_
        refine RD.one 12 (by kernel_rfl) ?_
        refine Up.eff rfl (Wt.no rfl) rfl (EV.storeB (B := S.t_Ring.enc ({ v23 with Parts := v43 } : S.Ring) (hf [q24])) 4 Try.TF30 rfl rfl rfl (by exact S.t_Entry.len v41 (hf [])) (by exact S.t_Entry.one v41 (hf [])) (by rw [S.t_Ring.len]; show _ ≤ 43; omega) ((wr_Ring_Parts_i v23 q24 v41 _ hn45).trans (by rw [he47]))) ?_ ?_
        · rintro _ _ _ ⟨rfl, rfl, rfl⟩; exact St.of' (by decide) (L' := [0, 1, 2, 3]) rfl (fun _ h => h)
        rintro _ _ _ ⟨rfl, rfl, rfl⟩
        refine RD.done (by kernel_rfl) ?_
        refine QC.blk_n ?_
        refine QC.then_n ?_
        refine CW.region ?_
        refine RO.val (Wt.no rfl) rfl (PV.addW rfl rfl) ?_
        refine RO.val (Wt.no rfl) rfl (PV.move rfl) ?_
        refine RO.nil ?_
        obtain rfl := Option.some.inj h
        refine QC.roundP (n28, ({ v23 with Parts := v43 } : S.Ring), (w64 (v25 + 1)), q24) (nextL_inl hk29) (by exact Nat.lt_succ_self _) [0, 1, 2, 3, 4] (by decide) (by exact ⟨rfl, rfl, rfl, rfl, rfl, trivial⟩) rfl (fun w hΦ => ⟨hΦ.1, (hΦ.2)⟩)
      · replace h := iteF hb30 h
        refine CW.exit ?_
        refine QC.then_x ?_
        refine QC.then_x ?_
        refine QC.blk_x ?_
        obtain rfl := Option.some.inj h
        obtain rfl := nextL_inr hk29
        refine QC.meetP (v23, q24) hk15 [0, 1, 2, 3, 4] (by decide) (by exact ⟨rfl, rfl, trivial⟩) rfl (fun w hΦ => ⟨hΦ.1, (hΦ.2)⟩)
    · rintro ⟨v13, q14⟩ h
      try dsimp only at h ⊢
      unfold S.ring_Join_j4 at h
      refine CW.reg ?_
      refine RO.val (Wt.no rfl) rfl (PV.loadM (l := S.t_Ring.enc v13 (hf [q14])) 4 Try.TF33 rfl rfl (cut_self (S.t_Ring.len _ _)) rfl (by decide)) ?_
      refine RO.eff (Wt.no rfl) rfl (EV.storeW (B := S.t_Ring.enc v13 (hf [q14])) 3 Try.TF33 rfl rfl rfl (by exact S.t_Ring.len v13 (hf [q14])) (by exact S.t_Ring.one v13 (hf [q14])) (S.t_Ring.len S.Ring.z (hf [Hd.z])) rfl) ?_
      rintro _ _ _ ⟨rfl, rfl, rfl⟩
      refine RO.nil ?_
      refine CW.ret ?_
      obtain rfl := Option.some.inj h
      exact retP1 (Ψ := fun w => Φ w ∧ (slR (tInt .i64) w v13.Plan.Targets q14)) [0] (by decide) rfl (RV.cell (A := S.t_Ring.enc v13 (hf [q14])) 3 rfl Try.TF33 rfl (S.t_Ring.len _ _) (by decide)) rfl (fun w hΦ => ⟨hΦ.1.1.1.1, (hΦ.2)⟩) ⟨q14, rfl, rfl, rfl⟩

theorem W_vault_copied {D : Mem} {Φ : World → Prop} (a1 : S.Bag) (b1_0 : Hd) {r : S.Bag} (h : S.vault_copied a1 = some r) (hR : ∀ w, MemOk D w → Φ w → (slR S.t_Val w a1.Values b1_0)) :
    SpecK Try.prog 61 [.agg (S.t_Bag.enc a1 (hf [b1_0])).toArray] D [] Φ (fun x : Hd => .agg (S.t_Bag.enc r (hf [x])).toArray) (fun x => []) (fun x => []) (fun x w => Φ w ∧ (slR S.t_Val w r.Values x)) := by
  refine enterK Try.func61 rfl Try.ntmps61 rfl ?_
  unfold S.vault_copied at h
  refine CW.reg ?_
  refine RO.eff (Wt.no rfl) rfl (EV.boxB (B := S.t_Bag.enc a1 (hf [b1_0])) rfl rfl) ?_
  rintro _ _ _ ⟨g1, rfl, rfl, rfl⟩
  refine RO.eff (Wt.no rfl) rfl (EV.allocB (B := S.t_Bag.enc S.Bag.z (hf [Hd.z])) Try.zeroValue40 rfl) ?_
  rintro _ _ _ ⟨g2, rfl, rfl, rfl⟩
  refine RO.nil ?_
  replace h := bindS h
  obtain ⟨v3, hx4, h⟩ := h
  refine CW.reg ?_
  refine RO.val (Wt.no rfl) rfl (PV.fieldAddr Try.fa40_1 rfl) ?_
  refine RO.val (Wt.no rfl) rfl (PV.loadM (l := [.slice b1_0.a a1.Values.length b1_0.cap]) 1 Try.TF38 rfl rfl (cut_Bag_Values _ _) rfl (by decide)) ?_
  refine RO.eff (Wt.no rfl) rfl (EV.call (K := _) Try.call59 rfl (SpecK.call0 (W_slices_Clone_api_Value_api_Value a1.Values b1_0 hx4 (fun w hm hΦ => (hR w (hm.frameAt (i := 0) rfl) (hΦ.1)))))) ?_
  rintro _ _ _ ⟨q5, rfl, rfl, rfl⟩
  refine RO.val (Wt.no rfl) rfl (PV.fieldAddr Try.fa40_1 rfl) ?_
  refine RO.eff (Wt.no rfl) rfl (EV.storeB (B := S.t_Bag.enc ({ a1 with Values := v3 } : S.Bag) (hf [q5])) 1 Try.TF38 rfl rfl rfl rfl rfl (by rw [S.t_Bag.len]; decide) (wr_Bag_Values a1 b1_0 q5 v3)) ?_
  rintro _ _ _ ⟨rfl, rfl, rfl⟩
  refine RO.nil ?_
  refine CW.reg ?_
  refine RO.val (Wt.no rfl) rfl (PV.loadM (l := S.t_Bag.enc ({ a1 with Values := v3 } : S.Bag) (hf [q5])) 1 Try.TF40 rfl rfl (cut_self (S.t_Bag.len _ _)) rfl (by decide)) ?_
  refine RO.eff (Wt.no rfl) rfl (EV.storeW (B := S.t_Bag.enc ({ a1 with Values := v3 } : S.Bag) (hf [q5])) 2 Try.TF40 rfl rfl rfl (by exact S.t_Bag.len ({ a1 with Values := v3 } : S.Bag) (hf [q5])) (by exact S.t_Bag.one ({ a1 with Values := v3 } : S.Bag) (hf [q5])) (S.t_Bag.len S.Bag.z (hf [Hd.z])) rfl) ?_
  rintro _ _ _ ⟨rfl, rfl, rfl⟩
  refine RO.nil ?_
  refine CW.ret ?_
  refine QC.freeze (t := S.t_Val) 3 rfl (fun w hΦ => (fun _ _ _ => trivial)) ?_
  obtain rfl := Option.some.inj h
  exact retP1 (Ψ := fun w => Φ w ∧ (slR S.t_Val w v3 q5)) [0] (by decide) rfl (RV.cell (A := S.t_Bag.enc ({ a1 with Values := v3 } : S.Bag) (hf [q5])) 2 rfl Try.TF40 rfl (S.t_Bag.len _ _) (by decide)) rfl (fun w hΦ => ⟨hΦ.1.1, (hΦ.2)⟩) ⟨q5, rfl, rfl, rfl⟩

theorem W_spot_Hash {D : Mem} {Φ : World → Prop} (a1 : ByteArray) {r : Int} (h : S.spot_Hash a1 = some r) :
    SpecK Try.prog 45 [.string a1] D [] Φ (fun x : Unit => .int .u64 r) (fun x => []) (fun x => []) (fun _ => Φ) := by
  refine enterK Try.func45 rfl Try.ntmps45 rfl ?_
  unfold S.spot_Hash at h
  refine CW.reg ?_
  refine RO.val (Wt.no rfl) rfl (PV.assign rfl) ?_
  refine RO.nil ?_
  refine CW.reg ?_
  refine RO.val (Wt.no rfl) rfl (PV.assign rfl) ?_
  refine RO.nil ?_
  replace h := bindS h
  obtain ⟨e4, h, hk3⟩ := h
  refine CW.meet (X := Int) (fun x => [(2, .int .u64 0), (3, .int .u64 x)]) (fun x => [frame D]) (fun x w => (Φ w ∧ True)) (fun x => S.spot_Hash_j2 x = some r) ?_ ?_
  · skip
    refine CW.reg ?_
    refine RO.val (Wt.no rfl) rfl (PV.move rfl) ?_
    refine RO.val (Wt.no rfl) rfl (PV.lenStr Try.underlying9 rfl) ?_
    refine RO.val (Wt.no rfl) rfl (PV.move rfl) ?_
    refine RO.nil ?_
    refine CW.block ?_
    refine CW.loopE (X := Nat × Int × Int) (fun x => [(0, .string a1), (2, .int .u64 0), (3, .int .u64 x.2.1), (6, .int .i64 (a1.size : Int)), (7, .int .i64 x.2.2)]) (fun x => [frame D]) (fun x w => (Φ w ∧ True)) (fun x => loopN (S.spot_Hash_l3 a1) x.1 (x.2.1, x.2.2) = some e4) (fun x => x.1) (FUEL, 14695981039346656037, 0) h (by exact ⟨rfl, rfl, rfl, rfl, rfl, trivial⟩) rfl (fun w hΦ => hΦ) ?_
    rintro ⟨n14', v10, v11⟩ hI12
    try dsimp only at hI12 ⊢
    obtain ⟨n14, y13, rfl, h, hk15⟩ := loopN_some hI12
    unfold S.spot_Hash_l3 at h
    try dsimp only at h
    refine CW.reg ?_
    refine RO.val (Wt.no rfl) rfl (PV.lss rfl rfl) ?_
    refine RO.nil ?_
    refine CW.seq ?_
    refine CW.cond rfl (fun hb16 => ?_) (fun hb16 => ?_)
    · replace h := iteT hb16 h
      refine CW.skip ?_
      refine QC.then_n ?_
      refine CW.seq ?_
      refine CW.block ?_
      refine CW.reg ?_
      refine RO.val (Wt.no rfl) rfl (PV.move rfl) ?_
      refine RO.val (Wt.no rfl) rfl (PV.assign rfl) ?_
      refine RO.nil ?_
      replace h := bindS h
      obtain ⟨v17, hx18, h⟩ := h
      obtain ⟨hn19, hn20, he21⟩ := sget_some hx18
      refine CW.region ?_
      refine RO.val (Wt.no rfl) rfl (PV.move rfl) ?_
      refine RO.val (Wt.no rfl) rfl (PV.move rfl) ?_
      refine RO.val (Wt.no rfl) rfl (PV.move rfl) ?_
      refine RO.val (Wt.no rfl) rfl ((PV.indexStr Try.underlying9 rfl rfl hn20 hn19).to (congrArg (Value.int .u8) he21)) ?_
      refine RO.val (Wt.no rfl) rfl (PV.conv Try.underlying24 ⟨_, Try.underlying5⟩ rfl) ?_
      refine RO.val (Wt.no rfl) rfl (PV.xor rfl rfl) ?_
      refine RO.val (Wt.no rfl) rfl (PV.mulW rfl rfl) ?_
      refine RO.val (Wt.no rfl) rfl (PV.assign rfl) ?_
      refine RO.nil ?_
      refine QC.blk_n ?_
      refine QC.then_n ?_
      refine CW.region ?_
      refine RO.val (Wt.no rfl) rfl (PV.addW rfl rfl) ?_
      refine RO.val (Wt.no rfl) rfl (PV.move rfl) ?_
      refine RO.nil ?_
      obtain rfl := Option.some.inj h
      refine QC.roundP (n14, (IntKind.u64.wrap ((xorI .u64 v10 (IntKind.u64.wrap v17)) * 1099511628211)), (w64 (v11 + 1))) (nextL_inl hk15) (by exact Nat.lt_succ_self _) [0] (by decide) (by exact ⟨rfl, rfl, rfl, rfl, rfl, trivial⟩) rfl (fun w hΦ => hΦ)
    · replace h := iteF hb16 h
      refine CW.exit ?_
      refine QC.then_x ?_
      refine QC.then_x ?_
      refine QC.blk_x ?_
      obtain rfl := Option.some.inj h
      obtain rfl := nextL_inr hk15
      refine QC.meetP v10 hk3 [0] (by decide) (by exact ⟨rfl, rfl, trivial⟩) rfl (fun w hΦ => hΦ)
  · rintro v2 h
    try dsimp only at h ⊢
    unfold S.spot_Hash_j2 at h
    refine CW.reg ?_
    refine RO.val (Wt.no rfl) rfl (PV.move rfl) ?_
    refine RO.val (Wt.no rfl) rfl (PV.move rfl) ?_
    refine RO.val (Wt.no rfl) rfl (PV.shr rfl rfl (by decide)) ?_
    refine RO.val (Wt.no rfl) rfl (PV.xor rfl rfl) ?_
    refine RO.val (Wt.no rfl) rfl (PV.assign rfl) ?_
    refine RO.nil ?_
    refine CW.ret ?_
    obtain rfl := Option.some.inj h
    exact retP1 (Ψ := Φ) [0] (by decide) rfl (RV.tmp rfl) rfl (fun w hΦ => hΦ.1) ⟨(), rfl, rfl, rfl⟩

theorem W_spot_Of {D : Mem} {Φ : World → Prop} (a1 : ByteArray) {r : Int} (h : S.spot_Of a1 = some r) :
    SpecK Try.prog 12 [.string a1] D [] Φ (fun x : Unit => .int .i64 r) (fun x => []) (fun x => []) (fun _ => Φ) := by
  refine enterK Try.func12 rfl Try.ntmps12 rfl ?_
  unfold S.spot_Of at h
  refine CW.reg ?_
  refine RO.val (Wt.no rfl) rfl (PV.assign rfl) ?_
  refine RO.nil ?_
  refine CW.seq ?_
  replace h := bindS h
  obtain ⟨v1, hx2, h⟩ := h
  refine CW.reg ?_
  refine RO.val (Wt.no rfl) rfl (PV.move rfl) ?_
  refine RO.eff (Wt.no rfl) rfl (EV.call (K := _) Try.call8 rfl (SpecK.callV (W_spot_May a1 hx2))) ?_
  rintro _ _ _ ⟨_, rfl, rfl, rfl⟩
  refine RO.val (Wt.no rfl) rfl (PV.not rfl) ?_
  refine RO.nil ?_
  refine CW.cond rfl (fun hb3 => ?_) (fun hb3 => ?_)
  · replace h := iteT hb3 h
    refine CW.reg ?_
    refine RO.val (Wt.no rfl) rfl (PV.assign rfl) ?_
    refine RO.nil ?_
    refine CW.ret ?_
    refine QC.then_r ?_
    obtain rfl := Option.some.inj h
    exact retP1 (Ψ := Φ) [0] (by decide) rfl (RV.tmp rfl) rfl (fun w hΦ => hΦ.1) ⟨(), rfl, rfl, rfl⟩
  · replace h := iteF hb3 h
    refine CW.skip ?_
    refine QC.then_n ?_
    replace h := bindS h
    obtain ⟨v4, hx5, h⟩ := h
    refine CW.reg ?_
    refine RO.val (Wt.no rfl) rfl (PV.move rfl) ?_
    refine RO.eff (Wt.no rfl) rfl (EV.call (K := _) Try.call45 rfl (SpecK.callV (W_spot_Hash a1 hx5))) ?_
    rintro _ _ _ ⟨_, rfl, rfl, rfl⟩
    refine RO.val (Wt.no rfl) rfl (PV.rem rfl rfl (by decide)) ?_
    refine RO.val (Wt.no rfl) rfl (PV.conv Try.underlying3 ⟨_, Try.underlying24⟩ rfl) ?_
    refine RO.val (Wt.no rfl) rfl (PV.assign rfl) ?_
    refine RO.nil ?_
    refine CW.ret ?_
    obtain rfl := Option.some.inj h
    exact retP1 (Ψ := Φ) [0] (by decide) rfl (RV.tmp rfl) rfl (fun w hΦ => hΦ.1) ⟨(), rfl, rfl, rfl⟩

theorem W_vault_Vault_counts_1 {D : Mem} {Φ : World → Prop} (a1 : ByteArray) (a2 : S.Bag) (a3 : S.Deed) (ga3_0 : Nat) (b2_0 : Hd) (b3_0 : Hd) (b3_1 : Hd) {r : Bool} (h : S.vault_Vault_counts_1 a1 a2 a3 = some r) (hR : ∀ w, MemOk D w → Φ w → (slR S.t_Val w a2.Values b2_0 ∧ slR S.t_Val w a3.Bag.Values b3_0 ∧ slR (tInt .i64) w a3.Ring.Plan.Targets b3_1)) :
    SpecK Try.prog 85 [.string a1, .agg (S.t_Bag.enc a2 (hf [b2_0])).toArray, .pointer (pq ga3_0).a] D [.blk ga3_0 (S.t_Deed.enc a3 (hf [b3_0, b3_1]))] Φ (fun x : Unit => .bool r) (fun x => [.blk ga3_0 (S.t_Deed.enc a3 (hf [b3_0, b3_1]))]) (fun x => []) (fun _ => Φ) := by
  refine enterK Try.func85 rfl Try.ntmps85 rfl ?_
  unfold S.vault_Vault_counts_1 at h
  refine CW.reg ?_
  refine RO.eff (Wt.no rfl) rfl (EV.boxB (B := S.t_Bag.enc a2 (hf [b2_0])) rfl rfl) ?_
  rintro _ _ _ ⟨g1, rfl, rfl, rfl⟩
  refine RO.val (Wt.no rfl) rfl (PV.assign rfl) ?_
  refine RO.nil ?_
  replace h := bindS h
  obtain ⟨v2, hx3, h⟩ := h
  refine CW.regD (pickM [0, 1, 2] _) _ (by kernel_rfl) (St.of (by decide) rfl (fun _ h => h)) ?_
  refine RD.take 0 rfl (by kernel_rfl) (by kernel_rfl) (by kernel_rfl) (Wt.no rfl) rfl (PV.move rfl) ?_
  refine RD.take 2 rfl (by kernel_rfl) (by kernel_rfl) (by kernel_rfl) (Wt.no rfl) rfl (PV.fieldAddr Try.fa106_5 rfl) ?_
  refine RD.take 3 rfl (by kernel_rfl) (by kernel_rfl) (by kernel_rfl) (Wt.no rfl) rfl (PV.loadM (l := [.int .i64 a3.Part]) 1 Try.TF3 rfl rfl (cut_Deed_Part _ _) rfl (by decide)) ?_
  refine RD.one 1 (by kernel_rfl) ?_
  refine Up.eff rfl (Wt.no rfl) rfl (EV.call (K := _) Try.call12 rfl (SpecK.callV (W_spot_Of a1 hx3))) ?_ ?_
  · rintro _ _ _ ⟨_, rfl, rfl, rfl⟩; exact St.of' (by decide) (L' := [0, 1, 2]) rfl (fun _ h => h)
  rintro _ _ _ ⟨_, rfl, rfl, rfl⟩
  refine RD.take 4 rfl (by kernel_rfl) (by kernel_rfl) (by kernel_rfl) (Wt.no rfl) rfl (PV.eql rfl rfl) ?_
  refine RD.take 5 rfl (by kernel_rfl) (by kernel_rfl) (by kernel_rfl) (Wt.no rfl) rfl (PV.assign rfl) ?_
  refine RD.done (by kernel_rfl) ?_
  refine CW.ret ?_
  obtain rfl := Option.some.inj h
  exact retP1 (Ψ := Φ) [0, 1] (by decide) rfl (RV.tmp rfl) rfl (fun w hΦ => hΦ.1) ⟨(), rfl, rfl, rfl⟩

theorem W_maps_DeleteFunc_map_string_api_Bag_string_api_Bag_vault_Vault_counts_1 {D : Mem} {Φ : World → Prop} (a1 : List (ByteArray × S.Bag)) (a3 : S.Deed) (ga1_0 ga3_0 : Nat) (b1_0 : (Nat → Hs)) (b3_0 : Hd) (b3_1 : Hd) {r : (List (ByteArray × S.Bag))} (h : S.maps_DeleteFunc_map_string_api_Bag_string_api_Bag_vault_Vault_counts_1 a1 a3 = some r) (hR : ∀ w, Φ w → (mpR S.t_Bag w a1 b1_0 ∧ slR S.t_Val w a3.Bag.Values b3_0 ∧ slR (tInt .i64) w a3.Ring.Plan.Targets b3_1)) :
    SpecK Try.prog 84 [.map (mb (pq ga1_0)), .func (.func 85) #[] #[.pointer (pq ga3_0).a]] D [mpE Value.string S.t_Bag ga1_0 a1 b1_0, .blk ga3_0 (S.t_Deed.enc a3 (hf [b3_0, b3_1]))] Φ (fun x : (Nat → Hs) => .tuple #[]) (fun x => [mpE Value.string S.t_Bag ga1_0 r x, .blk ga3_0 (S.t_Deed.enc a3 (hf [b3_0, b3_1]))]) (fun x => []) (fun x w => Φ w ∧ (mpR S.t_Bag w r x)) := by
  refine enterK Try.func84 rfl Try.ntmps84 rfl ?_
  unfold S.maps_DeleteFunc_map_string_api_Bag_string_api_Bag_vault_Vault_counts_1 at h
  refine CW.reg ?_
  refine RO.val (Wt.no rfl) rfl (PV.move rfl) ?_
  refine RO.eff (Wt.no rfl) rfl (EV.rangeQ (kv := Value.string) (tv := S.t_Bag) (l := a1) (hh := b1_0) 1 Try.underlying99 rfl rfl) ?_
  rintro _ _ _ ⟨g1, rfl, rfl, rfl⟩
  refine RO.nil ?_
  refine CW.block ?_
  refine CW.loopE (X := (List ByteArray) × (List (ByteArray × S.Bag)) × (Nat → Hs)) (fun x => [(0, .map (mb (pq ga1_0))), (1, .func (.func 85) #[] #[.pointer (pq ga3_0).a]), (7, .pointer (some ⟨g1, 0, none⟩))]) (fun x => [frame D, rngE Value.string S.t_Bag ga1_0 g1 x.2.1 x.2.2 x.1 none, .blk ga3_0 (S.t_Deed.enc a3 (hf [b3_0, b3_1]))]) (fun x w => (Φ w ∧ True) ∧ (mpR S.t_Bag w x.2.1 x.2.2)) (fun x => ∀ π, π.Perm x.1 → andThen (foldR (S.maps_DeleteFunc_map_string_api_Bag_string_api_Bag_vault_Vault_counts_1_l1 a3) π x.2.1) S.maps_DeleteFunc_map_string_api_Bag_string_api_Bag_vault_Vault_counts_1_x1 = some r) (fun x => x.1.length) ((a1.map (·.1)), a1, b1_0) (ordFree_all h) (by exact ⟨rfl, rfl, rfl, trivial⟩) rfl (fun w hΦ => ⟨hΦ, (hR w (hΦ.1)).1⟩) ?_
  rintro ⟨w9, v7, q8⟩ hI10
  try dsimp only at hI10 ⊢
  refine CW.reg ?_
  refine RO.eff (Wt.no rfl) rfl (EV.nextQ 1 str_inj rfl rfl) ?_
  rintro _ _ _ (⟨rfl, rfl, rfl, rfl⟩ | ⟨w14, v13, w15, _, rfl, rfl, rfl, rfl⟩)
  · refine RO.val (Wt.no rfl) rfl (PV.extract rfl rfl) ?_
    refine RO.nil ?_
    replace h := foldR_nil hI10
    unfold S.maps_DeleteFunc_map_string_api_Bag_string_api_Bag_vault_Vault_counts_1_x1 at h
    try dsimp only at h
    refine CW.unrange 1 rfl ?_
    refine CW.seq ?_
    refine CW.condF rfl ?_
    refine CW.exit ?_
    refine QC.then_x ?_
    refine QC.then_x ?_
    refine QC.blk_x ?_
    obtain rfl := Option.some.inj h
    exact retP0 (Ψ := fun w => Φ w ∧ (mpR S.t_Bag w v7 q8)) [0, 1, 2] (by decide) (.inr rfl) rfl rfl (fun w hΦ => ⟨hΦ.1.1, (hΦ.2)⟩) ⟨q8, rfl, rfl, rfl⟩
  · refine RO.val (Wt.no rfl) rfl (PV.extract rfl rfl) ?_
    refine RO.nil ?_
    obtain ⟨y11, h, hk12⟩ := foldR_step hI10
    unfold S.maps_DeleteFunc_map_string_api_Bag_string_api_Bag_vault_Vault_counts_1_l1 at h
    try dsimp only at h
    refine CW.seq ?_
    refine CW.condT rfl ?_
    refine CW.skip ?_
    refine QC.then_n ?_
    refine CW.block ?_
    refine CW.reg ?_
    refine RO.val (Wt.no rfl) rfl (PV.entryQ (kv := Value.string) (tv := S.t_Bag) (l := v7) (hh := q8) (k := v13) 1 str_inj rfl rfl) ?_
    refine RO.val (Wt.no rfl) rfl (PV.extract rfl rfl) ?_
    refine RO.val (Wt.no rfl) rfl (PV.extract rfl rfl) ?_
    refine RO.eff (Wt.no rfl) rfl (EV.allocB (B := S.t_Bag.enc S.Bag.z (hf [Hd.z])) Try.zeroValue40 rfl) ?_
    rintro _ _ _ ⟨g16, rfl, rfl, rfl⟩
    refine RO.val (Wt.no rfl) rfl (PV.assign rfl) ?_
    refine RO.eff (Wt.no rfl) rfl (EV.storeW (B := S.t_Bag.enc ((mget v7 v13).getD S.Bag.z) (hf [(mgetH v7 q8 v13 0)])) 3 Try.TF40 rfl rfl rfl (by exact S.t_Bag.len ((mget v7 v13).getD S.Bag.z) (hf [(mgetH v7 q8 v13 0)])) (by exact S.t_Bag.one ((mget v7 v13).getD S.Bag.z) (hf [(mgetH v7 q8 v13 0)])) (S.t_Bag.len S.Bag.z (hf [Hd.z])) rfl) ?_
    rintro _ _ _ ⟨rfl, rfl, rfl⟩
    refine RO.nil ?_
    replace h := bindS h
    obtain ⟨v17, hx18, h⟩ := h
    refine CW.reg ?_
    refine RO.val (Wt.no rfl) rfl (PV.move rfl) ?_
    refine RO.val (Wt.no rfl) rfl (PV.move rfl) ?_
    refine RO.val (Wt.no rfl) rfl (PV.loadM (l := S.t_Bag.enc ((mget v7 v13).getD S.Bag.z) (hf [(mgetH v7 q8 v13 0)])) 3 Try.TF40 rfl rfl (cut_self (S.t_Bag.len _ _)) rfl (by decide)) ?_
    refine RO.eff (Wt.no rfl) rfl (EV.callV2 (K := _) (pre := []) (caps := [.pointer (pq ga3_0).a]) Try.call85 rfl rfl (SpecK.call [2] (fun x : Unit => [frame D, rngE Value.string S.t_Bag ga1_0 g1 v7 q8 (w14 ++ w15) (some v13), .blk ga3_0 (S.t_Deed.enc a3 (hf [b3_0, b3_1])), .blk g16 (S.t_Bag.enc ((mget v7 v13).getD S.Bag.z) (hf [(mgetH v7 q8 v13 0)]))]) (Outs.cons rfl Outs.nil) (fun _ => (Outs.cons rfl Outs.nil)) (W_vault_Vault_counts_1 v13 ((mget v7 v13).getD S.Bag.z) a3 ga3_0 (mgetH v7 q8 v13 0) b3_0 b3_1 hx18 (fun w hm hΦ => ⟨((mpR.get (tv := S.t_Bag) (hΦ.2) v13)), (hR w (hΦ.1.1)).2.1, (hR w (hΦ.1.1)).2.2⟩)))) ?_
    rintro _ _ _ ⟨_, rfl, rfl, rfl⟩
    refine RO.nil ?_
    refine CW.cond rfl (fun hb19 => ?_) (fun hb19 => ?_)
    · replace h := iteT hb19 h
      subst hb19
      refine CW.region ?_
      refine RO.val (Wt.no rfl) rfl (PV.move rfl) ?_
      refine RO.val (Wt.no rfl) rfl (PV.move rfl) ?_
      refine RO.eff (Wt.no rfl) rfl (EV.deleteQ (kv := Value.string) (tv := S.t_Bag) (l := v7) (hh := q8) (k := v13) 1 (strKey Try.underlying9) str_dom str_inj Try.underlying99 rfl rfl rfl) ?_
      rintro _ _ _ ⟨rfl, rfl⟩
      refine RO.nil ?_
      refine QC.blk_n ?_
      obtain rfl := Option.some.inj h
      refine QC.roundP ((w14 ++ w15), (mdel v7 v13), (mdelH v7 q8 v13)) (afterR_inl hk12) (by exact midlt) [0, 1, 2] (by decide) (by exact ⟨rfl, rfl, rfl, trivial⟩) rfl (fun w hΦ => ⟨hΦ.1, (mpR.del (hΦ.2))⟩)
    · replace h := iteF hb19 h
      subst hb19
      refine CW.skip ?_
      refine QC.blk_n ?_
      obtain rfl := Option.some.inj h
      refine QC.uncur 1 rfl ?_
      refine QC.roundP ((w14 ++ w15), v7, q8) (afterR_inl hk12) (by exact midlt) [0, 1, 2] (by decide) (by exact ⟨rfl, rfl, rfl, trivial⟩) rfl (fun w hΦ => ⟨hΦ.1, (hΦ.2)⟩)

theorem W_vault_Vault_counts {D : Mem} {Φ : World → Prop} (a1 : S.vault_Vault) (a2 : S.Deed) (ga1_0 ga1_1 ga1_2 : Nat) (b1_0 : Hd) (b1_1 : Hd) (b1_2 : (Nat → Hs)) (b2_0 : Hd) (b2_1 : Hd) {r : S.vault_Vault} (h : S.vault_Vault_counts a1 a2 = some r) (hR : ∀ w, Φ w → (rdS S.t_Deed w a1.l.l b1_0.sub ∧ slR (tInt .i64) w a1.ring.Plan.Targets b1_1 ∧ mpR S.t_Bag w a1.bags b1_2 ∧ slR S.t_Val w a2.Bag.Values b2_0 ∧ slR (tInt .i64) w a2.Ring.Plan.Targets b2_1)) :
    SpecK Try.prog 52 [.pointer (pq ga1_0).a, .agg (S.t_Deed.enc a2 (hf [b2_0, b2_1])).toArray] D [.blk ga1_0 (S.t_vault_Vault.enc a1 (hf [(pq ga1_1), b1_1, (pq ga1_2)])), .blk ga1_1 (S.t_ledger_Ledger.enc a1.l (hf [b1_0])), rowE S.t_Deed 106 a1.l.l b1_0, mpE Value.string S.t_Bag ga1_2 a1.bags b1_2] Φ (fun x : Hd × Hd × (Nat → Hs) => .tuple #[]) (fun x => [.blk ga1_0 (S.t_vault_Vault.enc r (hf [(pq ga1_1), x.2.1, (pq ga1_2)])), .blk ga1_1 (S.t_ledger_Ledger.enc r.l (hf [x.1])), rowE S.t_Deed 106 r.l.l x.1, mpE Value.string S.t_Bag ga1_2 r.bags x.2.2]) (fun x => []) (fun x w => Φ w ∧ (rdS S.t_Deed w r.l.l x.1.sub ∧ slR (tInt .i64) w r.ring.Plan.Targets x.2.1 ∧ mpR S.t_Bag w r.bags x.2.2)) := by
  refine enterK Try.func52 rfl Try.ntmps52 rfl ?_
  unfold S.vault_Vault_counts at h
  refine CW.reg ?_
  refine RO.eff (Wt.no rfl) rfl (EV.boxB (B := S.t_Deed.enc a2 (hf [b2_0, b2_1])) rfl rfl) ?_
  rintro _ _ _ ⟨g1, rfl, rfl, rfl⟩
  refine RO.nil ?_
  refine CW.reg ?_
  refine RO.val (Wt.no rfl) rfl (PV.fieldAddr Try.fa106_0 rfl) ?_
  refine RO.val (Wt.no rfl) rfl (PV.loadM (l := [.int .i64 a2.Kind]) 5 Try.TF3 rfl rfl (cut_Deed_Kind _ _) rfl (by decide)) ?_
  refine RO.nil ?_
  refine CW.block ?_
  refine CW.reg ?_
  refine RO.val (Wt.no rfl) rfl (PV.eql rfl rfl) ?_
  refine RO.val (Wt.no rfl) rfl (PV.assign rfl) ?_
  refine RO.nil ?_
  refine CW.cond rfl (fun hb2 => ?_) (fun hb2 => ?_)
  · replace h := iteT hb2 h
    refine CW.region ?_
    refine RO.val (Wt.no rfl) rfl (PV.move rfl) ?_
    refine RO.val (Wt.no rfl) rfl (PV.fieldAddr Try.fa106_1 rfl) ?_
    refine RO.val (Wt.no rfl) rfl (PV.loadM (l := [.int .i64 a2.N]) 5 Try.TF3 rfl rfl (cut_Deed_N _ _) rfl (by decide)) ?_
    refine RO.val (Wt.no rfl) rfl (PV.nilCheck rfl) ?_
    refine RO.val (Wt.no rfl) rfl (PV.fieldAddr Try.fa101_1 rfl) ?_
    refine RO.eff (Wt.no rfl) rfl (EV.storeB (B := S.t_vault_Vault.enc ({ a1 with inc := a2.N } : S.vault_Vault) (hf [(pq ga1_1), b1_1, (pq ga1_2)])) 1 Try.TF3 rfl rfl rfl rfl rfl (by rw [S.t_vault_Vault.len]; decide) (wr_vault_Vault_inc a1 (pq ga1_1) b1_1 (pq ga1_2) a2.N)) ?_
    rintro _ _ _ ⟨rfl, rfl, rfl⟩
    refine RO.nil ?_
    refine QC.blk_n ?_
    obtain rfl := Option.some.inj h
    exact retP0 (Ψ := fun w => Φ w ∧ (rdS S.t_Deed w ((({ a1 with inc := a2.N } : S.vault_Vault).l).l) b1_0.sub ∧ slR (tInt .i64) w (((({ a1 with inc := a2.N } : S.vault_Vault).ring).Plan).Targets) b1_1 ∧ mpR S.t_Bag w (({ a1 with inc := a2.N } : S.vault_Vault).bags) b1_2)) [0, 1, 2, 3, 4] (by decide) (.inr rfl) rfl rfl (fun w hΦ => ⟨hΦ.1, (hR w (hΦ.1)).1, (hR w (hΦ.1)).2.1, (hR w (hΦ.1)).2.2.1⟩) ⟨(b1_0, b1_1, b1_2), rfl, rfl, rfl⟩
  · replace h := iteF hb2 h
    refine CW.reg ?_
    refine RO.val (Wt.no rfl) rfl (PV.eql rfl rfl) ?_
    refine RO.val (Wt.no rfl) rfl (PV.assign rfl) ?_
    refine RO.nil ?_
    refine CW.cond rfl (fun hb3 => ?_) (fun hb3 => ?_)
    · replace h := iteT hb3 h
      replace h := bindS h
      obtain ⟨v4, hx5, h⟩ := h
      refine CW.reg ?_
      refine RO.val (Wt.no rfl) rfl (PV.move rfl) ?_
      refine RO.val (Wt.no rfl) rfl (PV.fieldAddr Try.fa106_4 rfl) ?_
      refine RO.val (Wt.no rfl) rfl (PV.loadM (l := S.t_Ring.enc a2.Ring (hf [b2_1])) 5 Try.TF33 rfl rfl (cut_Deed_Ring _ _) rfl (by decide)) ?_
      refine RO.val (Wt.no rfl) rfl (PV.fieldAddr Try.fa106_4 rfl) ?_
      refine RO.val (Wt.no rfl) rfl (PV.loadM (l := S.t_Ring.enc a2.Ring (hf [b2_1])) 5 Try.TF33 rfl rfl (cut_Deed_Ring _ _) rfl (by decide)) ?_
      refine RO.eff (Wt.no rfl) rfl (EV.call (K := _) Try.call83 rfl (SpecK.callV (W_ring_Join a2.Ring a2.Ring b2_1 b2_1 hx5 (fun w hm hΦ => ⟨(hR w (hΦ.1)).2.2.2.2, (hR w (hΦ.1)).2.2.2.2⟩)))) ?_
      rintro _ _ _ ⟨q6, rfl, rfl, rfl⟩
      refine RO.val (Wt.no rfl) rfl (PV.nilCheck rfl) ?_
      refine RO.val (Wt.no rfl) rfl (PV.fieldAddr Try.fa101_2 rfl) ?_
      refine RO.eff (Wt.no rfl) rfl (EV.storeB (B := S.t_vault_Vault.enc ({ a1 with ring := v4 } : S.vault_Vault) (hf [(pq ga1_1), q6, (pq ga1_2)])) 1 Try.TF33 rfl rfl rfl (by exact S.t_Ring.len v4 (hf [q6])) (by exact S.t_Ring.one v4 (hf [q6])) (by rw [S.t_vault_Vault.len]; decide) (wr_vault_Vault_ring a1 (pq ga1_1) b1_1 (pq ga1_2) q6 v4)) ?_
      rintro _ _ _ ⟨rfl, rfl, rfl⟩
      refine RO.nil ?_
      refine CW.region ?_
      refine RO.val (Wt.no rfl) rfl (PV.move rfl) ?_
      refine RO.val (Wt.no rfl) rfl (PV.nilCheck rfl) ?_
      refine RO.val (Wt.no rfl) rfl (PV.fieldAddr Try.fa101_3 rfl) ?_
      refine RO.val (Wt.no rfl) rfl (PV.loadM (l := [.int .i64 a1.rings]) 1 Try.TF3 rfl rfl (cut_vault_Vault_rings _ _) rfl (by decide)) ?_
      refine RO.val (Wt.no rfl) rfl (PV.addW rfl rfl) ?_
      refine RO.val (Wt.no rfl) rfl (PV.nilCheck rfl) ?_
      refine RO.val (Wt.no rfl) rfl (PV.fieldAddr Try.fa101_3 rfl) ?_
      refine RO.eff (Wt.no rfl) rfl (EV.storeB (B := S.t_vault_Vault.enc ({ a1 with ring := v4, rings := (w64 (a1.rings + 1)) } : S.vault_Vault) (hf [(pq ga1_1), q6, (pq ga1_2)])) 1 Try.TF3 rfl rfl rfl rfl rfl (by rw [S.t_vault_Vault.len]; decide) (wr_vault_Vault_rings ({ a1 with ring := v4 } : S.vault_Vault) (pq ga1_1) q6 (pq ga1_2) (w64 (a1.rings + 1)))) ?_
      rintro _ _ _ ⟨rfl, rfl, rfl⟩
      refine RO.nil ?_
      refine QC.blk_n ?_
      obtain rfl := Option.some.inj h
      exact retP0 (Ψ := fun w => Φ w ∧ (rdS S.t_Deed w ((({ a1 with ring := v4, rings := (w64 (a1.rings + 1)) } : S.vault_Vault).l).l) b1_0.sub ∧ slR (tInt .i64) w (((({ a1 with ring := v4, rings := (w64 (a1.rings + 1)) } : S.vault_Vault).ring).Plan).Targets) q6 ∧ mpR S.t_Bag w (({ a1 with ring := v4, rings := (w64 (a1.rings + 1)) } : S.vault_Vault).bags) b1_2)) [0, 1, 2, 3, 4] (by decide) (.inr rfl) rfl rfl (fun w hΦ => ⟨hΦ.1.1, (hR w (hΦ.1.1)).1, (hΦ.2), (hR w (hΦ.1.1)).2.2.1⟩) ⟨(b1_0, q6, b1_2), rfl, rfl, rfl⟩
    · replace h := iteF hb3 h
      refine CW.reg ?_
      refine RO.val (Wt.no rfl) rfl (PV.eql rfl rfl) ?_
      refine RO.val (Wt.no rfl) rfl (PV.assign rfl) ?_
      refine RO.nil ?_
      refine CW.cond rfl (fun hb8 => ?_) (fun hb8 => ?_)
      · replace h := iteT hb8 h
        replace h := bindS h
        obtain ⟨v9, hx10, h⟩ := h
        refine CW.regD (pickM [0, 1, 2, 3, 5] _) _ (by kernel_rfl) (St.of (by decide) rfl (fun _ h => h)) ?_
        refine RD.take 0 rfl (by kernel_rfl) (by kernel_rfl) (by kernel_rfl) (Wt.no rfl) rfl (PV.move rfl) ?_
        refine RD.take 1 rfl (by kernel_rfl) (by kernel_rfl) (by kernel_rfl) (Wt.no rfl) rfl (PV.nilCheck rfl) ?_
        refine RD.take 2 rfl (by kernel_rfl) (by kernel_rfl) (by kernel_rfl) (Wt.no rfl) rfl (PV.fieldAddr Try.fa101_5 rfl) ?_
        refine RD.take 3 rfl (by kernel_rfl) (by kernel_rfl) (by kernel_rfl) (Wt.no rfl) rfl (PV.loadM (l := [.map (mb (pq ga1_2))]) 1 Try.TF99 rfl rfl (cut_vault_Vault_bags _ _) rfl (by decide)) ?_
        refine RD.take 4 rfl (by kernel_rfl) (by kernel_rfl) (by kernel_rfl) (Wt.no rfl) rfl (PV.fieldAddr Try.fa106_2 rfl) ?_
        refine RD.take 5 rfl (by kernel_rfl) (by kernel_rfl) (by kernel_rfl) (Wt.no rfl) rfl (PV.loadM (l := [.string a2.Key]) 4 Try.TF9 rfl rfl (cut_Deed_Key _ _) rfl (by decide)) ?_
        refine RD.take 6 rfl (by kernel_rfl) (by kernel_rfl) (by kernel_rfl) (Wt.no rfl) rfl (PV.fieldAddr Try.fa106_3 rfl) ?_
        refine RD.take 7 rfl (by kernel_rfl) (by kernel_rfl) (by kernel_rfl) (Wt.no rfl) rfl (PV.loadM (l := S.t_Bag.enc a2.Bag (hf [b2_0])) 4 Try.TF40 rfl rfl (cut_Deed_Bag _ _) rfl (by decide)) ?_
        refine RD.one 8 (by kernel_rfl) ?_
        refine Up.eff rfl (Wt.no rfl) rfl (EV.call (K := _) Try.call61 rfl (SpecK.callV (W_vault_copied a2.Bag b2_0 hx10 (fun w hm hΦ => (hR w (hΦ.1)).2.2.2.1)))) ?_ ?_
        · rintro _ _ _ ⟨q11, rfl, rfl, rfl⟩; exact St.of' (by decide) (L' := [0, 1, 2, 3, 5]) rfl (fun _ h => h.1)
        rintro _ _ _ ⟨q11, rfl, rfl, rfl⟩
        refine RD.one 9 (by kernel_rfl) ?_
        refine Up.eff rfl (Wt.no rfl) rfl (EV.mapUpdQ (kv := Value.string) (tv := S.t_Bag) (l := a1.bags) (hh := b1_2) (k := a2.Key) (v := v9) (hv := (hf [q11])) 4 (strKey Try.underlying9) str_dom str_inj Try.underlying99 rfl rfl rfl rfl) ?_ ?_
        · rintro _ _ _ ⟨rfl, rfl⟩; exact St.of' (by decide) (L' := [0, 1, 2, 3, 5]) rfl (fun _ h => h.1)
        rintro _ _ _ ⟨rfl, rfl⟩
        refine RD.done (by kernel_rfl) ?_
        refine CW.regionD (pickM [0, 2, 3, 4, 5] _) _ (by kernel_rfl) (St.of (by decide) rfl (fun _ h => h)) ?_
        refine RD.take 0 rfl (by kernel_rfl) (by kernel_rfl) (by kernel_rfl) (Wt.no rfl) rfl (PV.move rfl) ?_
        refine RD.take 1 rfl (by kernel_rfl) (by kernel_rfl) (by kernel_rfl) (Wt.no rfl) rfl (PV.move rfl) ?_
        refine RD.take 2 rfl (by kernel_rfl) (by kernel_rfl) (by kernel_rfl) (Wt.no rfl) rfl (PV.nilCheck rfl) ?_
        refine RD.take 3 rfl (by kernel_rfl) (by kernel_rfl) (by kernel_rfl) (Wt.no rfl) rfl (PV.fieldAddr Try.fa101_4 rfl) ?_
        refine RD.take 5 rfl (by kernel_rfl) (by kernel_rfl) (by kernel_rfl) (Wt.no rfl) rfl (PV.fieldAddr Try.fa106_1 rfl) ?_
        refine RD.take 6 rfl (by kernel_rfl) (by kernel_rfl) (by kernel_rfl) (Wt.no rfl) rfl (PV.loadM (l := [.int .i64 a2.N]) 4 Try.TF3 rfl rfl (cut_Deed_N _ _) rfl (by decide)) ?_
        refine RD.one 4 (by kernel_rfl) ?_
        refine Up.val rfl (Wt.no rfl) rfl (PV.loadM (l := [.int .i64 a1.dots]) 1 Try.TF3 rfl rfl (cut_vault_Vault_dots _ _) rfl (by decide)) ?_
        refine RD.take 7 rfl (by kernel_rfl) (by kernel_rfl) (by kernel_rfl) (Wt.no rfl) rfl (PV.max rfl rfl) ?_
        refine RD.take 8 rfl (by kernel_rfl) (by kernel_rfl) (by kernel_rfl) (Wt.no rfl) rfl (PV.nilCheck rfl) ?_
        refine RD.take 9 rfl (by kernel_rfl) (by kernel_rfl) (by kernel_rfl) (Wt.no rfl) rfl (PV.fieldAddr Try.fa101_4 rfl) ?_
        refine RD.one 10 (by kernel_rfl) ?_
        refine Up.eff rfl (Wt.no rfl) rfl (EV.storeB (B := S.t_vault_Vault.enc ({ a1 with dots := (max a1.dots a2.N) } : S.vault_Vault) (hf [(pq ga1_1), b1_1, (pq ga1_2)])) 1 Try.TF3 rfl rfl rfl rfl rfl (by rw [S.t_vault_Vault.len]; decide) (wr_vault_Vault_dots a1 (pq ga1_1) b1_1 (pq ga1_2) (max a1.dots a2.N))) ?_ ?_
        · rintro _ _ _ ⟨rfl, rfl, rfl⟩; exact St.of' (by decide) (L' := [0, 2, 3, 4, 5]) rfl (fun _ h => h)
        rintro _ _ _ ⟨rfl, rfl, rfl⟩
        refine RD.done (by kernel_rfl) ?_
        refine QC.blk_n ?_
        obtain rfl := Option.some.inj h
        exact retP0 (Ψ := fun w => Φ w ∧ (rdS S.t_Deed w ((({ a1 with dots := (max a1.dots a2.N), bags := (mput a1.bags a2.Key v9) } : S.vault_Vault).l).l) b1_0.sub ∧ slR (tInt .i64) w (((({ a1 with dots := (max a1.dots a2.N), bags := (mput a1.bags a2.Key v9) } : S.vault_Vault).ring).Plan).Targets) b1_1 ∧ mpR S.t_Bag w (({ a1 with dots := (max a1.dots a2.N), bags := (mput a1.bags a2.Key v9) } : S.vault_Vault).bags) (mputH a1.bags b1_2 a2.Key (hf [q11])))) [0, 1, 2, 3, 4] (by decide) (.inr rfl) rfl rfl (fun w hΦ => ⟨hΦ.1.1, (hR w (hΦ.1.1)).1, (hR w (hΦ.1.1)).2.1, (mpR.put (hR w (hΦ.1.1)).2.2.1 (hΦ.2))⟩) ⟨(b1_0, b1_1, (mputH a1.bags b1_2 a2.Key (hf [q11]))), rfl, rfl, rfl⟩
      · replace h := iteF hb8 h
        refine CW.reg ?_
        refine RO.val (Wt.no rfl) rfl (PV.eql rfl rfl) ?_
        refine RO.val (Wt.no rfl) rfl (PV.assign rfl) ?_
        refine RO.nil ?_
        refine CW.cond rfl (fun hb13 => ?_) (fun hb13 => ?_)
        · replace h := iteT hb13 h
          replace h := bindS h
          obtain ⟨v14, hx15, h⟩ := h
          refine CW.region ?_
          refine RO.val (Wt.no rfl) rfl (PV.move rfl) ?_
          refine RO.val (Wt.no rfl) rfl (PV.nilCheck rfl) ?_
          refine RO.val (Wt.no rfl) rfl (PV.fieldAddr Try.fa101_5 rfl) ?_
          refine RO.val (Wt.no rfl) rfl (PV.loadM (l := [.map (mb (pq ga1_2))]) 1 Try.TF99 rfl rfl (cut_vault_Vault_bags _ _) rfl (by decide)) ?_
          refine RO.val (Wt.no rfl) rfl (PV.makeFunc (xs := []) (ys := [.tmp 3]) rfl rfl) ?_
          refine RO.eff (Wt.no rfl) rfl (EV.call (K := _) Try.call84 rfl (SpecK.call [4, 5] (fun x : (Nat → Hs) => [frame D, .blk ga1_0 (S.t_vault_Vault.enc a1 (hf [(pq ga1_1), b1_1, (pq ga1_2)])), .blk ga1_1 (S.t_ledger_Ledger.enc a1.l (hf [b1_0])), rowE S.t_Deed 106 a1.l.l b1_0, mpE Value.string S.t_Bag ga1_2 v14 x, .blk g1 (S.t_Deed.enc a2 (hf [b2_0, b2_1]))]) (Outs.cons rfl (Outs.cons rfl Outs.nil)) (fun _ => (Outs.cons rfl (Outs.cons rfl Outs.nil))) (W_maps_DeleteFunc_map_string_api_Bag_string_api_Bag_vault_Vault_counts_1 a1.bags a2 ga1_2 g1 b1_2 b2_0 b2_1 hx15 (fun w hΦ => ⟨(hR w (hΦ.1)).2.2.1, (hR w (hΦ.1)).2.2.2.1, (hR w (hΦ.1)).2.2.2.2⟩)))) ?_
          rintro _ _ _ ⟨q16, rfl, rfl, rfl⟩
          refine RO.nil ?_
          refine QC.blk_n ?_
          obtain rfl := Option.some.inj h
          exact retP0 (Ψ := fun w => Φ w ∧ (rdS S.t_Deed w ((({ a1 with bags := v14 } : S.vault_Vault).l).l) b1_0.sub ∧ slR (tInt .i64) w (((({ a1 with bags := v14 } : S.vault_Vault).ring).Plan).Targets) b1_1 ∧ mpR S.t_Bag w (({ a1 with bags := v14 } : S.vault_Vault).bags) q16)) [0, 1, 2, 3, 4] (by decide) (.inr rfl) rfl rfl (fun w hΦ => ⟨hΦ.1.1, (hR w (hΦ.1.1)).1, (hR w (hΦ.1.1)).2.1, (hΦ.2)⟩) ⟨(b1_0, b1_1, q16), rfl, rfl, rfl⟩
        · replace h := iteF hb13 h
          refine CW.skip ?_
          refine QC.blk_n ?_
          obtain rfl := Option.some.inj h
          exact retP0 (Ψ := fun w => Φ w ∧ (rdS S.t_Deed w a1.l.l b1_0.sub ∧ slR (tInt .i64) w a1.ring.Plan.Targets b1_1 ∧ mpR S.t_Bag w a1.bags b1_2)) [0, 1, 2, 3, 4] (by decide) (.inr rfl) rfl rfl (fun w hΦ => ⟨hΦ.1, (hR w (hΦ.1)).1, (hR w (hΦ.1)).2.1, (hR w (hΦ.1)).2.2.1⟩) ⟨(b1_0, b1_1, b1_2), rfl, rfl, rfl⟩

theorem W_vault_Open {D : Mem} {Φ : World → Prop} (a1 : S.ledger_Ledger) (ga1_0 : Nat) (b1_0 : Hd) {r : S.vault_Vault × S.ledger_Ledger} (h : S.vault_Open a1 = some r) (hR : ∀ w, Φ w → (rdS S.t_Deed w a1.l b1_0.sub)) :
    SpecK Try.prog 14 [.pointer (pq ga1_0).a] D [.blk ga1_0 (S.t_ledger_Ledger.enc a1 (hf [b1_0])), rowE S.t_Deed 106 a1.l b1_0] Φ (fun x : Nat × Nat × Hd × (Nat → Hs) × Hd => .pointer (some ⟨x.1, 0, none⟩)) (fun x => [.blk ga1_0 (S.t_ledger_Ledger.enc r.2 (hf [x.2.2.2.2])), rowE S.t_Deed 106 r.2.l x.2.2.2.2]) (fun x => [.blk x.1 (S.t_vault_Vault.enc r.1 (hf [(pq ga1_0), x.2.2.1, (pq x.2.1)])), mpE Value.string S.t_Bag x.2.1 r.1.bags x.2.2.2.1]) (fun x w => Φ w ∧ (slR (tInt .i64) w r.1.ring.Plan.Targets x.2.2.1 ∧ mpR S.t_Bag w r.1.bags x.2.2.2.1 ∧ rdS S.t_Deed w r.2.l x.2.2.2.2.sub)) := by
  refine enterK Try.func14 rfl Try.ntmps14 rfl ?_
  unfold S.vault_Open at h
  refine CW.reg ?_
  refine RO.val (Wt.no rfl) rfl (PV.assign rfl) ?_
  refine RO.nil ?_
  refine CW.seq ?_
  refine CW.reg ?_
  refine RO.val (Wt.no rfl) rfl (PV.move rfl) ?_
  refine RO.val (Wt.no rfl) rfl ((PV.eqlPtr Try.underlying48 rfl rfl).to rfl) ?_
  refine RO.nil ?_
  refine CW.condF rfl ?_
  refine CW.skip ?_
  refine QC.then_n ?_
  refine CW.reg ?_
  refine RO.val (Wt.no rfl) rfl (PV.move rfl) ?_
  refine RO.eff (Wt.no rfl) rfl (EV.makeMap) ?_
  rintro _ _ _ ⟨g1, rfl, rfl, rfl⟩
  refine RO.val (Wt.no rfl) rfl (PV.buildS (B := S.t_vault_Vault.enc S.vault_Vault.z (hf [(pq ga1_0), Hd.z, (pq g1)])) (xs := [.tmp 9, .tmp 10]) [(0, 0, 1), (5, 47, 1)] Try.BT101 rfl rfl rfl (by decide) ⟨rfl, rfl, rfl, rfl, trivial⟩ rfl) ?_
  refine RO.eff (Wt.no rfl) rfl (EV.boxB (B := S.t_vault_Vault.enc S.vault_Vault.z (hf [(pq ga1_0), Hd.z, (pq g1)])) rfl rfl) ?_
  rintro _ _ _ ⟨g2, rfl, rfl, rfl⟩
  refine RO.val (Wt.no rfl) rfl (PV.assign rfl) ?_
  refine RO.nil ?_
  refine CW.reg ?_
  refine RO.val (Wt.no rfl) rfl (PV.move rfl) ?_
  refine RO.val (Wt.no rfl) rfl (PV.makeFunc (xs := [.tmp 13]) (ys := []) rfl rfl) ?_
  refine RO.val (Wt.no rfl) rfl (PV.assign rfl) ?_
  refine RO.nil ?_
  replace h := bindS h
  obtain ⟨e12, h, hk11⟩ := h
  refine CW.meet (X := S.ledger_Ledger × (List S.Deed) × (List (ByteArray × S.Bag)) × S.vault_Vault × Hd × (Nat → Hs) × Hd) (fun x => [(2, .pointer none), (3, .pointer (some ⟨g2, 0, none⟩))]) (fun x => [frame D, .blk ga1_0 (S.t_ledger_Ledger.enc ({ x.1 with l := x.2.1 } : S.ledger_Ledger) (hf [x.2.2.2.2.1])), rowE S.t_Deed 106 x.2.1 x.2.2.2.2.1, mpE Value.string S.t_Bag g1 x.2.2.1 x.2.2.2.2.2.1, .blk g2 (S.t_vault_Vault.enc x.2.2.2.1 (hf [(pq ga1_0), x.2.2.2.2.2.2, (pq g1)]))]) (fun x w => (Φ w ∧ True) ∧ (rdS S.t_Deed w x.2.1 x.2.2.2.2.1.sub ∧ mpR S.t_Bag w x.2.2.1 x.2.2.2.2.2.1 ∧ slR (tInt .i64) w x.2.2.2.1.ring.Plan.Targets x.2.2.2.2.2.2)) (fun x => S.vault_Open_j2 x.1 x.2.1 x.2.2.1 x.2.2.2.1 = some r) ?_ ?_
  · skip
    replace h := bindS h
    obtain ⟨v13, hx14, h⟩ := h
    refine CW.reg ?_
    refine RO.val (Wt.no rfl) rfl (PV.move rfl) ?_
    refine RO.eff (Wt.no rfl) rfl (EV.call (K := _) Try.call53 rfl (SpecK.call [1, 2] (fun x : Hd => [frame D, .blk ga1_0 (S.t_ledger_Ledger.enc a1 (hf [b1_0])), rowE S.t_Deed 106 a1.l b1_0, mpE Value.string S.t_Bag g1 [] (fun _ _ => Hd.z), .blk g2 (S.t_vault_Vault.enc S.vault_Vault.z (hf [(pq ga1_0), Hd.z, (pq g1)]))]) (Outs.cons rfl (Outs.cons rfl Outs.nil)) (fun _ => (Outs.cons rfl (Outs.cons rfl Outs.nil))) (W_ledger_Ledger_All a1 ga1_0 b1_0 hx14 (fun w hm hΦ => (hR w (hΦ.1)))))) ?_
    rintro _ _ _ ⟨q15, rfl, rfl, rfl⟩
    refine RO.val (Wt.no rfl) rfl (PV.lenS Try.underlying103 rfl) ?_
    refine RO.val (Wt.no rfl) rfl (PV.move rfl) ?_
    refine RO.nil ?_
    refine CW.block ?_
    refine CW.loopE (X := Nat × S.ledger_Ledger × (List S.Deed) × (List (ByteArray × S.Bag)) × S.vault_Vault × Int × Hd × (Nat → Hs) × Hd) (fun x => [(2, .pointer none), (3, .pointer (some ⟨g2, 0, none⟩)), (4, .func (.func 52) #[.pointer (pq g2).a] #[]), (16, .slice q15.a v13.length q15.cap), (17, .int .i64 (v13.length : Int)), (18, .int .i64 x.2.2.2.2.2.1)]) (fun x => [frame D, .blk ga1_0 (S.t_ledger_Ledger.enc ({ x.2.1 with l := x.2.2.1 } : S.ledger_Ledger) (hf [x.2.2.2.2.2.2.1])), rowE S.t_Deed 106 x.2.2.1 x.2.2.2.2.2.2.1, mpE Value.string S.t_Bag g1 x.2.2.2.1 x.2.2.2.2.2.2.2.1, .blk g2 (S.t_vault_Vault.enc x.2.2.2.2.1 (hf [(pq ga1_0), x.2.2.2.2.2.2.2.2, (pq g1)]))]) (fun x w => ((Φ w ∧ True) ∧ (slR S.t_Deed w v13 q15)) ∧ (rdS S.t_Deed w x.2.2.1 x.2.2.2.2.2.2.1.sub ∧ mpR S.t_Bag w x.2.2.2.1 x.2.2.2.2.2.2.2.1 ∧ slR (tInt .i64) w x.2.2.2.2.1.ring.Plan.Targets x.2.2.2.2.2.2.2.2)) (fun x => loopN (S.vault_Open_l3 v13) x.1 (x.2.1, x.2.2.1, x.2.2.2.1, x.2.2.2.2.1, x.2.2.2.2.2.1) = some e12) (fun x => x.1) (FUEL, a1, a1.l, [], S.vault_Vault.z, 0, b1_0, (fun _ _ => Hd.z), Hd.z) h (by exact ⟨rfl, rfl, rfl, rfl, rfl, rfl, trivial⟩) rfl (fun w hΦ => ⟨hΦ, (hR w (hΦ.1.1)), mpR.nil, (slR.nil _ _)⟩) ?_
    rintro ⟨n38', v28, v29, v31, v33, v35, q30, q32, q34⟩ hI36
    try dsimp only at hI36 ⊢
    obtain ⟨n38, y37, rfl, h, hk39⟩ := loopN_some hI36
    unfold S.vault_Open_l3 at h
    try dsimp only at h
    refine CW.reg ?_
    refine RO.val (Wt.no rfl) rfl (PV.lss rfl rfl) ?_
    refine RO.nil ?_
    refine CW.seq ?_
    refine CW.cond rfl (fun hb40 => ?_) (fun hb40 => ?_)
    · replace h := iteT hb40 h
      refine CW.skip ?_
      refine QC.then_n ?_
      refine CW.seq ?_
      refine CW.block ?_
      replace h := bindS h
      obtain ⟨v41, hx42, h⟩ := h
      refine CW.reg ?_
      refine RO.val (Wt.no rfl) rfl (PV.idxQ (t := S.t_Deed) (l := v13) (q := q15) Try.underlying103 Try.sizeOf106 (fun w hm hΦ => (hΦ.1.2)) rfl rfl hx42) ?_
      refine RO.val (Wt.no rfl) rfl (PV.loadQ (off := 0) (cs := S.t_Deed.enc v41 (hf [(q15.sub v35.toNat 0), (q15.sub v35.toNat 1)])) (t := S.t_Deed) (l := v13) (q := q15) Try.TF106 (fun w hm hΦ => (hΦ.1.2)) hx42 rfl rfl rfl (cut_self (S.t_Deed.len _ _)) rfl (by decide)) ?_
      refine RO.eff (Wt.no rfl) rfl (EV.allocB (B := S.t_Deed.enc S.Deed.z (hf [Hd.z, Hd.z])) Try.zeroValue106 rfl) ?_
      rintro _ _ _ ⟨g43, rfl, rfl, rfl⟩
      refine RO.eff (Wt.no rfl) rfl (EV.storeW (B := S.t_Deed.enc v41 (hf [(q15.sub v35.toNat 0), (q15.sub v35.toNat 1)])) 5 Try.TF106 rfl rfl rfl (by exact S.t_Deed.len v41 (hf [(q15.sub v35.toNat 0), (q15.sub v35.toNat 1)])) (by exact S.t_Deed.one v41 (hf [(q15.sub v35.toNat 0), (q15.sub v35.toNat 1)])) (S.t_Deed.len S.Deed.z (hf [Hd.z, Hd.z])) rfl) ?_
      rintro _ _ _ ⟨rfl, rfl, rfl⟩
      refine RO.nil ?_
      replace h := bindS h
      obtain ⟨v44, hx45, h⟩ := h
      refine CW.region ?_
      refine RO.val (Wt.no rfl) rfl (PV.move rfl) ?_
      refine RO.val (Wt.no rfl) rfl (PV.loadM (l := S.t_Deed.enc v41 (hf [(q15.sub v35.toNat 0), (q15.sub v35.toNat 1)])) 5 Try.TF106 rfl rfl (cut_self (S.t_Deed.len _ _)) rfl (by decide)) ?_
      refine RO.eff (Wt.no rfl) rfl (EV.callV2 (K := _) (pre := [.pointer (pq g2).a]) (caps := []) Try.call52 rfl rfl (SpecK.call [4, 1, 2, 3] (fun x : Hd × Hd × (Nat → Hs) => [frame D, .blk ga1_0 (S.t_ledger_Ledger.enc v44.l (hf [x.1])), rowE S.t_Deed 106 v44.l.l x.1, mpE Value.string S.t_Bag g1 v44.bags x.2.2, .blk g2 (S.t_vault_Vault.enc v44 (hf [(pq ga1_0), x.2.1, (pq g1)])), .blk g43 (S.t_Deed.enc v41 (hf [(q15.sub v35.toNat 0), (q15.sub v35.toNat 1)]))]) (Outs.cons rfl (Outs.cons rfl (Outs.cons rfl (Outs.cons rfl Outs.nil)))) (fun _ => (Outs.cons rfl (Outs.cons rfl (Outs.cons rfl (Outs.cons rfl Outs.nil))))) (W_vault_Vault_counts ({ v33 with l := ({ v28 with l := v29 } : S.ledger_Ledger), bags := v31 } : S.vault_Vault) v41 g2 ga1_0 g1 q30 q34 q32 (q15.sub v35.toNat 0) (q15.sub v35.toNat 1) hx45 (fun w hΦ => ⟨(hΦ.2.1), (hΦ.2.2.2), (hΦ.2.2.1), (((hΦ.1.2).2 _ _ (lget_some hx42).2).2.2.1), (((hΦ.1.2).2 _ _ (lget_some hx42).2).2.2.2)⟩)))) ?_
      rintro _ _ _ ⟨⟨q46, q47, q48⟩, rfl, rfl, rfl⟩
      refine RO.nil ?_
      refine QC.blk_n ?_
      refine QC.then_n ?_
      refine CW.region ?_
      refine RO.val (Wt.no rfl) rfl (PV.addW rfl rfl) ?_
      refine RO.val (Wt.no rfl) rfl (PV.move rfl) ?_
      refine RO.nil ?_
      obtain rfl := Option.some.inj h
      refine QC.roundP (n38, v44.l, v44.l.l, v44.bags, v44, (w64 (v35 + 1)), q46, q48, q47) (nextL_inl hk39) (by exact Nat.lt_succ_self _) [0, 1, 2, 3, 4] (by decide) (by exact ⟨rfl, rfl, rfl, rfl, rfl, rfl, trivial⟩) rfl (fun w hΦ => ⟨hΦ.1.1, (hΦ.2.1), (hΦ.2.2.2), (hΦ.2.2.1)⟩)
    · replace h := iteF hb40 h
      refine CW.exit ?_
      refine QC.then_x ?_
      refine QC.then_x ?_
      refine QC.blk_x ?_
      obtain rfl := Option.some.inj h
      obtain rfl := nextL_inr hk39
      refine QC.meetP (({ v28 with l := v29 } : S.ledger_Ledger), v29, v31, v33, q30, q32, q34) hk11 [0, 1, 2, 3, 4] (by decide) (by exact ⟨rfl, rfl, trivial⟩) rfl (fun w hΦ => ⟨hΦ.1.1, (hΦ.2.1), (hΦ.2.2.1), (hΦ.2.2.2)⟩)
  · rintro ⟨v4, v5, v7, v9, q6, q8, q10⟩ h
    try dsimp only at h ⊢
    unfold S.vault_Open_j2 at h
    refine CW.reg ?_
    refine RO.val (Wt.no rfl) rfl (PV.move rfl) ?_
    refine RO.val (Wt.no rfl) rfl (PV.assign rfl) ?_
    refine RO.nil ?_
    refine CW.ret ?_
    obtain rfl := Option.some.inj h
    exact retP1 (Ψ := fun w => Φ w ∧ (slR (tInt .i64) w (((({ v9 with l := ({ v4 with l := v5 } : S.ledger_Ledger), bags := v7 } : S.vault_Vault).ring).Plan).Targets) q10 ∧ mpR S.t_Bag w (({ v9 with l := ({ v4 with l := v5 } : S.ledger_Ledger), bags := v7 } : S.vault_Vault).bags) q8 ∧ rdS S.t_Deed w (({ v4 with l := v5 } : S.ledger_Ledger).l) q6.sub)) [0, 1, 2, 4, 3] (by decide) rfl (RV.tmp rfl) rfl (fun w hΦ => ⟨hΦ.1.1, (hΦ.2.2.2), (hΦ.2.2.1), (hΦ.2.1)⟩) ⟨(g2, g1, q10, q8, q6), rfl, rfl, rfl⟩

theorem W_ledger_named {D : Mem} {Φ : World → Prop} (a1 : S.Deed) (b1_0 : Hd) (b1_1 : Hd) {r : S.Deed} (h : S.ledger_named a1 = some r) (hR : ∀ w, Φ w → (slR S.t_Val w a1.Bag.Values b1_0 ∧ slR (tInt .i64) w a1.Ring.Plan.Targets b1_1)) :
    SpecK Try.prog 140 [.agg (S.t_Deed.enc a1 (hf [b1_0, b1_1])).toArray] D [] Φ (fun x : Hd × Hd => .agg (S.t_Deed.enc r (hf [x.1, x.2])).toArray) (fun x => []) (fun x => []) (fun x w => Φ w ∧ (slR S.t_Val w r.Bag.Values x.1 ∧ slR (tInt .i64) w r.Ring.Plan.Targets x.2)) := by
  refine enterK Try.func140 rfl Try.ntmps140 rfl ?_
  unfold S.ledger_named at h
  refine CW.reg ?_
  refine RO.eff (Wt.no rfl) rfl (EV.boxB (B := S.t_Deed.enc a1 (hf [b1_0, b1_1])) rfl rfl) ?_
  rintro _ _ _ ⟨g1, rfl, rfl, rfl⟩
  refine RO.eff (Wt.no rfl) rfl (EV.allocB (B := S.t_Deed.enc S.Deed.z (hf [Hd.z, Hd.z])) Try.zeroValue106 rfl) ?_
  rintro _ _ _ ⟨g2, rfl, rfl, rfl⟩
  refine RO.nil ?_
  refine CW.seq ?_
  refine CW.reg ?_
  refine RO.val (Wt.no rfl) rfl (PV.fieldAddr Try.fa106_0 rfl) ?_
  refine RO.val (Wt.no rfl) rfl (PV.loadM (l := [.int .i64 a1.Kind]) 1 Try.TF3 rfl rfl (cut_Deed_Kind _ _) rfl (by decide)) ?_
  refine RO.nil ?_
  refine CW.block ?_
  refine CW.reg ?_
  refine RO.val (Wt.no rfl) rfl (PV.eql rfl rfl) ?_
  refine RO.val (Wt.no rfl) rfl (PV.assign rfl) ?_
  refine RO.nil ?_
  refine CW.cond rfl (fun hb3 => ?_) (fun hb3 => ?_)
  · replace h := iteT hb3 h
    refine CW.reg ?_
    refine RO.val (Wt.no rfl) rfl (PV.fieldAddr Try.fa106_0 rfl) ?_
    refine RO.val (Wt.no rfl) rfl (PV.loadM (l := [.int .i64 a1.Kind]) 1 Try.TF3 rfl rfl (cut_Deed_Kind _ _) rfl (by decide)) ?_
    refine RO.val (Wt.no rfl) rfl (PV.fieldAddr Try.fa106_1 rfl) ?_
    refine RO.val (Wt.no rfl) rfl (PV.loadM (l := [.int .i64 a1.N]) 1 Try.TF3 rfl rfl (cut_Deed_N _ _) rfl (by decide)) ?_
    refine RO.val (Wt.no rfl) rfl (PV.buildS (B := S.t_Deed.enc ({ S.Deed.z with Kind := a1.Kind, N := a1.N } : S.Deed) (hf [Hd.z, Hd.z])) (xs := [.tmp 8, .tmp 10]) [(0, 0, 1), (1, 1, 1)] Try.BT106 rfl rfl rfl (by decide) ⟨rfl, rfl, rfl, rfl, trivial⟩ rfl) ?_
    refine RO.eff (Wt.no rfl) rfl (EV.storeW (B := S.t_Deed.enc ({ S.Deed.z with Kind := a1.Kind, N := a1.N } : S.Deed) (hf [Hd.z, Hd.z])) 2 Try.TF106 rfl rfl rfl (by exact S.t_Deed.len ({ S.Deed.z with Kind := a1.Kind, N := a1.N } : S.Deed) (hf [Hd.z, Hd.z])) (by exact S.t_Deed.one ({ S.Deed.z with Kind := a1.Kind, N := a1.N } : S.Deed) (hf [Hd.z, Hd.z])) (S.t_Deed.len S.Deed.z (hf [Hd.z, Hd.z])) rfl) ?_
    rintro _ _ _ ⟨rfl, rfl, rfl⟩
    refine RO.nil ?_
    refine CW.ret ?_
    refine QC.blk_r ?_
    refine QC.then_r ?_
    obtain rfl := Option.some.inj h
    exact retP1 (Ψ := fun w => Φ w ∧ (slR S.t_Val w [] Hd.z ∧ slR (tInt .i64) w [] Hd.z)) [0] (by decide) rfl (RV.cell (A := S.t_Deed.enc ({ S.Deed.z with Kind := a1.Kind, N := a1.N } : S.Deed) (hf [Hd.z, Hd.z])) 2 rfl Try.TF106 rfl (S.t_Deed.len _ _) (by decide)) rfl (fun w hΦ => ⟨hΦ.1, (slR.nil _ _), (slR.nil _ _)⟩) ⟨(Hd.z, Hd.z), rfl, rfl, rfl⟩
  · replace h := iteF hb3 h
    refine CW.reg ?_
    refine RO.val (Wt.no rfl) rfl (PV.eql rfl rfl) ?_
    refine RO.val (Wt.no rfl) rfl (PV.assign rfl) ?_
    refine RO.nil ?_
    refine CW.cond rfl (fun hb4 => ?_) (fun hb4 => ?_)
    · replace h := iteT hb4 h
      refine CW.reg ?_
      refine RO.val (Wt.no rfl) rfl (PV.fieldAddr Try.fa106_0 rfl) ?_
      refine RO.val (Wt.no rfl) rfl (PV.loadM (l := [.int .i64 a1.Kind]) 1 Try.TF3 rfl rfl (cut_Deed_Kind _ _) rfl (by decide)) ?_
      refine RO.val (Wt.no rfl) rfl (PV.fieldAddr Try.fa106_4 rfl) ?_
      refine RO.val (Wt.no rfl) rfl (PV.loadM (l := S.t_Ring.enc a1.Ring (hf [b1_1])) 1 Try.TF33 rfl rfl (cut_Deed_Ring _ _) rfl (by decide)) ?_
      refine RO.val (Wt.no rfl) rfl (PV.buildS (B := S.t_Deed.enc ({ S.Deed.z with Kind := a1.Kind, Ring := a1.Ring } : S.Deed) (hf [Hd.z, b1_1])) (xs := [.tmp 15, .tmp 17]) [(0, 0, 1), (4, 12, 43)] Try.BT106 rfl rfl rfl (by decide) ⟨rfl, rfl, rfl, rfl, trivial⟩ rfl) ?_
      refine RO.eff (Wt.no rfl) rfl (EV.storeW (B := S.t_Deed.enc ({ S.Deed.z with Kind := a1.Kind, Ring := a1.Ring } : S.Deed) (hf [Hd.z, b1_1])) 2 Try.TF106 rfl rfl rfl (by exact S.t_Deed.len ({ S.Deed.z with Kind := a1.Kind, Ring := a1.Ring } : S.Deed) (hf [Hd.z, b1_1])) (by exact S.t_Deed.one ({ S.Deed.z with Kind := a1.Kind, Ring := a1.Ring } : S.Deed) (hf [Hd.z, b1_1])) (S.t_Deed.len S.Deed.z (hf [Hd.z, Hd.z])) rfl) ?_
      rintro _ _ _ ⟨rfl, rfl, rfl⟩
      refine RO.nil ?_
      refine CW.ret ?_
      refine QC.blk_r ?_
      refine QC.then_r ?_
      obtain rfl := Option.some.inj h
      exact retP1 (Ψ := fun w => Φ w ∧ (slR S.t_Val w [] Hd.z ∧ slR (tInt .i64) w a1.Ring.Plan.Targets b1_1)) [0] (by decide) rfl (RV.cell (A := S.t_Deed.enc ({ S.Deed.z with Kind := a1.Kind, Ring := a1.Ring } : S.Deed) (hf [Hd.z, b1_1])) 2 rfl Try.TF106 rfl (S.t_Deed.len _ _) (by decide)) rfl (fun w hΦ => ⟨hΦ.1, (slR.nil _ _), (hR w (hΦ.1)).2⟩) ⟨(Hd.z, b1_1), rfl, rfl, rfl⟩
    · replace h := iteF hb4 h
      refine CW.reg ?_
      refine RO.val (Wt.no rfl) rfl (PV.eql rfl rfl) ?_
      refine RO.val (Wt.no rfl) rfl (PV.assign rfl) ?_
      refine RO.nil ?_
      refine CW.cond rfl (fun hb5 => ?_) (fun hb5 => ?_)
      · replace h := iteT hb5 h
        refine CW.reg ?_
        refine RO.val (Wt.no rfl) rfl (PV.fieldAddr Try.fa106_0 rfl) ?_
        refine RO.val (Wt.no rfl) rfl (PV.loadM (l := [.int .i64 a1.Kind]) 1 Try.TF3 rfl rfl (cut_Deed_Kind _ _) rfl (by decide)) ?_
        refine RO.val (Wt.no rfl) rfl (PV.fieldAddr Try.fa106_2 rfl) ?_
        refine RO.val (Wt.no rfl) rfl (PV.loadM (l := [.string a1.Key]) 1 Try.TF9 rfl rfl (cut_Deed_Key _ _) rfl (by decide)) ?_
        refine RO.val (Wt.no rfl) rfl (PV.fieldAddr Try.fa106_3 rfl) ?_
        refine RO.val (Wt.no rfl) rfl (PV.loadM (l := S.t_Bag.enc a1.Bag (hf [b1_0])) 1 Try.TF40 rfl rfl (cut_Deed_Bag _ _) rfl (by decide)) ?_
        refine RO.val (Wt.no rfl) rfl (PV.fieldAddr Try.fa106_1 rfl) ?_
        refine RO.val (Wt.no rfl) rfl (PV.loadM (l := [.int .i64 a1.N]) 1 Try.TF3 rfl rfl (cut_Deed_N _ _) rfl (by decide)) ?_
        refine RO.val (Wt.no rfl) rfl (PV.buildS (B := S.t_Deed.enc ({ S.Deed.z with Kind := a1.Kind, N := a1.N, Key := a1.Key, Bag := a1.Bag } : S.Deed) (hf [b1_0, Hd.z])) (xs := [.tmp 22, .tmp 24, .tmp 26, .tmp 28]) [(0, 0, 1), (2, 2, 1), (3, 3, 9), (1, 1, 1)] Try.BT106 rfl rfl rfl (by decide) ⟨rfl, rfl, rfl, rfl, rfl, rfl, rfl, rfl, trivial⟩ rfl) ?_
        refine RO.eff (Wt.no rfl) rfl (EV.storeW (B := S.t_Deed.enc ({ S.Deed.z with Kind := a1.Kind, N := a1.N, Key := a1.Key, Bag := a1.Bag } : S.Deed) (hf [b1_0, Hd.z])) 2 Try.TF106 rfl rfl rfl (by exact S.t_Deed.len ({ S.Deed.z with Kind := a1.Kind, N := a1.N, Key := a1.Key, Bag := a1.Bag } : S.Deed) (hf [b1_0, Hd.z])) (by exact S.t_Deed.one ({ S.Deed.z with Kind := a1.Kind, N := a1.N, Key := a1.Key, Bag := a1.Bag } : S.Deed) (hf [b1_0, Hd.z])) (S.t_Deed.len S.Deed.z (hf [Hd.z, Hd.z])) rfl) ?_
        rintro _ _ _ ⟨rfl, rfl, rfl⟩
        refine RO.nil ?_
        refine CW.ret ?_
        refine QC.blk_r ?_
        refine QC.then_r ?_
        obtain rfl := Option.some.inj h
        exact retP1 (Ψ := fun w => Φ w ∧ (slR S.t_Val w a1.Bag.Values b1_0 ∧ slR (tInt .i64) w [] Hd.z)) [0] (by decide) rfl (RV.cell (A := S.t_Deed.enc ({ S.Deed.z with Kind := a1.Kind, N := a1.N, Key := a1.Key, Bag := a1.Bag } : S.Deed) (hf [b1_0, Hd.z])) 2 rfl Try.TF106 rfl (S.t_Deed.len _ _) (by decide)) rfl (fun w hΦ => ⟨hΦ.1, (hR w (hΦ.1)).1, (slR.nil _ _)⟩) ⟨(b1_0, Hd.z), rfl, rfl, rfl⟩
      · replace h := iteF hb5 h
        refine CW.reg ?_
        refine RO.val (Wt.no rfl) rfl (PV.eql rfl rfl) ?_
        refine RO.val (Wt.no rfl) rfl (PV.assign rfl) ?_
        refine RO.nil ?_
        refine CW.cond rfl (fun hb6 => ?_) (fun hb6 => ?_)
        · replace h := iteT hb6 h
          refine CW.reg ?_
          refine RO.val (Wt.no rfl) rfl (PV.fieldAddr Try.fa106_0 rfl) ?_
          refine RO.val (Wt.no rfl) rfl (PV.loadM (l := [.int .i64 a1.Kind]) 1 Try.TF3 rfl rfl (cut_Deed_Kind _ _) rfl (by decide)) ?_
          refine RO.val (Wt.no rfl) rfl (PV.fieldAddr Try.fa106_5 rfl) ?_
          refine RO.val (Wt.no rfl) rfl (PV.loadM (l := [.int .i64 a1.Part]) 1 Try.TF3 rfl rfl (cut_Deed_Part _ _) rfl (by decide)) ?_
          refine RO.val (Wt.no rfl) rfl (PV.buildS (B := S.t_Deed.enc ({ S.Deed.z with Kind := a1.Kind, Part := a1.Part } : S.Deed) (hf [Hd.z, Hd.z])) (xs := [.tmp 33, .tmp 35]) [(0, 0, 1), (5, 55, 1)] Try.BT106 rfl rfl rfl (by decide) ⟨rfl, rfl, rfl, rfl, trivial⟩ rfl) ?_
          refine RO.eff (Wt.no rfl) rfl (EV.storeW (B := S.t_Deed.enc ({ S.Deed.z with Kind := a1.Kind, Part := a1.Part } : S.Deed) (hf [Hd.z, Hd.z])) 2 Try.TF106 rfl rfl rfl (by exact S.t_Deed.len ({ S.Deed.z with Kind := a1.Kind, Part := a1.Part } : S.Deed) (hf [Hd.z, Hd.z])) (by exact S.t_Deed.one ({ S.Deed.z with Kind := a1.Kind, Part := a1.Part } : S.Deed) (hf [Hd.z, Hd.z])) (S.t_Deed.len S.Deed.z (hf [Hd.z, Hd.z])) rfl) ?_
          rintro _ _ _ ⟨rfl, rfl, rfl⟩
          refine RO.nil ?_
          refine CW.ret ?_
          refine QC.blk_r ?_
          refine QC.then_r ?_
          obtain rfl := Option.some.inj h
          exact retP1 (Ψ := fun w => Φ w ∧ (slR S.t_Val w [] Hd.z ∧ slR (tInt .i64) w [] Hd.z)) [0] (by decide) rfl (RV.cell (A := S.t_Deed.enc ({ S.Deed.z with Kind := a1.Kind, Part := a1.Part } : S.Deed) (hf [Hd.z, Hd.z])) 2 rfl Try.TF106 rfl (S.t_Deed.len _ _) (by decide)) rfl (fun w hΦ => ⟨hΦ.1, (slR.nil _ _), (slR.nil _ _)⟩) ⟨(Hd.z, Hd.z), rfl, rfl, rfl⟩
        · replace h := iteF hb6 h
          refine CW.skip ?_
          refine QC.blk_n ?_
          refine QC.then_n ?_
          refine CW.reg ?_
          refine RO.val (Wt.no rfl) rfl (PV.buildS (B := S.t_Deed.enc S.Deed.z (hf [Hd.z, Hd.z])) (xs := []) [] Try.BT106 rfl rfl rfl (by simp) trivial rfl) ?_
          refine RO.eff (Wt.no rfl) rfl (EV.storeW (B := S.t_Deed.enc S.Deed.z (hf [Hd.z, Hd.z])) 2 Try.TF106 rfl rfl rfl (by exact S.t_Deed.len S.Deed.z (hf [Hd.z, Hd.z])) (by exact S.t_Deed.one S.Deed.z (hf [Hd.z, Hd.z])) (S.t_Deed.len S.Deed.z (hf [Hd.z, Hd.z])) rfl) ?_
          rintro _ _ _ ⟨rfl, rfl, rfl⟩
          refine RO.nil ?_
          refine CW.ret ?_
          obtain rfl := Option.some.inj h
          exact retP1 (Ψ := fun w => Φ w ∧ (slR S.t_Val w [] Hd.z ∧ slR (tInt .i64) w [] Hd.z)) [0] (by decide) rfl (RV.cell (A := S.t_Deed.enc S.Deed.z (hf [Hd.z, Hd.z])) 2 rfl Try.TF106 rfl (S.t_Deed.len _ _) (by decide)) rfl (fun w hΦ => ⟨hΦ.1, (slR.nil _ _), (slR.nil _ _)⟩) ⟨(Hd.z, Hd.z), rfl, rfl, rfl⟩

theorem W_slices_Equal_api_Value_api_Value {D : Mem} {Φ : World → Prop} (a1 : List S.Val) (a2 : List S.Val) (b1_0 : Hd) (b2_0 : Hd) {r : Bool} (h : S.slices_Equal_api_Value_api_Value a1 a2 = some r) (hR : ∀ w, MemOk D w → Φ w → (slR S.t_Val w a1 b1_0 ∧ slR S.t_Val w a2 b2_0)) :
    SpecK Try.prog 60 [.slice b1_0.a a1.length b1_0.cap, .slice b2_0.a a2.length b2_0.cap] D [] Φ (fun x : Unit => .bool r) (fun x => []) (fun x => []) (fun _ => Φ) := by
  refine enterK Try.func60 rfl Try.ntmps60 rfl ?_
  unfold S.slices_Equal_api_Value_api_Value at h
  refine CW.reg ?_
  refine RO.val (Wt.no rfl) rfl (PV.assign rfl) ?_
  refine RO.nil ?_
  refine CW.seq ?_
  refine CW.reg ?_
  refine RO.val (Wt.no rfl) rfl (PV.move rfl) ?_
  refine RO.val (Wt.no rfl) rfl (PV.lenS Try.underlying38 rfl) ?_
  refine RO.val (Wt.no rfl) rfl (PV.move rfl) ?_
  refine RO.val (Wt.no rfl) rfl (PV.lenS Try.underlying38 rfl) ?_
  refine RO.val (Wt.no rfl) rfl (PV.neq rfl rfl) ?_
  refine RO.nil ?_
  refine CW.cond rfl (fun hb1 => ?_) (fun hb1 => ?_)
  · replace h := iteT hb1 h
    refine CW.reg ?_
    refine RO.val (Wt.no rfl) rfl (PV.assign rfl) ?_
    refine RO.nil ?_
    refine CW.ret ?_
    refine QC.then_r ?_
    obtain rfl := Option.some.inj h
    exact retP1 (Ψ := Φ) [0] (by decide) rfl (RV.tmp rfl) rfl (fun w hΦ => hΦ.1) ⟨(), rfl, rfl, rfl⟩
  · replace h := iteF hb1 h
    refine CW.skip ?_
    refine QC.then_n ?_
    replace h := andThen_some h
    obtain ⟨e4, h, hk3⟩ := h
    refine CW.meet (X := Unit) (fun x => [(4, .bool false)]) (fun x => [frame D]) (fun x w => (Φ w ∧ True)) (fun x => S.slices_Equal_api_Value_api_Value_j2 = some r) ?_ ?_
    · skip
      refine CW.reg ?_
      refine RO.val (Wt.no rfl) rfl (PV.move rfl) ?_
      refine RO.val (Wt.no rfl) rfl (PV.lenS Try.underlying38 rfl) ?_
      refine RO.val (Wt.no rfl) rfl (PV.move rfl) ?_
      refine RO.nil ?_
      refine CW.block ?_
      refine CW.loopE (X := Nat × Int) (fun x => [(0, .slice b1_0.a a1.length b1_0.cap), (1, .slice b2_0.a a2.length b2_0.cap), (4, .bool false), (12, .int .i64 (a1.length : Int)), (13, .int .i64 x.2)]) (fun x => [frame D]) (fun x w => (Φ w ∧ True)) (fun x => loopN (S.slices_Equal_api_Value_api_Value_l3 a1 a2) x.1 x.2 = some e4) (fun x => x.1) (FUEL, 0) h (by exact ⟨rfl, rfl, rfl, rfl, rfl, trivial⟩) rfl (fun w hΦ => hΦ) ?_
      rintro ⟨n12', v9⟩ hI10
      try dsimp only at hI10 ⊢
      obtain ⟨n12, y11, rfl, h, hk13⟩ := loopN_some hI10
      unfold S.slices_Equal_api_Value_api_Value_l3 at h
      try dsimp only at h
      refine CW.reg ?_
      refine RO.val (Wt.no rfl) rfl (PV.lss rfl rfl) ?_
      refine RO.nil ?_
      refine CW.seq ?_
      refine CW.cond rfl (fun hb14 => ?_) (fun hb14 => ?_)
      · replace h := iteT hb14 h
        refine CW.skip ?_
        refine QC.then_n ?_
        refine CW.seq ?_
        refine CW.block ?_
        refine CW.reg ?_
        refine RO.val (Wt.no rfl) rfl (PV.move rfl) ?_
        refine RO.val (Wt.no rfl) rfl (PV.assign rfl) ?_
        refine RO.nil ?_
        replace h := bindS h
        obtain ⟨v15, hx16, h⟩ := h
        replace h := bindS h
        obtain ⟨v17, hx18, h⟩ := h
        refine CW.regD (pickM [0] _) _ (by kernel_rfl) (St.of (by decide) rfl (fun _ h => h)) ?_
        refine RD.take 0 rfl (by kernel_rfl) (by kernel_rfl) (by kernel_rfl) (Wt.no rfl) rfl (PV.move rfl) ?_
        refine RD.take 1 rfl (by kernel_rfl) (by kernel_rfl) (by kernel_rfl) (Wt.no rfl) rfl (PV.move rfl) ?_
        refine RD.take 2 rfl (by kernel_rfl) (by kernel_rfl) (by kernel_rfl) (Wt.no rfl) rfl (PV.idxQ (t := S.t_Val) (l := a1) (q := b1_0) Try.underlying38 Try.sizeOf80 (fun w hm hΦ => (hR w (hm.frameAt (i := 0) rfl) (hΦ.1)).1) rfl rfl hx16) ?_
        refine RD.take 3 rfl (by kernel_rfl) (by kernel_rfl) (by kernel_rfl) (Wt.no rfl) rfl (PV.loadQ (off := 0) (cs := S.t_Val.enc v15 (hf [])) (t := S.t_Val) (l := a1) (q := b1_0) Try.TF80 (fun w hm hΦ => (hR w (hm.frameAt (i := 0) rfl) (hΦ.1)).1) hx16 rfl rfl rfl (cut_self (S.t_Val.len _ _)) rfl (by decide)) ?_
        refine RD.take 4 rfl (by kernel_rfl) (by kernel_rfl) (by kernel_rfl) (Wt.no rfl) rfl (PV.move rfl) ?_
        refine RD.take 5 rfl (by kernel_rfl) (by kernel_rfl) (by kernel_rfl) (Wt.no rfl) rfl (PV.move rfl) ?_
        refine RD.take 6 rfl (by kernel_rfl) (by kernel_rfl) (by kernel_rfl) (Wt.no rfl) rfl (PV.idxQ (t := S.t_Val) (l := a2) (q := b2_0) Try.underlying38 Try.sizeOf80 (fun w hm hΦ => (hR w (hm.frameAt (i := 0) rfl) (hΦ.1)).2) rfl rfl hx18) ?_
        refine RD.take 7 rfl (by kernel_rfl) (by kernel_rfl) (by kernel_rfl) (Wt.no rfl) rfl (PV.loadQ (off := 0) (cs := S.t_Val.enc v17 (hf [])) (t := S.t_Val) (l := a2) (q := b2_0) Try.TF80 (fun w hm hΦ => (hR w (hm.frameAt (i := 0) rfl) (hΦ.1)).2) hx18 rfl rfl rfl (cut_self (S.t_Val.len _ _)) rfl (by decide)) ?_
        refine RD.take 8 rfl (by kernel_rfl) (by kernel_rfl) (by kernel_rfl) (Wt.no rfl) rfl (PV.neqAgg Try.eqGuardType80 rfl rfl Try.eqq80) ?_
        refine RD.done (by kernel_rfl) ?_
        refine CW.cond rfl (fun hb19 => ?_) (fun hb19 => ?_)
        · replace h := iteT hb19 h
          refine CW.reg ?_
          refine RO.val (Wt.no rfl) rfl (PV.assign rfl) ?_
          refine RO.nil ?_
          refine CW.ret ?_
          refine QC.blk_r ?_
          refine QC.then_r ?_
          refine QC.then_r ?_
          refine QC.blk_r ?_
          refine QC.then_r ?_
          obtain rfl := Option.some.inj h
          obtain rfl := nextL_inr hk13
          obtain rfl := afterS_inr hk3
          exact retP1 (Ψ := Φ) [0] (by decide) rfl (RV.tmp rfl) rfl (fun w hΦ => hΦ.1) ⟨(), rfl, rfl, rfl⟩
        · replace h := iteF hb19 h
          refine CW.skip ?_
          refine QC.blk_n ?_
          refine QC.then_n ?_
          refine CW.region ?_
          refine RO.val (Wt.no rfl) rfl (PV.addW rfl rfl) ?_
          refine RO.val (Wt.no rfl) rfl (PV.move rfl) ?_
          refine RO.nil ?_
          obtain rfl := Option.some.inj h
          refine QC.roundP (n12, (w64 (v9 + 1))) (nextL_inl hk13) (by exact Nat.lt_succ_self _) [0] (by decide) (by exact ⟨rfl, rfl, rfl, rfl, rfl, trivial⟩) rfl (fun w hΦ => hΦ)
      · replace h := iteF hb14 h
        refine CW.exit ?_
        refine QC.then_x ?_
        refine QC.then_x ?_
        refine QC.blk_x ?_
        obtain rfl := Option.some.inj h
        obtain rfl := nextL_inr hk13
        refine QC.meetP () (afterS_inl hk3) [0] (by decide) (by exact ⟨rfl, trivial⟩) rfl (fun w hΦ => hΦ)
    · rintro ⟨⟩ h
      try dsimp only at h ⊢
      unfold S.slices_Equal_api_Value_api_Value_j2 at h
      refine CW.reg ?_
      refine RO.val (Wt.no rfl) rfl (PV.assign rfl) ?_
      refine RO.nil ?_
      refine CW.ret ?_
      obtain rfl := Option.some.inj h
      exact retP1 (Ψ := Φ) [0] (by decide) rfl (RV.tmp rfl) rfl (fun w hΦ => hΦ.1) ⟨(), rfl, rfl, rfl⟩

theorem W_bag_Same {D : Mem} {Φ : World → Prop} (a1 : S.Bag) (a2 : S.Bag) (b1_0 : Hd) (b2_0 : Hd) {r : Bool} (h : S.bag_Same a1 a2 = some r) (hR : ∀ w, MemOk D w → Φ w → (slR S.t_Val w a1.Values b1_0 ∧ slR S.t_Val w a2.Values b2_0)) :
    SpecK Try.prog 19 [.agg (S.t_Bag.enc a1 (hf [b1_0])).toArray, .agg (S.t_Bag.enc a2 (hf [b2_0])).toArray] D [] Φ (fun x : Unit => .bool r) (fun x => []) (fun x => []) (fun _ => Φ) := by
  refine enterK Try.func19 rfl Try.ntmps19 rfl ?_
  unfold S.bag_Same at h
  refine CW.reg ?_
  refine RO.eff (Wt.no rfl) rfl (EV.boxB (B := S.t_Bag.enc a1 (hf [b1_0])) rfl rfl) ?_
  rintro _ _ _ ⟨g1, rfl, rfl, rfl⟩
  refine RO.eff (Wt.no rfl) rfl (EV.boxB (B := S.t_Bag.enc a2 (hf [b2_0])) rfl rfl) ?_
  rintro _ _ _ ⟨g2, rfl, rfl, rfl⟩
  refine RO.val (Wt.no rfl) rfl (PV.assign rfl) ?_
  refine RO.nil ?_
  by_cases hb3 : (decide (a1.Known = a2.Known)) = true
  · replace h := iteT hb3 h
    replace h := bindS h
    obtain ⟨v4, hx5, h⟩ := h
    refine CW.reg ?_
    refine RO.val (Wt.no rfl) rfl (PV.fieldAddr Try.fa40_0 rfl) ?_
    refine RO.val (Wt.no rfl) rfl (PV.loadM (l := S.t_A8_int.enc a1.Known (hf [])) 1 Try.TF37 rfl rfl (cut_Bag_Known _ _) rfl (by decide)) ?_
    refine RO.val (Wt.no rfl) rfl (PV.fieldAddr Try.fa40_0 rfl) ?_
    refine RO.val (Wt.no rfl) rfl (PV.loadM (l := S.t_A8_int.enc a2.Known (hf [])) 2 Try.TF37 rfl rfl (cut_Bag_Known _ _) rfl (by decide)) ?_
    refine RO.val (Wt.no rfl) rfl (PV.eqlAgg Try.eqGuardType37 rfl rfl Try.eqq37) ?_
    refine RO.val (Wt.no rfl) rfl ((PV.move rfl).to (congrArg Value.bool hb3)) ?_
    refine RO.val (Wt.yes rfl rfl rfl rfl) rfl (PV.fieldAddr Try.fa40_1 rfl) ?_
    refine RO.val (Wt.yes rfl rfl rfl rfl) rfl (PV.loadM (l := [.slice b1_0.a a1.Values.length b1_0.cap]) 1 Try.TF38 rfl rfl (cut_Bag_Values _ _) rfl (by decide)) ?_
    refine RO.val (Wt.yes rfl rfl rfl rfl) rfl (PV.fieldAddr Try.fa40_1 rfl) ?_
    refine RO.val (Wt.yes rfl rfl rfl rfl) rfl (PV.loadM (l := [.slice b2_0.a a2.Values.length b2_0.cap]) 2 Try.TF38 rfl rfl (cut_Bag_Values _ _) rfl (by decide)) ?_
    refine RO.eff (Wt.yes rfl rfl rfl rfl) rfl (EV.call (K := _) Try.call60 rfl (SpecK.callV (W_slices_Equal_api_Value_api_Value a1.Values a2.Values b1_0 b2_0 hx5 (fun w hm hΦ => ⟨(hR w (hm.frameAt (i := 0) rfl) (hΦ.1)).1, (hR w (hm.frameAt (i := 0) rfl) (hΦ.1)).2⟩)))) ?_
    rintro _ _ _ ⟨_, rfl, rfl, rfl⟩
    refine RO.val (Wt.no rfl) rfl (PV.pickT rfl rfl) ?_
    refine RO.val (Wt.no rfl) rfl (PV.assign rfl) ?_
    refine RO.nil ?_
    refine CW.ret ?_
    obtain rfl := Option.some.inj h
    exact retP1 (Ψ := Φ) [0] (by decide) rfl (RV.tmp rfl) rfl (fun w hΦ => hΦ.1) ⟨(), rfl, rfl, rfl⟩
  · replace hb3 := Bool.eq_false_iff.2 hb3
    replace h := iteF hb3 h
    refine CW.reg ?_
    refine RO.val (Wt.no rfl) rfl (PV.fieldAddr Try.fa40_0 rfl) ?_
    refine RO.val (Wt.no rfl) rfl (PV.loadM (l := S.t_A8_int.enc a1.Known (hf [])) 1 Try.TF37 rfl rfl (cut_Bag_Known _ _) rfl (by decide)) ?_
    refine RO.val (Wt.no rfl) rfl (PV.fieldAddr Try.fa40_0 rfl) ?_
    refine RO.val (Wt.no rfl) rfl (PV.loadM (l := S.t_A8_int.enc a2.Known (hf [])) 2 Try.TF37 rfl rfl (cut_Bag_Known _ _) rfl (by decide)) ?_
    refine RO.val (Wt.no rfl) rfl (PV.eqlAgg Try.eqGuardType37 rfl rfl Try.eqq37) ?_
    refine RO.val (Wt.no rfl) rfl ((PV.move rfl).to (congrArg Value.bool hb3)) ?_
    refine RO.skip (Un.mk rfl rfl rfl rfl) rfl ?_
    refine RO.skip (Un.mk rfl rfl rfl rfl) rfl ?_
    refine RO.skip (Un.mk rfl rfl rfl rfl) rfl ?_
    refine RO.skip (Un.mk rfl rfl rfl rfl) rfl ?_
    refine RO.skip (Un.mk rfl rfl rfl rfl) rfl ?_
    refine RO.val (Wt.no rfl) rfl (PV.pickF rfl rfl) ?_
    refine RO.val (Wt.no rfl) rfl (PV.assign rfl) ?_
    refine RO.nil ?_
    refine CW.ret ?_
    obtain rfl := Option.some.inj h
    exact retP1 (Ψ := Φ) [0] (by decide) rfl (RV.tmp rfl) rfl (fun w hΦ => hΦ.1) ⟨(), rfl, rfl, rfl⟩

theorem W_plan_Same {D : Mem} {Φ : World → Prop} (a1 : S.Plan) (a2 : S.Plan) (b1_0 : Hd) (b2_0 : Hd) {r : Bool} (h : S.plan_Same a1 a2 = some r) (hR : ∀ w, MemOk D w → Φ w → (slR (tInt .i64) w a1.Targets b1_0 ∧ slR (tInt .i64) w a2.Targets b2_0)) :
    SpecK Try.prog 164 [.agg (S.t_Plan.enc a1 (hf [b1_0])).toArray, .agg (S.t_Plan.enc a2 (hf [b2_0])).toArray] D [] Φ (fun x : Unit => .bool r) (fun x => []) (fun x => []) (fun _ => Φ) := by
  refine enterK Try.func164 rfl Try.ntmps164 rfl ?_
  unfold S.plan_Same at h
  refine CW.reg ?_
  refine RO.eff (Wt.no rfl) rfl (EV.boxB (B := S.t_Plan.enc a1 (hf [b1_0])) rfl rfl) ?_
  rintro _ _ _ ⟨g1, rfl, rfl, rfl⟩
  refine RO.eff (Wt.no rfl) rfl (EV.boxB (B := S.t_Plan.enc a2 (hf [b2_0])) rfl rfl) ?_
  rintro _ _ _ ⟨g2, rfl, rfl, rfl⟩
  refine RO.val (Wt.no rfl) rfl (PV.assign rfl) ?_
  refine RO.nil ?_
  replace h := bindS h
  obtain ⟨v3, hx4, h⟩ := h
  refine CW.reg ?_
  refine RO.val (Wt.no rfl) rfl (PV.loadM (l := S.t_Plan.enc a1 (hf [b1_0])) 1 Try.TF28 rfl rfl (cut_self (S.t_Plan.len _ _)) rfl (by decide)) ?_
  refine RO.val (Wt.no rfl) rfl (PV.loadM (l := S.t_Plan.enc a2 (hf [b2_0])) 2 Try.TF28 rfl rfl (cut_self (S.t_Plan.len _ _)) rfl (by decide)) ?_
  refine RO.eff (Wt.no rfl) rfl (EV.call (K := _) Try.call136 rfl (SpecK.callV (W_plan_Compare a1 a2 b1_0 b2_0 hx4 (fun w hm hΦ => ⟨(hR w (hm.frameAt (i := 0) rfl) (hΦ.1)).1, (hR w (hm.frameAt (i := 0) rfl) (hΦ.1)).2⟩)))) ?_
  rintro _ _ _ ⟨_, rfl, rfl, rfl⟩
  refine RO.val (Wt.no rfl) rfl (PV.eql rfl rfl) ?_
  refine RO.val (Wt.no rfl) rfl (PV.assign rfl) ?_
  refine RO.nil ?_
  refine CW.ret ?_
  obtain rfl := Option.some.inj h
  exact retP1 (Ψ := Φ) [0] (by decide) rfl (RV.tmp rfl) rfl (fun w hΦ => hΦ.1) ⟨(), rfl, rfl, rfl⟩

theorem W_ring_Same {D : Mem} {Φ : World → Prop} (a1 : S.Ring) (a2 : S.Ring) (b1_0 : Hd) (b2_0 : Hd) {r : Bool} (h : S.ring_Same a1 a2 = some r) (hR : ∀ w, MemOk D w → Φ w → (slR (tInt .i64) w a1.Plan.Targets b1_0 ∧ slR (tInt .i64) w a2.Plan.Targets b2_0)) :
    SpecK Try.prog 157 [.agg (S.t_Ring.enc a1 (hf [b1_0])).toArray, .agg (S.t_Ring.enc a2 (hf [b2_0])).toArray] D [] Φ (fun x : Unit => .bool r) (fun x => []) (fun x => []) (fun _ => Φ) := by
  refine enterK Try.func157 rfl Try.ntmps157 rfl ?_
  unfold S.ring_Same at h
  refine CW.reg ?_
  refine RO.eff (Wt.no rfl) rfl (EV.boxB (B := S.t_Ring.enc a1 (hf [b1_0])) rfl rfl) ?_
  rintro _ _ _ ⟨g1, rfl, rfl, rfl⟩
  refine RO.eff (Wt.no rfl) rfl (EV.boxB (B := S.t_Ring.enc a2 (hf [b2_0])) rfl rfl) ?_
  rintro _ _ _ ⟨g2, rfl, rfl, rfl⟩
  refine RO.val (Wt.no rfl) rfl (PV.assign rfl) ?_
  refine RO.nil ?_
  by_cases hb3 : (decide (a1.Status = a2.Status)) = true
  · replace h := iteT hb3 h
    by_cases hb4 : (decide (a1.Parts = a2.Parts)) = true
    · replace h := iteT hb4 h
      replace h := bindS h
      obtain ⟨v5, hx6, h⟩ := h
      refine CW.reg ?_
      refine RO.val (Wt.no rfl) rfl (PV.fieldAddr Try.fa33_0 rfl) ?_
      refine RO.val (Wt.no rfl) rfl (PV.loadM (l := S.t_A8_int.enc a1.Status (hf [])) 1 Try.TF25 rfl rfl (cut_Ring_Status _ _) rfl (by decide)) ?_
      refine RO.val (Wt.no rfl) rfl (PV.fieldAddr Try.fa33_0 rfl) ?_
      refine RO.val (Wt.no rfl) rfl (PV.loadM (l := S.t_A8_int.enc a2.Status (hf [])) 2 Try.TF25 rfl rfl (cut_Ring_Status _ _) rfl (by decide)) ?_
      refine RO.val (Wt.no rfl) rfl (PV.eqlAgg Try.eqGuardType25 rfl rfl Try.eqq25) ?_
      refine RO.val (Wt.no rfl) rfl ((PV.move rfl).to (congrArg Value.bool hb3)) ?_
      refine RO.val (Wt.yes rfl rfl rfl rfl) rfl (PV.fieldAddr Try.fa33_2 rfl) ?_
      refine RO.val (Wt.yes rfl rfl rfl rfl) rfl (PV.loadM (l := S.t_A16_Entry.enc a1.Parts (hf [])) 1 Try.TF31 rfl rfl (cut_Ring_Parts _ _) rfl (by decide)) ?_
      refine RO.val (Wt.yes rfl rfl rfl rfl) rfl (PV.fieldAddr Try.fa33_2 rfl) ?_
      refine RO.val (Wt.yes rfl rfl rfl rfl) rfl (PV.loadM (l := S.t_A16_Entry.enc a2.Parts (hf [])) 2 Try.TF31 rfl rfl (cut_Ring_Parts _ _) rfl (by decide)) ?_
      refine RO.val (Wt.yes rfl rfl rfl rfl) rfl (PV.eqlAgg Try.eqGuardType31 rfl rfl Try.eqq31) ?_
      refine RO.val (Wt.no rfl) rfl (PV.pickT rfl rfl) ?_
      refine RO.val (Wt.no rfl) rfl ((PV.move rfl).to (congrArg Value.bool hb4)) ?_
      refine RO.val (Wt.yes rfl rfl rfl rfl) rfl (PV.fieldAddr Try.fa33_1 rfl) ?_
      refine RO.val (Wt.yes rfl rfl rfl rfl) rfl (PV.loadM (l := S.t_Plan.enc a1.Plan (hf [b1_0])) 1 Try.TF28 rfl rfl (cut_Ring_Plan _ _) rfl (by decide)) ?_
      refine RO.val (Wt.yes rfl rfl rfl rfl) rfl (PV.fieldAddr Try.fa33_1 rfl) ?_
      refine RO.val (Wt.yes rfl rfl rfl rfl) rfl (PV.loadM (l := S.t_Plan.enc a2.Plan (hf [b2_0])) 2 Try.TF28 rfl rfl (cut_Ring_Plan _ _) rfl (by decide)) ?_
      refine RO.eff (Wt.yes rfl rfl rfl rfl) rfl (EV.call (K := _) Try.call164 rfl (SpecK.callV (W_plan_Same a1.Plan a2.Plan b1_0 b2_0 hx6 (fun w hm hΦ => ⟨(hR w (hm.frameAt (i := 0) rfl) (hΦ.1)).1, (hR w (hm.frameAt (i := 0) rfl) (hΦ.1)).2⟩)))) ?_
      rintro _ _ _ ⟨_, rfl, rfl, rfl⟩
      refine RO.val (Wt.no rfl) rfl (PV.pickT rfl rfl) ?_
      refine RO.val (Wt.no rfl) rfl (PV.assign rfl) ?_
      refine RO.nil ?_
      refine CW.ret ?_
      obtain rfl := Option.some.inj h
      exact retP1 (Ψ := Φ) [0] (by decide) rfl (RV.tmp rfl) rfl (fun w hΦ => hΦ.1) ⟨(), rfl, rfl, rfl⟩
    · replace hb4 := Bool.eq_false_iff.2 hb4
      replace h := iteF hb4 h
      refine CW.reg ?_
      refine RO.val (Wt.no rfl) rfl (PV.fieldAddr Try.fa33_0 rfl) ?_
      refine RO.val (Wt.no rfl) rfl (PV.loadM (l := S.t_A8_int.enc a1.Status (hf [])) 1 Try.TF25 rfl rfl (cut_Ring_Status _ _) rfl (by decide)) ?_
      refine RO.val (Wt.no rfl) rfl (PV.fieldAddr Try.fa33_0 rfl) ?_
      refine RO.val (Wt.no rfl) rfl (PV.loadM (l := S.t_A8_int.enc a2.Status (hf [])) 2 Try.TF25 rfl rfl (cut_Ring_Status _ _) rfl (by decide)) ?_
      refine RO.val (Wt.no rfl) rfl (PV.eqlAgg Try.eqGuardType25 rfl rfl Try.eqq25) ?_
      refine RO.val (Wt.no rfl) rfl ((PV.move rfl).to (congrArg Value.bool hb3)) ?_
      refine RO.val (Wt.yes rfl rfl rfl rfl) rfl (PV.fieldAddr Try.fa33_2 rfl) ?_
      refine RO.val (Wt.yes rfl rfl rfl rfl) rfl (PV.loadM (l := S.t_A16_Entry.enc a1.Parts (hf [])) 1 Try.TF31 rfl rfl (cut_Ring_Parts _ _) rfl (by decide)) ?_
      refine RO.val (Wt.yes rfl rfl rfl rfl) rfl (PV.fieldAddr Try.fa33_2 rfl) ?_
      refine RO.val (Wt.yes rfl rfl rfl rfl) rfl (PV.loadM (l := S.t_A16_Entry.enc a2.Parts (hf [])) 2 Try.TF31 rfl rfl (cut_Ring_Parts _ _) rfl (by decide)) ?_
      refine RO.val (Wt.yes rfl rfl rfl rfl) rfl (PV.eqlAgg Try.eqGuardType31 rfl rfl Try.eqq31) ?_
      refine RO.val (Wt.no rfl) rfl (PV.pickT rfl rfl) ?_
      refine RO.val (Wt.no rfl) rfl ((PV.move rfl).to (congrArg Value.bool hb4)) ?_
      refine RO.skip (Un.mk rfl rfl rfl rfl) rfl ?_
      refine RO.skip (Un.mk rfl rfl rfl rfl) rfl ?_
      refine RO.skip (Un.mk rfl rfl rfl rfl) rfl ?_
      refine RO.skip (Un.mk rfl rfl rfl rfl) rfl ?_
      refine RO.skip (Un.mk rfl rfl rfl rfl) rfl ?_
      refine RO.val (Wt.no rfl) rfl (PV.pickF rfl rfl) ?_
      refine RO.val (Wt.no rfl) rfl (PV.assign rfl) ?_
      refine RO.nil ?_
      refine CW.ret ?_
      obtain rfl := Option.some.inj h
      exact retP1 (Ψ := Φ) [0] (by decide) rfl (RV.tmp rfl) rfl (fun w hΦ => hΦ.1) ⟨(), rfl, rfl, rfl⟩
  · replace hb3 := Bool.eq_false_iff.2 hb3
    replace h := iteF hb3 h
    refine CW.reg ?_
    refine RO.val (Wt.no rfl) rfl (PV.fieldAddr Try.fa33_0 rfl) ?_
    refine RO.val (Wt.no rfl) rfl (PV.loadM (l := S.t_A8_int.enc a1.Status (hf [])) 1 Try.TF25 rfl rfl (cut_Ring_Status _ _) rfl (by decide)) ?_
    refine RO.val (Wt.no rfl) rfl (PV.fieldAddr Try.fa33_0 rfl) ?_
    refine RO.val (Wt.no rfl) rfl (PV.loadM (l := S.t_A8_int.enc a2.Status (hf [])) 2 Try.TF25 rfl rfl (cut_Ring_Status _ _) rfl (by decide)) ?_
    refine RO.val (Wt.no rfl) rfl (PV.eqlAgg Try.eqGuardType25 rfl rfl Try.eqq25) ?_
    refine RO.val (Wt.no rfl) rfl ((PV.move rfl).to (congrArg Value.bool hb3)) ?_
    refine RO.skip (Un.mk rfl rfl rfl rfl) rfl ?_
    refine RO.skip (Un.mk rfl rfl rfl rfl) rfl ?_
    refine RO.skip (Un.mk rfl rfl rfl rfl) rfl ?_
    refine RO.skip (Un.mk rfl rfl rfl rfl) rfl ?_
    refine RO.skip (Un.mk rfl rfl rfl rfl) rfl ?_
    refine RO.val (Wt.no rfl) rfl (PV.pickF rfl rfl) ?_
    refine RO.val (Wt.no rfl) rfl (PV.move rfl) ?_
    refine RO.skip (Un.mk rfl rfl rfl rfl) rfl ?_
    refine RO.skip (Un.mk rfl rfl rfl rfl) rfl ?_
    refine RO.skip (Un.mk rfl rfl rfl rfl) rfl ?_
    refine RO.skip (Un.mk rfl rfl rfl rfl) rfl ?_
    refine RO.skip (Un.mk rfl rfl rfl rfl) rfl ?_
    refine RO.val (Wt.no rfl) rfl (PV.pickF rfl rfl) ?_
    refine RO.val (Wt.no rfl) rfl (PV.assign rfl) ?_
    refine RO.nil ?_
    refine CW.ret ?_
    obtain rfl := Option.some.inj h
    exact retP1 (Ψ := Φ) [0] (by decide) rfl (RV.tmp rfl) rfl (fun w hΦ => hΦ.1) ⟨(), rfl, rfl, rfl⟩

theorem W_ledger_Same {D : Mem} {Φ : World → Prop} (a1 : S.Deed) (a2 : S.Deed) (b1_0 : Hd) (b1_1 : Hd) (b2_0 : Hd) (b2_1 : Hd) {r : Bool} (h : S.ledger_Same a1 a2 = some r) (hR : ∀ w, MemOk D w → Φ w → (slR S.t_Val w a1.Bag.Values b1_0 ∧ slR (tInt .i64) w a1.Ring.Plan.Targets b1_1 ∧ slR S.t_Val w a2.Bag.Values b2_0 ∧ slR (tInt .i64) w a2.Ring.Plan.Targets b2_1)) :
    SpecK Try.prog 139 [.agg (S.t_Deed.enc a1 (hf [b1_0, b1_1])).toArray, .agg (S.t_Deed.enc a2 (hf [b2_0, b2_1])).toArray] D [] Φ (fun x : Unit => .bool r) (fun x => []) (fun x => []) (fun _ => Φ) := by
  refine enterK Try.func139 rfl Try.ntmps139 rfl ?_
  unfold S.ledger_Same at h
  refine CW.reg ?_
  refine RO.eff (Wt.no rfl) rfl (EV.boxB (B := S.t_Deed.enc a1 (hf [b1_0, b1_1])) rfl rfl) ?_
  rintro _ _ _ ⟨g1, rfl, rfl, rfl⟩
  refine RO.eff (Wt.no rfl) rfl (EV.boxB (B := S.t_Deed.enc a2 (hf [b2_0, b2_1])) rfl rfl) ?_
  rintro _ _ _ ⟨g2, rfl, rfl, rfl⟩
  refine RO.val (Wt.no rfl) rfl (PV.assign rfl) ?_
  refine RO.nil ?_
  by_cases hb3 : (decide (a1.Kind = a2.Kind)) = true
  · replace h := iteT hb3 h
    by_cases hb4 : (decide (a1.N = a2.N)) = true
    · replace h := iteT hb4 h
      by_cases hb5 : (decide (a1.Key = a2.Key)) = true
      · replace h := iteT hb5 h
        by_cases hb6 : (decide (a1.Part = a2.Part)) = true
        · replace h := iteT hb6 h
          replace h := bindS h
          obtain ⟨v7, hx8, h⟩ := h
          by_cases hb9 : v7 = true
          · replace h := iteT hb9 h
            subst hb9
            replace h := bindS h
            obtain ⟨v10, hx11, h⟩ := h
            refine CW.reg ?_
            refine RO.val (Wt.no rfl) rfl (PV.fieldAddr Try.fa106_0 rfl) ?_
            refine RO.val (Wt.no rfl) rfl (PV.loadM (l := [.int .i64 a1.Kind]) 1 Try.TF3 rfl rfl (cut_Deed_Kind _ _) rfl (by decide)) ?_
            refine RO.val (Wt.no rfl) rfl (PV.fieldAddr Try.fa106_0 rfl) ?_
            refine RO.val (Wt.no rfl) rfl (PV.loadM (l := [.int .i64 a2.Kind]) 2 Try.TF3 rfl rfl (cut_Deed_Kind _ _) rfl (by decide)) ?_
            refine RO.val (Wt.no rfl) rfl (PV.eql rfl rfl) ?_
            refine RO.val (Wt.no rfl) rfl ((PV.move rfl).to (congrArg Value.bool hb3)) ?_
            refine RO.val (Wt.yes rfl rfl rfl rfl) rfl (PV.fieldAddr Try.fa106_1 rfl) ?_
            refine RO.val (Wt.yes rfl rfl rfl rfl) rfl (PV.loadM (l := [.int .i64 a1.N]) 1 Try.TF3 rfl rfl (cut_Deed_N _ _) rfl (by decide)) ?_
            refine RO.val (Wt.yes rfl rfl rfl rfl) rfl (PV.fieldAddr Try.fa106_1 rfl) ?_
            refine RO.val (Wt.yes rfl rfl rfl rfl) rfl (PV.loadM (l := [.int .i64 a2.N]) 2 Try.TF3 rfl rfl (cut_Deed_N _ _) rfl (by decide)) ?_
            refine RO.val (Wt.yes rfl rfl rfl rfl) rfl (PV.eql rfl rfl) ?_
            refine RO.val (Wt.no rfl) rfl (PV.pickT rfl rfl) ?_
            refine RO.val (Wt.no rfl) rfl ((PV.move rfl).to (congrArg Value.bool hb4)) ?_
            refine RO.val (Wt.yes rfl rfl rfl rfl) rfl (PV.fieldAddr Try.fa106_2 rfl) ?_
            refine RO.val (Wt.yes rfl rfl rfl rfl) rfl (PV.loadM (l := [.string a1.Key]) 1 Try.TF9 rfl rfl (cut_Deed_Key _ _) rfl (by decide)) ?_
            refine RO.val (Wt.yes rfl rfl rfl rfl) rfl (PV.fieldAddr Try.fa106_2 rfl) ?_
            refine RO.val (Wt.yes rfl rfl rfl rfl) rfl (PV.loadM (l := [.string a2.Key]) 2 Try.TF9 rfl rfl (cut_Deed_Key _ _) rfl (by decide)) ?_
            refine RO.val (Wt.yes rfl rfl rfl rfl) rfl (PV.eqlStr rfl rfl) ?_
            refine RO.val (Wt.no rfl) rfl (PV.pickT rfl rfl) ?_
            refine RO.val (Wt.no rfl) rfl ((PV.move rfl).to (congrArg Value.bool hb5)) ?_
            refine RO.val (Wt.yes rfl rfl rfl rfl) rfl (PV.fieldAddr Try.fa106_5 rfl) ?_
            refine RO.val (Wt.yes rfl rfl rfl rfl) rfl (PV.loadM (l := [.int .i64 a1.Part]) 1 Try.TF3 rfl rfl (cut_Deed_Part _ _) rfl (by decide)) ?_
            refine RO.val (Wt.yes rfl rfl rfl rfl) rfl (PV.fieldAddr Try.fa106_5 rfl) ?_
            refine RO.val (Wt.yes rfl rfl rfl rfl) rfl (PV.loadM (l := [.int .i64 a2.Part]) 2 Try.TF3 rfl rfl (cut_Deed_Part _ _) rfl (by decide)) ?_
            refine RO.val (Wt.yes rfl rfl rfl rfl) rfl (PV.eql rfl rfl) ?_
            refine RO.val (Wt.no rfl) rfl (PV.pickT rfl rfl) ?_
            refine RO.val (Wt.no rfl) rfl ((PV.move rfl).to (congrArg Value.bool hb6)) ?_
            refine RO.val (Wt.yes rfl rfl rfl rfl) rfl (PV.fieldAddr Try.fa106_3 rfl) ?_
            refine RO.val (Wt.yes rfl rfl rfl rfl) rfl (PV.loadM (l := S.t_Bag.enc a1.Bag (hf [b1_0])) 1 Try.TF40 rfl rfl (cut_Deed_Bag _ _) rfl (by decide)) ?_
            refine RO.val (Wt.yes rfl rfl rfl rfl) rfl (PV.fieldAddr Try.fa106_3 rfl) ?_
            refine RO.val (Wt.yes rfl rfl rfl rfl) rfl (PV.loadM (l := S.t_Bag.enc a2.Bag (hf [b2_0])) 2 Try.TF40 rfl rfl (cut_Deed_Bag _ _) rfl (by decide)) ?_
            refine RO.eff (Wt.yes rfl rfl rfl rfl) rfl (EV.call (K := _) Try.call19 rfl (SpecK.callV (W_bag_Same a1.Bag a2.Bag b1_0 b2_0 hx8 (fun w hm hΦ => ⟨(hR w (hm.frameAt (i := 0) rfl) (hΦ.1)).1, (hR w (hm.frameAt (i := 0) rfl) (hΦ.1)).2.2.1⟩)))) ?_
            rintro _ _ _ ⟨_, rfl, rfl, rfl⟩
            refine RO.val (Wt.no rfl) rfl (PV.pickT rfl rfl) ?_
            refine RO.val (Wt.no rfl) rfl (PV.move rfl) ?_
            refine RO.val (Wt.yes rfl rfl rfl rfl) rfl (PV.fieldAddr Try.fa106_4 rfl) ?_
            refine RO.val (Wt.yes rfl rfl rfl rfl) rfl (PV.loadM (l := S.t_Ring.enc a1.Ring (hf [b1_1])) 1 Try.TF33 rfl rfl (cut_Deed_Ring _ _) rfl (by decide)) ?_
            refine RO.val (Wt.yes rfl rfl rfl rfl) rfl (PV.fieldAddr Try.fa106_4 rfl) ?_
            refine RO.val (Wt.yes rfl rfl rfl rfl) rfl (PV.loadM (l := S.t_Ring.enc a2.Ring (hf [b2_1])) 2 Try.TF33 rfl rfl (cut_Deed_Ring _ _) rfl (by decide)) ?_
            refine RO.eff (Wt.yes rfl rfl rfl rfl) rfl (EV.call (K := _) Try.call157 rfl (SpecK.callV (W_ring_Same a1.Ring a2.Ring b1_1 b2_1 hx11 (fun w hm hΦ => ⟨(hR w (hm.frameAt (i := 0) rfl) (hΦ.1)).2.1, (hR w (hm.frameAt (i := 0) rfl) (hΦ.1)).2.2.2⟩)))) ?_
            rintro _ _ _ ⟨_, rfl, rfl, rfl⟩
            refine RO.val (Wt.no rfl) rfl (PV.pickT rfl rfl) ?_
            refine RO.val (Wt.no rfl) rfl (PV.assign rfl) ?_
            refine RO.nil ?_
            refine CW.ret ?_
            obtain rfl := Option.some.inj h
            exact retP1 (Ψ := Φ) [0] (by decide) rfl (RV.tmp rfl) rfl (fun w hΦ => hΦ.1) ⟨(), rfl, rfl, rfl⟩
          · replace hb9 := Bool.eq_false_iff.2 hb9
            replace h := iteF hb9 h
            subst hb9
            refine CW.reg ?_
            refine RO.val (Wt.no rfl) rfl (PV.fieldAddr Try.fa106_0 rfl) ?_
            refine RO.val (Wt.no rfl) rfl (PV.loadM (l := [.int .i64 a1.Kind]) 1 Try.TF3 rfl rfl (cut_Deed_Kind _ _) rfl (by decide)) ?_
            refine RO.val (Wt.no rfl) rfl (PV.fieldAddr Try.fa106_0 rfl) ?_
            refine RO.val (Wt.no rfl) rfl (PV.loadM (l := [.int .i64 a2.Kind]) 2 Try.TF3 rfl rfl (cut_Deed_Kind _ _) rfl (by decide)) ?_
            refine RO.val (Wt.no rfl) rfl (PV.eql rfl rfl) ?_
            refine RO.val (Wt.no rfl) rfl ((PV.move rfl).to (congrArg Value.bool hb3)) ?_
            refine RO.val (Wt.yes rfl rfl rfl rfl) rfl (PV.fieldAddr Try.fa106_1 rfl) ?_
            refine RO.val (Wt.yes rfl rfl rfl rfl) rfl (PV.loadM (l := [.int .i64 a1.N]) 1 Try.TF3 rfl rfl (cut_Deed_N _ _) rfl (by decide)) ?_
            refine RO.val (Wt.yes rfl rfl rfl rfl) rfl (PV.fieldAddr Try.fa106_1 rfl) ?_
            refine RO.val (Wt.yes rfl rfl rfl rfl) rfl (PV.loadM (l := [.int .i64 a2.N]) 2 Try.TF3 rfl rfl (cut_Deed_N _ _) rfl (by decide)) ?_
            refine RO.val (Wt.yes rfl rfl rfl rfl) rfl (PV.eql rfl rfl) ?_
            refine RO.val (Wt.no rfl) rfl (PV.pickT rfl rfl) ?_
            refine RO.val (Wt.no rfl) rfl ((PV.move rfl).to (congrArg Value.bool hb4)) ?_
            refine RO.val (Wt.yes rfl rfl rfl rfl) rfl (PV.fieldAddr Try.fa106_2 rfl) ?_
            refine RO.val (Wt.yes rfl rfl rfl rfl) rfl (PV.loadM (l := [.string a1.Key]) 1 Try.TF9 rfl rfl (cut_Deed_Key _ _) rfl (by decide)) ?_
            refine RO.val (Wt.yes rfl rfl rfl rfl) rfl (PV.fieldAddr Try.fa106_2 rfl) ?_
            refine RO.val (Wt.yes rfl rfl rfl rfl) rfl (PV.loadM (l := [.string a2.Key]) 2 Try.TF9 rfl rfl (cut_Deed_Key _ _) rfl (by decide)) ?_
            refine RO.val (Wt.yes rfl rfl rfl rfl) rfl (PV.eqlStr rfl rfl) ?_
            refine RO.val (Wt.no rfl) rfl (PV.pickT rfl rfl) ?_
            refine RO.val (Wt.no rfl) rfl ((PV.move rfl).to (congrArg Value.bool hb5)) ?_
            refine RO.val (Wt.yes rfl rfl rfl rfl) rfl (PV.fieldAddr Try.fa106_5 rfl) ?_
            refine RO.val (Wt.yes rfl rfl rfl rfl) rfl (PV.loadM (l := [.int .i64 a1.Part]) 1 Try.TF3 rfl rfl (cut_Deed_Part _ _) rfl (by decide)) ?_
            refine RO.val (Wt.yes rfl rfl rfl rfl) rfl (PV.fieldAddr Try.fa106_5 rfl) ?_
            refine RO.val (Wt.yes rfl rfl rfl rfl) rfl (PV.loadM (l := [.int .i64 a2.Part]) 2 Try.TF3 rfl rfl (cut_Deed_Part _ _) rfl (by decide)) ?_
            refine RO.val (Wt.yes rfl rfl rfl rfl) rfl (PV.eql rfl rfl) ?_
            refine RO.val (Wt.no rfl) rfl (PV.pickT rfl rfl) ?_
            refine RO.val (Wt.no rfl) rfl ((PV.move rfl).to (congrArg Value.bool hb6)) ?_
            refine RO.val (Wt.yes rfl rfl rfl rfl) rfl (PV.fieldAddr Try.fa106_3 rfl) ?_
            refine RO.val (Wt.yes rfl rfl rfl rfl) rfl (PV.loadM (l := S.t_Bag.enc a1.Bag (hf [b1_0])) 1 Try.TF40 rfl rfl (cut_Deed_Bag _ _) rfl (by decide)) ?_
            refine RO.val (Wt.yes rfl rfl rfl rfl) rfl (PV.fieldAddr Try.fa106_3 rfl) ?_
            refine RO.val (Wt.yes rfl rfl rfl rfl) rfl (PV.loadM (l := S.t_Bag.enc a2.Bag (hf [b2_0])) 2 Try.TF40 rfl rfl (cut_Deed_Bag _ _) rfl (by decide)) ?_
            refine RO.eff (Wt.yes rfl rfl rfl rfl) rfl (EV.call (K := _) Try.call19 rfl (SpecK.callV (W_bag_Same a1.Bag a2.Bag b1_0 b2_0 hx8 (fun w hm hΦ => ⟨(hR w (hm.frameAt (i := 0) rfl) (hΦ.1)).1, (hR w (hm.frameAt (i := 0) rfl) (hΦ.1)).2.2.1⟩)))) ?_
            rintro _ _ _ ⟨_, rfl, rfl, rfl⟩
            refine RO.val (Wt.no rfl) rfl (PV.pickT rfl rfl) ?_
            refine RO.val (Wt.no rfl) rfl (PV.move rfl) ?_
            refine RO.skip (Un.mk rfl rfl rfl rfl) rfl ?_
            refine RO.skip (Un.mk rfl rfl rfl rfl) rfl ?_
            refine RO.skip (Un.mk rfl rfl rfl rfl) rfl ?_
            refine RO.skip (Un.mk rfl rfl rfl rfl) rfl ?_
            refine RO.skip (Un.mk rfl rfl rfl rfl) rfl ?_
            refine RO.val (Wt.no rfl) rfl (PV.pickF rfl rfl) ?_
            refine RO.val (Wt.no rfl) rfl (PV.assign rfl) ?_
            refine RO.nil ?_
            refine CW.ret ?_
            obtain rfl := Option.some.inj h
            exact retP1 (Ψ := Φ) [0] (by decide) rfl (RV.tmp rfl) rfl (fun w hΦ => hΦ.1) ⟨(), rfl, rfl, rfl⟩
        · replace hb6 := Bool.eq_false_iff.2 hb6
          replace h := iteF hb6 h
          refine CW.reg ?_
          refine RO.val (Wt.no rfl) rfl (PV.fieldAddr Try.fa106_0 rfl) ?_
          refine RO.val (Wt.no rfl) rfl (PV.loadM (l := [.int .i64 a1.Kind]) 1 Try.TF3 rfl rfl (cut_Deed_Kind _ _) rfl (by decide)) ?_
          refine RO.val (Wt.no rfl) rfl (PV.fieldAddr Try.fa106_0 rfl) ?_
          refine RO.val (Wt.no rfl) rfl (PV.loadM (l := [.int .i64 a2.Kind]) 2 Try.TF3 rfl rfl (cut_Deed_Kind _ _) rfl (by decide)) ?_
          refine RO.val (Wt.no rfl) rfl (PV.eql rfl rfl) ?_
          refine RO.val (Wt.no rfl) rfl ((PV.move rfl).to (congrArg Value.bool hb3)) ?_
          refine RO.val (Wt.yes rfl rfl rfl rfl) rfl (PV.fieldAddr Try.fa106_1 rfl) ?_
          refine RO.val (Wt.yes rfl rfl rfl rfl) rfl (PV.loadM (l := [.int .i64 a1.N]) 1 Try.TF3 rfl rfl (cut_Deed_N _ _) rfl (by decide)) ?_
          refine RO.val (Wt.yes rfl rfl rfl rfl) rfl (PV.fieldAddr Try.fa106_1 rfl) ?_
          refine RO.val (Wt.yes rfl rfl rfl rfl) rfl (PV.loadM (l := [.int .i64 a2.N]) 2 Try.TF3 rfl rfl (cut_Deed_N _ _) rfl (by decide)) ?_
          refine RO.val (Wt.yes rfl rfl rfl rfl) rfl (PV.eql rfl rfl) ?_
          refine RO.val (Wt.no rfl) rfl (PV.pickT rfl rfl) ?_
          refine RO.val (Wt.no rfl) rfl ((PV.move rfl).to (congrArg Value.bool hb4)) ?_
          refine RO.val (Wt.yes rfl rfl rfl rfl) rfl (PV.fieldAddr Try.fa106_2 rfl) ?_
          refine RO.val (Wt.yes rfl rfl rfl rfl) rfl (PV.loadM (l := [.string a1.Key]) 1 Try.TF9 rfl rfl (cut_Deed_Key _ _) rfl (by decide)) ?_
          refine RO.val (Wt.yes rfl rfl rfl rfl) rfl (PV.fieldAddr Try.fa106_2 rfl) ?_
          refine RO.val (Wt.yes rfl rfl rfl rfl) rfl (PV.loadM (l := [.string a2.Key]) 2 Try.TF9 rfl rfl (cut_Deed_Key _ _) rfl (by decide)) ?_
          refine RO.val (Wt.yes rfl rfl rfl rfl) rfl (PV.eqlStr rfl rfl) ?_
          refine RO.val (Wt.no rfl) rfl (PV.pickT rfl rfl) ?_
          refine RO.val (Wt.no rfl) rfl ((PV.move rfl).to (congrArg Value.bool hb5)) ?_
          refine RO.val (Wt.yes rfl rfl rfl rfl) rfl (PV.fieldAddr Try.fa106_5 rfl) ?_
          refine RO.val (Wt.yes rfl rfl rfl rfl) rfl (PV.loadM (l := [.int .i64 a1.Part]) 1 Try.TF3 rfl rfl (cut_Deed_Part _ _) rfl (by decide)) ?_
          refine RO.val (Wt.yes rfl rfl rfl rfl) rfl (PV.fieldAddr Try.fa106_5 rfl) ?_
          refine RO.val (Wt.yes rfl rfl rfl rfl) rfl (PV.loadM (l := [.int .i64 a2.Part]) 2 Try.TF3 rfl rfl (cut_Deed_Part _ _) rfl (by decide)) ?_
          refine RO.val (Wt.yes rfl rfl rfl rfl) rfl (PV.eql rfl rfl) ?_
          refine RO.val (Wt.no rfl) rfl (PV.pickT rfl rfl) ?_
          refine RO.val (Wt.no rfl) rfl ((PV.move rfl).to (congrArg Value.bool hb6)) ?_
          refine RO.skip (Un.mk rfl rfl rfl rfl) rfl ?_
          refine RO.skip (Un.mk rfl rfl rfl rfl) rfl ?_
          refine RO.skip (Un.mk rfl rfl rfl rfl) rfl ?_
          refine RO.skip (Un.mk rfl rfl rfl rfl) rfl ?_
          refine RO.skip (Un.mk rfl rfl rfl rfl) rfl ?_
          refine RO.val (Wt.no rfl) rfl (PV.pickF rfl rfl) ?_
          refine RO.val (Wt.no rfl) rfl (PV.move rfl) ?_
          refine RO.skip (Un.mk rfl rfl rfl rfl) rfl ?_
          refine RO.skip (Un.mk rfl rfl rfl rfl) rfl ?_
          refine RO.skip (Un.mk rfl rfl rfl rfl) rfl ?_
          refine RO.skip (Un.mk rfl rfl rfl rfl) rfl ?_
          refine RO.skip (Un.mk rfl rfl rfl rfl) rfl ?_
          refine RO.val (Wt.no rfl) rfl (PV.pickF rfl rfl) ?_
          refine RO.val (Wt.no rfl) rfl (PV.assign rfl) ?_
          refine RO.nil ?_
          refine CW.ret ?_
          obtain rfl := Option.some.inj h
          exact retP1 (Ψ := Φ) [0] (by decide) rfl (RV.tmp rfl) rfl (fun w hΦ => hΦ.1) ⟨(), rfl, rfl, rfl⟩
      · replace hb5 := Bool.eq_false_iff.2 hb5
        replace h := iteF hb5 h
        refine CW.reg ?_
        refine RO.val (Wt.no rfl) rfl (PV.fieldAddr Try.fa106_0 rfl) ?_
        refine RO.val (Wt.no rfl) rfl (PV.loadM (l := [.int .i64 a1.Kind]) 1 Try.TF3 rfl rfl (cut_Deed_Kind _ _) rfl (by decide)) ?_
        refine RO.val (Wt.no rfl) rfl (PV.fieldAddr Try.fa106_0 rfl) ?_
        refine RO.val (Wt.no rfl) rfl (PV.loadM (l := [.int .i64 a2.Kind]) 2 Try.TF3 rfl rfl (cut_Deed_Kind _ _) rfl (by decide)) ?_
        refine RO.val (Wt.no rfl) rfl (PV.eql rfl rfl) ?_
        refine RO.val (Wt.no rfl) rfl ((PV.move rfl).to (congrArg Value.bool hb3)) ?_
        refine RO.val (Wt.yes rfl rfl rfl rfl) rfl (PV.fieldAddr Try.fa106_1 rfl) ?_
        refine RO.val (Wt.yes rfl rfl rfl rfl) rfl (PV.loadM (l := [.int .i64 a1.N]) 1 Try.TF3 rfl rfl (cut_Deed_N _ _) rfl (by decide)) ?_
        refine RO.val (Wt.yes rfl rfl rfl rfl) rfl (PV.fieldAddr Try.fa106_1 rfl) ?_
        refine RO.val (Wt.yes rfl rfl rfl rfl) rfl (PV.loadM (l := [.int .i64 a2.N]) 2 Try.TF3 rfl rfl (cut_Deed_N _ _) rfl (by decide)) ?_
        refine RO.val (Wt.yes rfl rfl rfl rfl) rfl (PV.eql rfl rfl) ?_
        refine RO.val (Wt.no rfl) rfl (PV.pickT rfl rfl) ?_
        refine RO.val (Wt.no rfl) rfl ((PV.move rfl).to (congrArg Value.bool hb4)) ?_
        refine RO.val (Wt.yes rfl rfl rfl rfl) rfl (PV.fieldAddr Try.fa106_2 rfl) ?_
        refine RO.val (Wt.yes rfl rfl rfl rfl) rfl (PV.loadM (l := [.string a1.Key]) 1 Try.TF9 rfl rfl (cut_Deed_Key _ _) rfl (by decide)) ?_
        refine RO.val (Wt.yes rfl rfl rfl rfl) rfl (PV.fieldAddr Try.fa106_2 rfl) ?_
        refine RO.val (Wt.yes rfl rfl rfl rfl) rfl (PV.loadM (l := [.string a2.Key]) 2 Try.TF9 rfl rfl (cut_Deed_Key _ _) rfl (by decide)) ?_
        refine RO.val (Wt.yes rfl rfl rfl rfl) rfl (PV.eqlStr rfl rfl) ?_
        refine RO.val (Wt.no rfl) rfl (PV.pickT rfl rfl) ?_
        refine RO.val (Wt.no rfl) rfl ((PV.move rfl).to (congrArg Value.bool hb5)) ?_
        refine RO.skip (Un.mk rfl rfl rfl rfl) rfl ?_
        refine RO.skip (Un.mk rfl rfl rfl rfl) rfl ?_
        refine RO.skip (Un.mk rfl rfl rfl rfl) rfl ?_
        refine RO.skip (Un.mk rfl rfl rfl rfl) rfl ?_
        refine RO.skip (Un.mk rfl rfl rfl rfl) rfl ?_
        refine RO.val (Wt.no rfl) rfl (PV.pickF rfl rfl) ?_
        refine RO.val (Wt.no rfl) rfl (PV.move rfl) ?_
        refine RO.skip (Un.mk rfl rfl rfl rfl) rfl ?_
        refine RO.skip (Un.mk rfl rfl rfl rfl) rfl ?_
        refine RO.skip (Un.mk rfl rfl rfl rfl) rfl ?_
        refine RO.skip (Un.mk rfl rfl rfl rfl) rfl ?_
        refine RO.skip (Un.mk rfl rfl rfl rfl) rfl ?_
        refine RO.val (Wt.no rfl) rfl (PV.pickF rfl rfl) ?_
        refine RO.val (Wt.no rfl) rfl (PV.move rfl) ?_
        refine RO.skip (Un.mk rfl rfl rfl rfl) rfl ?_
        refine RO.skip (Un.mk rfl rfl rfl rfl) rfl ?_
        refine RO.skip (Un.mk rfl rfl rfl rfl) rfl ?_
        refine RO.skip (Un.mk rfl rfl rfl rfl) rfl ?_
        refine RO.skip (Un.mk rfl rfl rfl rfl) rfl ?_
        refine RO.val (Wt.no rfl) rfl (PV.pickF rfl rfl) ?_
        refine RO.val (Wt.no rfl) rfl (PV.assign rfl) ?_
        refine RO.nil ?_
        refine CW.ret ?_
        obtain rfl := Option.some.inj h
        exact retP1 (Ψ := Φ) [0] (by decide) rfl (RV.tmp rfl) rfl (fun w hΦ => hΦ.1) ⟨(), rfl, rfl, rfl⟩
    · replace hb4 := Bool.eq_false_iff.2 hb4
      replace h := iteF hb4 h
      refine CW.reg ?_
      refine RO.val (Wt.no rfl) rfl (PV.fieldAddr Try.fa106_0 rfl) ?_
      refine RO.val (Wt.no rfl) rfl (PV.loadM (l := [.int .i64 a1.Kind]) 1 Try.TF3 rfl rfl (cut_Deed_Kind _ _) rfl (by decide)) ?_
      refine RO.val (Wt.no rfl) rfl (PV.fieldAddr Try.fa106_0 rfl) ?_
      refine RO.val (Wt.no rfl) rfl (PV.loadM (l := [.int .i64 a2.Kind]) 2 Try.TF3 rfl rfl (cut_Deed_Kind _ _) rfl (by decide)) ?_
      refine RO.val (Wt.no rfl) rfl (PV.eql rfl rfl) ?_
      refine RO.val (Wt.no rfl) rfl ((PV.move rfl).to (congrArg Value.bool hb3)) ?_
      refine RO.val (Wt.yes rfl rfl rfl rfl) rfl (PV.fieldAddr Try.fa106_1 rfl) ?_
      refine RO.val (Wt.yes rfl rfl rfl rfl) rfl (PV.loadM (l := [.int .i64 a1.N]) 1 Try.TF3 rfl rfl (cut_Deed_N _ _) rfl (by decide)) ?_
      refine RO.val (Wt.yes rfl rfl rfl rfl) rfl (PV.fieldAddr Try.fa106_1 rfl) ?_
      refine RO.val (Wt.yes rfl rfl rfl rfl) rfl (PV.loadM (l := [.int .i64 a2.N]) 2 Try.TF3 rfl rfl (cut_Deed_N _ _) rfl (by decide)) ?_
      refine RO.val (Wt.yes rfl rfl rfl rfl) rfl (PV.eql rfl rfl) ?_
      refine RO.val (Wt.no rfl) rfl (PV.pickT rfl rfl) ?_
      refine RO.val (Wt.no rfl) rfl ((PV.move rfl).to (congrArg Value.bool hb4)) ?_
      refine RO.skip (Un.mk rfl rfl rfl rfl) rfl ?_
      refine RO.skip (Un.mk rfl rfl rfl rfl) rfl ?_
      refine RO.skip (Un.mk rfl rfl rfl rfl) rfl ?_
      refine RO.skip (Un.mk rfl rfl rfl rfl) rfl ?_
      refine RO.skip (Un.mk rfl rfl rfl rfl) rfl ?_
      refine RO.val (Wt.no rfl) rfl (PV.pickF rfl rfl) ?_
      refine RO.val (Wt.no rfl) rfl (PV.move rfl) ?_
      refine RO.skip (Un.mk rfl rfl rfl rfl) rfl ?_
      refine RO.skip (Un.mk rfl rfl rfl rfl) rfl ?_
      refine RO.skip (Un.mk rfl rfl rfl rfl) rfl ?_
      refine RO.skip (Un.mk rfl rfl rfl rfl) rfl ?_
      refine RO.skip (Un.mk rfl rfl rfl rfl) rfl ?_
      refine RO.val (Wt.no rfl) rfl (PV.pickF rfl rfl) ?_
      refine RO.val (Wt.no rfl) rfl (PV.move rfl) ?_
      refine RO.skip (Un.mk rfl rfl rfl rfl) rfl ?_
      refine RO.skip (Un.mk rfl rfl rfl rfl) rfl ?_
      refine RO.skip (Un.mk rfl rfl rfl rfl) rfl ?_
      refine RO.skip (Un.mk rfl rfl rfl rfl) rfl ?_
      refine RO.skip (Un.mk rfl rfl rfl rfl) rfl ?_
      refine RO.val (Wt.no rfl) rfl (PV.pickF rfl rfl) ?_
      refine RO.val (Wt.no rfl) rfl (PV.move rfl) ?_
      refine RO.skip (Un.mk rfl rfl rfl rfl) rfl ?_
      refine RO.skip (Un.mk rfl rfl rfl rfl) rfl ?_
      refine RO.skip (Un.mk rfl rfl rfl rfl) rfl ?_
      refine RO.skip (Un.mk rfl rfl rfl rfl) rfl ?_
      refine RO.skip (Un.mk rfl rfl rfl rfl) rfl ?_
      refine RO.val (Wt.no rfl) rfl (PV.pickF rfl rfl) ?_
      refine RO.val (Wt.no rfl) rfl (PV.assign rfl) ?_
      refine RO.nil ?_
      refine CW.ret ?_
      obtain rfl := Option.some.inj h
      exact retP1 (Ψ := Φ) [0] (by decide) rfl (RV.tmp rfl) rfl (fun w hΦ => hΦ.1) ⟨(), rfl, rfl, rfl⟩
  · replace hb3 := Bool.eq_false_iff.2 hb3
    replace h := iteF hb3 h
    refine CW.reg ?_
    refine RO.val (Wt.no rfl) rfl (PV.fieldAddr Try.fa106_0 rfl) ?_
    refine RO.val (Wt.no rfl) rfl (PV.loadM (l := [.int .i64 a1.Kind]) 1 Try.TF3 rfl rfl (cut_Deed_Kind _ _) rfl (by decide)) ?_
    refine RO.val (Wt.no rfl) rfl (PV.fieldAddr Try.fa106_0 rfl) ?_
    refine RO.val (Wt.no rfl) rfl (PV.loadM (l := [.int .i64 a2.Kind]) 2 Try.TF3 rfl rfl (cut_Deed_Kind _ _) rfl (by decide)) ?_
    refine RO.val (Wt.no rfl) rfl (PV.eql rfl rfl) ?_
    refine RO.val (Wt.no rfl) rfl ((PV.move rfl).to (congrArg Value.bool hb3)) ?_
    refine RO.skip (Un.mk rfl rfl rfl rfl) rfl ?_
    refine RO.skip (Un.mk rfl rfl rfl rfl) rfl ?_
    refine RO.skip (Un.mk rfl rfl rfl rfl) rfl ?_
    refine RO.skip (Un.mk rfl rfl rfl rfl) rfl ?_
    refine RO.skip (Un.mk rfl rfl rfl rfl) rfl ?_
    refine RO.val (Wt.no rfl) rfl (PV.pickF rfl rfl) ?_
    refine RO.val (Wt.no rfl) rfl (PV.move rfl) ?_
    refine RO.skip (Un.mk rfl rfl rfl rfl) rfl ?_
    refine RO.skip (Un.mk rfl rfl rfl rfl) rfl ?_
    refine RO.skip (Un.mk rfl rfl rfl rfl) rfl ?_
    refine RO.skip (Un.mk rfl rfl rfl rfl) rfl ?_
    refine RO.skip (Un.mk rfl rfl rfl rfl) rfl ?_
    refine RO.val (Wt.no rfl) rfl (PV.pickF rfl rfl) ?_
    refine RO.val (Wt.no rfl) rfl (PV.move rfl) ?_
    refine RO.skip (Un.mk rfl rfl rfl rfl) rfl ?_
    refine RO.skip (Un.mk rfl rfl rfl rfl) rfl ?_
    refine RO.skip (Un.mk rfl rfl rfl rfl) rfl ?_
    refine RO.skip (Un.mk rfl rfl rfl rfl) rfl ?_
    refine RO.skip (Un.mk rfl rfl rfl rfl) rfl ?_
    refine RO.val (Wt.no rfl) rfl (PV.pickF rfl rfl) ?_
    refine RO.val (Wt.no rfl) rfl (PV.move rfl) ?_
    refine RO.skip (Un.mk rfl rfl rfl rfl) rfl ?_
    refine RO.skip (Un.mk rfl rfl rfl rfl) rfl ?_
    refine RO.skip (Un.mk rfl rfl rfl rfl) rfl ?_
    refine RO.skip (Un.mk rfl rfl rfl rfl) rfl ?_
    refine RO.skip (Un.mk rfl rfl rfl rfl) rfl ?_
    refine RO.val (Wt.no rfl) rfl (PV.pickF rfl rfl) ?_
    refine RO.val (Wt.no rfl) rfl (PV.move rfl) ?_
    refine RO.skip (Un.mk rfl rfl rfl rfl) rfl ?_
    refine RO.skip (Un.mk rfl rfl rfl rfl) rfl ?_
    refine RO.skip (Un.mk rfl rfl rfl rfl) rfl ?_
    refine RO.skip (Un.mk rfl rfl rfl rfl) rfl ?_
    refine RO.skip (Un.mk rfl rfl rfl rfl) rfl ?_
    refine RO.val (Wt.no rfl) rfl (PV.pickF rfl rfl) ?_
    refine RO.val (Wt.no rfl) rfl (PV.assign rfl) ?_
    refine RO.nil ?_
    refine CW.ret ?_
    obtain rfl := Option.some.inj h
    exact retP1 (Ψ := Φ) [0] (by decide) rfl (RV.tmp rfl) rfl (fun w hΦ => hΦ.1) ⟨(), rfl, rfl, rfl⟩

theorem W_ledger_within {D : Mem} {Φ : World → Prop} (a1 : Int) (a2 : Int) {r : Bool} (h : S.ledger_within a1 a2 = some r) :
    SpecK Try.prog 141 [.int .i64 a1, .int .i64 a2] D [] Φ (fun x : Unit => .bool r) (fun x => []) (fun x => []) (fun _ => Φ) := by
  refine enterK Try.func141 rfl Try.ntmps141 rfl ?_
  unfold S.ledger_within at h
  refine CW.reg ?_
  refine RO.val (Wt.no rfl) rfl (PV.assign rfl) ?_
  refine RO.nil ?_
  by_cases hb1 : (decide (0 ≤ a1)) = true
  · replace h := iteT hb1 h
    refine CW.reg ?_
    refine RO.val (Wt.no rfl) rfl (PV.move rfl) ?_
    refine RO.val (Wt.no rfl) rfl (PV.geq rfl rfl) ?_
    refine RO.val (Wt.no rfl) rfl ((PV.move rfl).to (congrArg Value.bool hb1)) ?_
    refine RO.val (Wt.yes rfl rfl rfl rfl) rfl (PV.move rfl) ?_
    refine RO.val (Wt.yes rfl rfl rfl rfl) rfl (PV.move rfl) ?_
    refine RO.val (Wt.yes rfl rfl rfl rfl) rfl (PV.leq rfl rfl) ?_
    refine RO.val (Wt.no rfl) rfl (PV.pickT rfl rfl) ?_
    refine RO.val (Wt.no rfl) rfl (PV.assign rfl) ?_
    refine RO.nil ?_
    refine CW.ret ?_
    obtain rfl := Option.some.inj h
    exact retP1 (Ψ := Φ) [0] (by decide) rfl (RV.tmp rfl) rfl (fun w hΦ => hΦ.1) ⟨(), rfl, rfl, rfl⟩
  · replace hb1 := Bool.eq_false_iff.2 hb1
    replace h := iteF hb1 h
    refine CW.reg ?_
    refine RO.val (Wt.no rfl) rfl (PV.move rfl) ?_
    refine RO.val (Wt.no rfl) rfl (PV.geq rfl rfl) ?_
    refine RO.val (Wt.no rfl) rfl ((PV.move rfl).to (congrArg Value.bool hb1)) ?_
    refine RO.skip (Un.mk rfl rfl rfl rfl) rfl ?_
    refine RO.skip (Un.mk rfl rfl rfl rfl) rfl ?_
    refine RO.skip (Un.mk rfl rfl rfl rfl) rfl ?_
    refine RO.val (Wt.no rfl) rfl (PV.pickF rfl rfl) ?_
    refine RO.val (Wt.no rfl) rfl (PV.assign rfl) ?_
    refine RO.nil ?_
    refine CW.ret ?_
    obtain rfl := Option.some.inj h
    exact retP1 (Ψ := Φ) [0] (by decide) rfl (RV.tmp rfl) rfl (fun w hΦ => hΦ.1) ⟨(), rfl, rfl, rfl⟩

theorem W_plan_node {D : Mem} {Φ : World → Prop} (a1 : Int) {r : Bool} (h : S.plan_node a1 = some r) :
    SpecK Try.prog 159 [.int .i64 a1] D [] Φ (fun x : Unit => .bool r) (fun x => []) (fun x => []) (fun _ => Φ) := by
  refine enterK Try.func159 rfl Try.ntmps159 rfl ?_
  unfold S.plan_node at h
  refine CW.reg ?_
  refine RO.val (Wt.no rfl) rfl (PV.assign rfl) ?_
  refine RO.nil ?_
  by_cases hb1 : (decide (0 ≤ a1)) = true
  · replace h := iteT hb1 h
    refine CW.reg ?_
    refine RO.val (Wt.no rfl) rfl (PV.move rfl) ?_
    refine RO.val (Wt.no rfl) rfl (PV.geq rfl rfl) ?_
    refine RO.val (Wt.no rfl) rfl ((PV.move rfl).to (congrArg Value.bool hb1)) ?_
    refine RO.val (Wt.yes rfl rfl rfl rfl) rfl (PV.move rfl) ?_
    refine RO.val (Wt.yes rfl rfl rfl rfl) rfl (PV.lss rfl rfl) ?_
    refine RO.val (Wt.no rfl) rfl (PV.pickT rfl rfl) ?_
    refine RO.val (Wt.no rfl) rfl (PV.assign rfl) ?_
    refine RO.nil ?_
    refine CW.ret ?_
    obtain rfl := Option.some.inj h
    exact retP1 (Ψ := Φ) [0] (by decide) rfl (RV.tmp rfl) rfl (fun w hΦ => hΦ.1) ⟨(), rfl, rfl, rfl⟩
  · replace hb1 := Bool.eq_false_iff.2 hb1
    replace h := iteF hb1 h
    refine CW.reg ?_
    refine RO.val (Wt.no rfl) rfl (PV.move rfl) ?_
    refine RO.val (Wt.no rfl) rfl (PV.geq rfl rfl) ?_
    refine RO.val (Wt.no rfl) rfl ((PV.move rfl).to (congrArg Value.bool hb1)) ?_
    refine RO.skip (Un.mk rfl rfl rfl rfl) rfl ?_
    refine RO.skip (Un.mk rfl rfl rfl rfl) rfl ?_
    refine RO.val (Wt.no rfl) rfl (PV.pickF rfl rfl) ?_
    refine RO.val (Wt.no rfl) rfl (PV.assign rfl) ?_
    refine RO.nil ?_
    refine CW.ret ?_
    obtain rfl := Option.some.inj h
    exact retP1 (Ψ := Φ) [0] (by decide) rfl (RV.tmp rfl) rfl (fun w hΦ => hΦ.1) ⟨(), rfl, rfl, rfl⟩

theorem W_plan_full_1 {D : Mem} {Φ : World → Prop} (a1 : Int) {r : Bool} (h : S.plan_full_1 a1 = some r) :
    SpecK Try.prog 166 [.int .i64 a1] D [] Φ (fun x : Unit => .bool r) (fun x => []) (fun x => []) (fun _ => Φ) := by
  refine enterK Try.func166 rfl Try.ntmps166 rfl ?_
  unfold S.plan_full_1 at h
  refine CW.reg ?_
  refine RO.val (Wt.no rfl) rfl (PV.assign rfl) ?_
  refine RO.nil ?_
  replace h := bindS h
  obtain ⟨v1, hx2, h⟩ := h
  refine CW.reg ?_
  refine RO.val (Wt.no rfl) rfl (PV.move rfl) ?_
  refine RO.eff (Wt.no rfl) rfl (EV.call (K := _) Try.call159 rfl (SpecK.callV (W_plan_node a1 hx2))) ?_
  rintro _ _ _ ⟨_, rfl, rfl, rfl⟩
  refine RO.val (Wt.no rfl) rfl (PV.not rfl) ?_
  refine RO.val (Wt.no rfl) rfl (PV.assign rfl) ?_
  refine RO.nil ?_
  refine CW.ret ?_
  obtain rfl := Option.some.inj h
  exact retP1 (Ψ := Φ) [0] (by decide) rfl (RV.tmp rfl) rfl (fun w hΦ => hΦ.1) ⟨(), rfl, rfl, rfl⟩

theorem W_slices_IndexFunc_int_int_plan_full_1 {D : Mem} {Φ : World → Prop} (a1 : List Int) (b1_0 : Hd) {r : Int} (h : S.slices_IndexFunc_int_int_plan_full_1 a1 = some r) (hR : ∀ w, MemOk D w → Φ w → (slR (tInt .i64) w a1 b1_0)) :
    SpecK Try.prog 167 [.slice b1_0.a a1.length b1_0.cap, .func (.func 166) #[] #[]] D [] Φ (fun x : Unit => .int .i64 r) (fun x => []) (fun x => []) (fun _ => Φ) := by
  refine enterK Try.func167 rfl Try.ntmps167 rfl ?_
  unfold S.slices_IndexFunc_int_int_plan_full_1 at h
  refine CW.reg ?_
  refine RO.val (Wt.no rfl) rfl (PV.assign rfl) ?_
  refine RO.nil ?_
  replace h := andThen_some h
  obtain ⟨e3, h, hk2⟩ := h
  refine CW.meet (X := Unit) (fun x => [(4, .int .i64 0)]) (fun x => [frame D]) (fun x w => (Φ w ∧ True)) (fun x => S.slices_IndexFunc_int_int_plan_full_1_j2 = some r) ?_ ?_
  · skip
    refine CW.reg ?_
    refine RO.val (Wt.no rfl) rfl (PV.move rfl) ?_
    refine RO.val (Wt.no rfl) rfl (PV.lenS Try.underlying26 rfl) ?_
    refine RO.val (Wt.no rfl) rfl (PV.move rfl) ?_
    refine RO.nil ?_
    refine CW.block ?_
    refine CW.loopE (X := Nat × Int) (fun x => [(0, .slice b1_0.a a1.length b1_0.cap), (1, .func (.func 166) #[] #[]), (4, .int .i64 0), (7, .int .i64 (a1.length : Int)), (8, .int .i64 x.2)]) (fun x => [frame D]) (fun x w => (Φ w ∧ True)) (fun x => loopN (S.slices_IndexFunc_int_int_plan_full_1_l3 a1) x.1 x.2 = some e3) (fun x => x.1) (FUEL, 0) h (by exact ⟨rfl, rfl, rfl, rfl, rfl, trivial⟩) rfl (fun w hΦ => hΦ) ?_
    rintro ⟨n11', v8⟩ hI9
    try dsimp only at hI9 ⊢
    obtain ⟨n11, y10, rfl, h, hk12⟩ := loopN_some hI9
    unfold S.slices_IndexFunc_int_int_plan_full_1_l3 at h
    try dsimp only at h
    refine CW.reg ?_
    refine RO.val (Wt.no rfl) rfl (PV.lss rfl rfl) ?_
    refine RO.nil ?_
    refine CW.seq ?_
    refine CW.cond rfl (fun hb13 => ?_) (fun hb13 => ?_)
    · replace h := iteT hb13 h
      refine CW.skip ?_
      refine QC.then_n ?_
      refine CW.seq ?_
      refine CW.block ?_
      refine CW.reg ?_
      refine RO.val (Wt.no rfl) rfl (PV.move rfl) ?_
      refine RO.val (Wt.no rfl) rfl (PV.assign rfl) ?_
      refine RO.nil ?_
      replace h := bindS h
      obtain ⟨v14, hx15, h⟩ := h
      replace h := bindS h
      obtain ⟨v16, hx17, h⟩ := h
      refine CW.reg ?_
      refine RO.val (Wt.no rfl) rfl (PV.move rfl) ?_
      refine RO.val (Wt.no rfl) rfl (PV.move rfl) ?_
      refine RO.val (Wt.no rfl) rfl (PV.move rfl) ?_
      refine RO.val (Wt.no rfl) rfl (PV.idxQ (t := (tInt .i64)) (l := a1) (q := b1_0) Try.underlying26 Try.sizeOf3 (fun w hm hΦ => (hR w (hm.frameAt (i := 0) rfl) (hΦ.1))) rfl rfl hx15) ?_
      refine RO.val (Wt.no rfl) rfl (PV.loadQ (off := 0) (cs := [.int .i64 v14]) (t := (tInt .i64)) (l := a1) (q := b1_0) Try.TF3 (fun w hm hΦ => (hR w (hm.frameAt (i := 0) rfl) (hΦ.1))) hx15 rfl rfl rfl (cut_self ((tInt .i64).len _ _)) rfl (by decide)) ?_
      refine RO.eff (Wt.no rfl) rfl (EV.callV2 (K := _) (pre := []) (caps := []) Try.call166 rfl rfl (SpecK.callV (W_plan_full_1 v14 hx17))) ?_
      rintro _ _ _ ⟨_, rfl, rfl, rfl⟩
      refine RO.nil ?_
      refine CW.cond rfl (fun hb18 => ?_) (fun hb18 => ?_)
      · replace h := iteT hb18 h
        subst hb18
        refine CW.reg ?_
        refine RO.val (Wt.no rfl) rfl (PV.move rfl) ?_
        refine RO.val (Wt.no rfl) rfl (PV.assign rfl) ?_
        refine RO.nil ?_
        refine CW.ret ?_
        refine QC.blk_r ?_
        refine QC.then_r ?_
        refine QC.then_r ?_
        refine QC.blk_r ?_
        refine QC.then_r ?_
        obtain rfl := Option.some.inj h
        obtain rfl := nextL_inr hk12
        obtain rfl := afterS_inr hk2
        exact retP1 (Ψ := Φ) [0] (by decide) rfl (RV.tmp rfl) rfl (fun w hΦ => hΦ.1) ⟨(), rfl, rfl, rfl⟩
      · replace h := iteF hb18 h
        subst hb18
        refine CW.skip ?_
        refine QC.blk_n ?_
        refine QC.then_n ?_
        refine CW.region ?_
        refine RO.val (Wt.no rfl) rfl (PV.addW rfl rfl) ?_
        refine RO.val (Wt.no rfl) rfl (PV.move rfl) ?_
        refine RO.nil ?_
        obtain rfl := Option.some.inj h
        refine QC.roundP (n11, (w64 (v8 + 1))) (nextL_inl hk12) (by exact Nat.lt_succ_self _) [0] (by decide) (by exact ⟨rfl, rfl, rfl, rfl, rfl, trivial⟩) rfl (fun w hΦ => hΦ)
    · replace h := iteF hb13 h
      refine CW.exit ?_
      refine QC.then_x ?_
      refine QC.then_x ?_
      refine QC.blk_x ?_
      obtain rfl := Option.some.inj h
      obtain rfl := nextL_inr hk12
      refine QC.meetP () (afterS_inl hk2) [0] (by decide) (by exact ⟨rfl, trivial⟩) rfl (fun w hΦ => hΦ)
  · rintro ⟨⟩ h
    try dsimp only at h ⊢
    unfold S.slices_IndexFunc_int_int_plan_full_1_j2 at h
    refine CW.reg ?_
    refine RO.val (Wt.no rfl) rfl (PV.assign rfl) ?_
    refine RO.nil ?_
    refine CW.ret ?_
    obtain rfl := Option.some.inj h
    exact retP1 (Ψ := Φ) [0] (by decide) rfl (RV.tmp rfl) rfl (fun w hΦ => hΦ.1) ⟨(), rfl, rfl, rfl⟩

theorem W_slices_ContainsFunc_int_int_plan_full_1 {D : Mem} {Φ : World → Prop} (a1 : List Int) (b1_0 : Hd) {r : Bool} (h : S.slices_ContainsFunc_int_int_plan_full_1 a1 = some r) (hR : ∀ w, MemOk D w → Φ w → (slR (tInt .i64) w a1 b1_0)) :
    SpecK Try.prog 165 [.slice b1_0.a a1.length b1_0.cap, .func (.func 166) #[] #[]] D [] Φ (fun x : Unit => .bool r) (fun x => []) (fun x => []) (fun _ => Φ) := by
  refine enterK Try.func165 rfl Try.ntmps165 rfl ?_
  unfold S.slices_ContainsFunc_int_int_plan_full_1 at h
  refine CW.reg ?_
  refine RO.val (Wt.no rfl) rfl (PV.assign rfl) ?_
  refine RO.nil ?_
  replace h := bindS h
  obtain ⟨v1, hx2, h⟩ := h
  refine CW.reg ?_
  refine RO.val (Wt.no rfl) rfl (PV.move rfl) ?_
  refine RO.val (Wt.no rfl) rfl (PV.move rfl) ?_
  refine RO.eff (Wt.no rfl) rfl (EV.call (K := _) Try.call167 rfl (SpecK.callV (W_slices_IndexFunc_int_int_plan_full_1 a1 b1_0 hx2 (fun w hm hΦ => (hR w (hm.frameAt (i := 0) rfl) (hΦ.1)))))) ?_
  rintro _ _ _ ⟨_, rfl, rfl, rfl⟩
  refine RO.val (Wt.no rfl) rfl (PV.geq rfl rfl) ?_
  refine RO.val (Wt.no rfl) rfl (PV.assign rfl) ?_
  refine RO.nil ?_
  refine CW.ret ?_
  obtain rfl := Option.some.inj h
  exact retP1 (Ψ := Φ) [0] (by decide) rfl (RV.tmp rfl) rfl (fun w hΦ => hΦ.1) ⟨(), rfl, rfl, rfl⟩

theorem W_plan_full {D : Mem} {Φ : World → Prop} (a1 : List Int) (b1_0 : Hd) {r : Bool} (h : S.plan_full a1 = some r) (hR : ∀ w, MemOk D w → Φ w → (slR (tInt .i64) w a1 b1_0)) :
    SpecK Try.prog 160 [.slice b1_0.a a1.length b1_0.cap] D [] Φ (fun x : Unit => .bool r) (fun x => []) (fun x => []) (fun _ => Φ) := by
  refine enterK Try.func160 rfl Try.ntmps160 rfl ?_
  unfold S.plan_full at h
  refine CW.reg ?_
  refine RO.val (Wt.no rfl) rfl (PV.assign rfl) ?_
  refine RO.nil ?_
  by_cases hb1 : (decide ((a1.length : Int) = 16)) = true
  · replace h := iteT hb1 h
    replace h := bindS h
    obtain ⟨v2, hx3, h⟩ := h
    refine CW.reg ?_
    refine RO.val (Wt.no rfl) rfl (PV.move rfl) ?_
    refine RO.val (Wt.no rfl) rfl (PV.lenS Try.underlying26 rfl) ?_
    refine RO.val (Wt.no rfl) rfl (PV.eql rfl rfl) ?_
    refine RO.val (Wt.no rfl) rfl ((PV.move rfl).to (congrArg Value.bool hb1)) ?_
    refine RO.val (Wt.yes rfl rfl rfl rfl) rfl (PV.move rfl) ?_
    refine RO.eff (Wt.yes rfl rfl rfl rfl) rfl (EV.call (K := _) Try.call165 rfl (SpecK.callV (W_slices_ContainsFunc_int_int_plan_full_1 a1 b1_0 hx3 (fun w hm hΦ => (hR w (hm.frameAt (i := 0) rfl) (hΦ.1)))))) ?_
    rintro _ _ _ ⟨_, rfl, rfl, rfl⟩
    refine RO.val (Wt.yes rfl rfl rfl rfl) rfl (PV.not rfl) ?_
    refine RO.val (Wt.no rfl) rfl (PV.pickT rfl rfl) ?_
    refine RO.val (Wt.no rfl) rfl (PV.assign rfl) ?_
    refine RO.nil ?_
    refine CW.ret ?_
    obtain rfl := Option.some.inj h
    exact retP1 (Ψ := Φ) [0] (by decide) rfl (RV.tmp rfl) rfl (fun w hΦ => hΦ.1) ⟨(), rfl, rfl, rfl⟩
  · replace hb1 := Bool.eq_false_iff.2 hb1
    replace h := iteF hb1 h
    refine CW.reg ?_
    refine RO.val (Wt.no rfl) rfl (PV.move rfl) ?_
    refine RO.val (Wt.no rfl) rfl (PV.lenS Try.underlying26 rfl) ?_
    refine RO.val (Wt.no rfl) rfl (PV.eql rfl rfl) ?_
    refine RO.val (Wt.no rfl) rfl ((PV.move rfl).to (congrArg Value.bool hb1)) ?_
    refine RO.skip (Un.mk rfl rfl rfl rfl) rfl ?_
    refine RO.skip (Un.mk rfl rfl rfl rfl) rfl ?_
    refine RO.skip (Un.mk rfl rfl rfl rfl) rfl ?_
    refine RO.val (Wt.no rfl) rfl (PV.pickF rfl rfl) ?_
    refine RO.val (Wt.no rfl) rfl (PV.assign rfl) ?_
    refine RO.nil ?_
    refine CW.ret ?_
    obtain rfl := Option.some.inj h
    exact retP1 (Ψ := Φ) [0] (by decide) rfl (RV.tmp rfl) rfl (fun w hΦ => hΦ.1) ⟨(), rfl, rfl, rfl⟩

theorem W_plan_May {D : Mem} {Φ : World → Prop} (a1 : S.Plan) (b1_0 : Hd) {r : Bool} (h : S.plan_May a1 = some r) (hR : ∀ w, MemOk D w → Φ w → (slR (tInt .i64) w a1.Targets b1_0)) :
    SpecK Try.prog 143 [.agg (S.t_Plan.enc a1 (hf [b1_0])).toArray] D [] Φ (fun x : Unit => .bool r) (fun x => []) (fun x => []) (fun _ => Φ) := by
  refine enterK Try.func143 rfl Try.ntmps143 rfl ?_
  unfold S.plan_May at h
  refine CW.reg ?_
  refine RO.eff (Wt.no rfl) rfl (EV.boxB (B := S.t_Plan.enc a1 (hf [b1_0])) rfl rfl) ?_
  rintro _ _ _ ⟨g1, rfl, rfl, rfl⟩
  refine RO.val (Wt.no rfl) rfl (PV.assign rfl) ?_
  refine RO.nil ?_
  refine CW.seq ?_
  refine CW.reg ?_
  refine RO.val (Wt.no rfl) rfl (PV.fieldAddr Try.fa28_2 rfl) ?_
  refine RO.val (Wt.no rfl) rfl (PV.loadM (l := [.slice b1_0.a a1.Targets.length b1_0.cap]) 1 Try.TF26 rfl rfl (cut_Plan_Targets _ _) rfl (by decide)) ?_
  refine RO.val (Wt.no rfl) rfl (PV.lenS Try.underlying26 rfl) ?_
  refine RO.val (Wt.no rfl) rfl (PV.eql rfl rfl) ?_
  refine RO.nil ?_
  refine CW.cond rfl (fun hb2 => ?_) (fun hb2 => ?_)
  · replace h := iteT hb2 h
    replace h := bindS h
    obtain ⟨e6, h, hk5⟩ := h
    refine CW.meet (X := Bool) (fun x => [(1, .pointer (some ⟨g1, 0, none⟩)), (2, .bool x)]) (fun x => [frame D, .blk g1 (S.t_Plan.enc a1 (hf [b1_0]))]) (fun x w => (Φ w ∧ True)) (fun x => S.plan_May_j1 x = some r) ?_ ?_
    · skip
      by_cases hb7 : (decide (a1.Version = 0)) = true
      · replace h := iteT hb7 h
        refine CW.region ?_
        refine RO.val (Wt.no rfl) rfl (PV.fieldAddr Try.fa28_0 rfl) ?_
        refine RO.val (Wt.no rfl) rfl (PV.loadM (l := [.int .i64 a1.Version]) 1 Try.TF3 rfl rfl (cut_Plan_Version _ _) rfl (by decide)) ?_
        refine RO.val (Wt.no rfl) rfl (PV.eql rfl rfl) ?_
        refine RO.val (Wt.no rfl) rfl ((PV.move rfl).to (congrArg Value.bool hb7)) ?_
        refine RO.val (Wt.yes rfl rfl rfl rfl) rfl (PV.fieldAddr Try.fa28_1 rfl) ?_
        refine RO.val (Wt.yes rfl rfl rfl rfl) rfl (PV.loadM (l := [.int .i64 a1.By]) 1 Try.TF3 rfl rfl (cut_Plan_By _ _) rfl (by decide)) ?_
        refine RO.val (Wt.yes rfl rfl rfl rfl) rfl (PV.eql rfl rfl) ?_
        refine RO.val (Wt.no rfl) rfl (PV.pickT rfl rfl) ?_
        refine RO.val (Wt.no rfl) rfl (PV.assign rfl) ?_
        refine RO.nil ?_
        obtain rfl := Option.some.inj h
        refine QC.meetP (decide (a1.By = 0)) hk5 [0, 1] (by decide) (by exact ⟨rfl, rfl, trivial⟩) rfl (fun w hΦ => hΦ)
      · replace hb7 := Bool.eq_false_iff.2 hb7
        replace h := iteF hb7 h
        refine CW.region ?_
        refine RO.val (Wt.no rfl) rfl (PV.fieldAddr Try.fa28_0 rfl) ?_
        refine RO.val (Wt.no rfl) rfl (PV.loadM (l := [.int .i64 a1.Version]) 1 Try.TF3 rfl rfl (cut_Plan_Version _ _) rfl (by decide)) ?_
        refine RO.val (Wt.no rfl) rfl (PV.eql rfl rfl) ?_
        refine RO.val (Wt.no rfl) rfl ((PV.move rfl).to (congrArg Value.bool hb7)) ?_
        refine RO.skip (Un.mk rfl rfl rfl rfl) rfl ?_
        refine RO.skip (Un.mk rfl rfl rfl rfl) rfl ?_
        refine RO.skip (Un.mk rfl rfl rfl rfl) rfl ?_
        refine RO.val (Wt.no rfl) rfl (PV.pickF rfl rfl) ?_
        refine RO.val (Wt.no rfl) rfl (PV.assign rfl) ?_
        refine RO.nil ?_
        obtain rfl := Option.some.inj h
        refine QC.meetP false hk5 [0, 1] (by decide) (by exact ⟨rfl, rfl, trivial⟩) rfl (fun w hΦ => hΦ)
    · rintro v4 h
      try dsimp only at h ⊢
      unfold S.plan_May_j1 at h
      refine CW.ret ?_
      refine QC.then_r ?_
      obtain rfl := Option.some.inj h
      exact retP1 (Ψ := Φ) [0] (by decide) rfl (RV.tmp rfl) rfl (fun w hΦ => hΦ.1) ⟨(), rfl, rfl, rfl⟩
  · replace h := iteF hb2 h
    refine CW.skip ?_
    refine QC.then_n ?_
    by_cases hb8 : (decide (1 ≤ a1.Version)) = true
    · replace h := iteT hb8 h
      by_cases hb9 : (decide (a1.Version ≤ 1000000)) = true
      · replace h := iteT hb9 h
        replace h := bindS h
        obtain ⟨v10, hx11, h⟩ := h
        by_cases hb12 : v10 = true
        · replace h := iteT hb12 h
          subst hb12
          replace h := bindS h
          obtain ⟨v13, hx14, h⟩ := h
          refine CW.reg ?_
          refine RO.val (Wt.no rfl) rfl (PV.fieldAddr Try.fa28_0 rfl) ?_
          refine RO.val (Wt.no rfl) rfl (PV.loadM (l := [.int .i64 a1.Version]) 1 Try.TF3 rfl rfl (cut_Plan_Version _ _) rfl (by decide)) ?_
          refine RO.val (Wt.no rfl) rfl (PV.geq rfl rfl) ?_
          refine RO.val (Wt.no rfl) rfl ((PV.move rfl).to (congrArg Value.bool hb8)) ?_
          refine RO.val (Wt.yes rfl rfl rfl rfl) rfl (PV.fieldAddr Try.fa28_0 rfl) ?_
          refine RO.val (Wt.yes rfl rfl rfl rfl) rfl (PV.loadM (l := [.int .i64 a1.Version]) 1 Try.TF3 rfl rfl (cut_Plan_Version _ _) rfl (by decide)) ?_
          refine RO.val (Wt.yes rfl rfl rfl rfl) rfl (PV.leq rfl rfl) ?_
          refine RO.val (Wt.no rfl) rfl (PV.pickT rfl rfl) ?_
          refine RO.val (Wt.no rfl) rfl ((PV.move rfl).to (congrArg Value.bool hb9)) ?_
          refine RO.val (Wt.yes rfl rfl rfl rfl) rfl (PV.fieldAddr Try.fa28_1 rfl) ?_
          refine RO.val (Wt.yes rfl rfl rfl rfl) rfl (PV.loadM (l := [.int .i64 a1.By]) 1 Try.TF3 rfl rfl (cut_Plan_By _ _) rfl (by decide)) ?_
          refine RO.eff (Wt.yes rfl rfl rfl rfl) rfl (EV.call (K := _) Try.call159 rfl (SpecK.callV (W_plan_node a1.By hx11))) ?_
          rintro _ _ _ ⟨_, rfl, rfl, rfl⟩
          refine RO.val (Wt.no rfl) rfl (PV.pickT rfl rfl) ?_
          refine RO.val (Wt.no rfl) rfl (PV.move rfl) ?_
          refine RO.val (Wt.yes rfl rfl rfl rfl) rfl (PV.fieldAddr Try.fa28_2 rfl) ?_
          refine RO.val (Wt.yes rfl rfl rfl rfl) rfl (PV.loadM (l := [.slice b1_0.a a1.Targets.length b1_0.cap]) 1 Try.TF26 rfl rfl (cut_Plan_Targets _ _) rfl (by decide)) ?_
          refine RO.eff (Wt.yes rfl rfl rfl rfl) rfl (EV.call (K := _) Try.call160 rfl (SpecK.callV (W_plan_full a1.Targets b1_0 hx14 (fun w hm hΦ => (hR w (hm.frameAt (i := 0) rfl) (hΦ.1)))))) ?_
          rintro _ _ _ ⟨_, rfl, rfl, rfl⟩
          refine RO.val (Wt.no rfl) rfl (PV.pickT rfl rfl) ?_
          refine RO.val (Wt.no rfl) rfl (PV.assign rfl) ?_
          refine RO.nil ?_
          refine CW.ret ?_
          obtain rfl := Option.some.inj h
          exact retP1 (Ψ := Φ) [0] (by decide) rfl (RV.tmp rfl) rfl (fun w hΦ => hΦ.1) ⟨(), rfl, rfl, rfl⟩
        · replace hb12 := Bool.eq_false_iff.2 hb12
          replace h := iteF hb12 h
          subst hb12
          refine CW.reg ?_
          refine RO.val (Wt.no rfl) rfl (PV.fieldAddr Try.fa28_0 rfl) ?_
          refine RO.val (Wt.no rfl) rfl (PV.loadM (l := [.int .i64 a1.Version]) 1 Try.TF3 rfl rfl (cut_Plan_Version _ _) rfl (by decide)) ?_
          refine RO.val (Wt.no rfl) rfl (PV.geq rfl rfl) ?_
          refine RO.val (Wt.no rfl) rfl ((PV.move rfl).to (congrArg Value.bool hb8)) ?_
          refine RO.val (Wt.yes rfl rfl rfl rfl) rfl (PV.fieldAddr Try.fa28_0 rfl) ?_
          refine RO.val (Wt.yes rfl rfl rfl rfl) rfl (PV.loadM (l := [.int .i64 a1.Version]) 1 Try.TF3 rfl rfl (cut_Plan_Version _ _) rfl (by decide)) ?_
          refine RO.val (Wt.yes rfl rfl rfl rfl) rfl (PV.leq rfl rfl) ?_
          refine RO.val (Wt.no rfl) rfl (PV.pickT rfl rfl) ?_
          refine RO.val (Wt.no rfl) rfl ((PV.move rfl).to (congrArg Value.bool hb9)) ?_
          refine RO.val (Wt.yes rfl rfl rfl rfl) rfl (PV.fieldAddr Try.fa28_1 rfl) ?_
          refine RO.val (Wt.yes rfl rfl rfl rfl) rfl (PV.loadM (l := [.int .i64 a1.By]) 1 Try.TF3 rfl rfl (cut_Plan_By _ _) rfl (by decide)) ?_
          refine RO.eff (Wt.yes rfl rfl rfl rfl) rfl (EV.call (K := _) Try.call159 rfl (SpecK.callV (W_plan_node a1.By hx11))) ?_
          rintro _ _ _ ⟨_, rfl, rfl, rfl⟩
          refine RO.val (Wt.no rfl) rfl (PV.pickT rfl rfl) ?_
          refine RO.val (Wt.no rfl) rfl (PV.move rfl) ?_
          refine RO.skip (Un.mk rfl rfl rfl rfl) rfl ?_
          refine RO.skip (Un.mk rfl rfl rfl rfl) rfl ?_
          refine RO.skip (Un.mk rfl rfl rfl rfl) rfl ?_
          refine RO.val (Wt.no rfl) rfl (PV.pickF rfl rfl) ?_
          refine RO.val (Wt.no rfl) rfl (PV.assign rfl) ?_
          refine RO.nil ?_
          refine CW.ret ?_
          obtain rfl := Option.some.inj h
          exact retP1 (Ψ := Φ) [0] (by decide) rfl (RV.tmp rfl) rfl (fun w hΦ => hΦ.1) ⟨(), rfl, rfl, rfl⟩
      · replace hb9 := Bool.eq_false_iff.2 hb9
        replace h := iteF hb9 h
        refine CW.reg ?_
        refine RO.val (Wt.no rfl) rfl (PV.fieldAddr Try.fa28_0 rfl) ?_
        refine RO.val (Wt.no rfl) rfl (PV.loadM (l := [.int .i64 a1.Version]) 1 Try.TF3 rfl rfl (cut_Plan_Version _ _) rfl (by decide)) ?_
        refine RO.val (Wt.no rfl) rfl (PV.geq rfl rfl) ?_
        refine RO.val (Wt.no rfl) rfl ((PV.move rfl).to (congrArg Value.bool hb8)) ?_
        refine RO.val (Wt.yes rfl rfl rfl rfl) rfl (PV.fieldAddr Try.fa28_0 rfl) ?_
        refine RO.val (Wt.yes rfl rfl rfl rfl) rfl (PV.loadM (l := [.int .i64 a1.Version]) 1 Try.TF3 rfl rfl (cut_Plan_Version _ _) rfl (by decide)) ?_
        refine RO.val (Wt.yes rfl rfl rfl rfl) rfl (PV.leq rfl rfl) ?_
        refine RO.val (Wt.no rfl) rfl (PV.pickT rfl rfl) ?_
        refine RO.val (Wt.no rfl) rfl ((PV.move rfl).to (congrArg Value.bool hb9)) ?_
        refine RO.skip (Un.mk rfl rfl rfl rfl) rfl ?_
        refine RO.skip (Un.mk rfl rfl rfl rfl) rfl ?_
        refine RO.skip (Un.mk rfl rfl rfl rfl) rfl ?_
        refine RO.val (Wt.no rfl) rfl (PV.pickF rfl rfl) ?_
        refine RO.val (Wt.no rfl) rfl (PV.move rfl) ?_
        refine RO.skip (Un.mk rfl rfl rfl rfl) rfl ?_
        refine RO.skip (Un.mk rfl rfl rfl rfl) rfl ?_
        refine RO.skip (Un.mk rfl rfl rfl rfl) rfl ?_
        refine RO.val (Wt.no rfl) rfl (PV.pickF rfl rfl) ?_
        refine RO.val (Wt.no rfl) rfl (PV.assign rfl) ?_
        refine RO.nil ?_
        refine CW.ret ?_
        obtain rfl := Option.some.inj h
        exact retP1 (Ψ := Φ) [0] (by decide) rfl (RV.tmp rfl) rfl (fun w hΦ => hΦ.1) ⟨(), rfl, rfl, rfl⟩
    · replace hb8 := Bool.eq_false_iff.2 hb8
      replace h := iteF hb8 h
      refine CW.reg ?_
      refine RO.val (Wt.no rfl) rfl (PV.fieldAddr Try.fa28_0 rfl) ?_
      refine RO.val (Wt.no rfl) rfl (PV.loadM (l := [.int .i64 a1.Version]) 1 Try.TF3 rfl rfl (cut_Plan_Version _ _) rfl (by decide)) ?_
      refine RO.val (Wt.no rfl) rfl (PV.geq rfl rfl) ?_
      refine RO.val (Wt.no rfl) rfl ((PV.move rfl).to (congrArg Value.bool hb8)) ?_
      refine RO.skip (Un.mk rfl rfl rfl rfl) rfl ?_
      refine RO.skip (Un.mk rfl rfl rfl rfl) rfl ?_
      refine RO.skip (Un.mk rfl rfl rfl rfl) rfl ?_
      refine RO.val (Wt.no rfl) rfl (PV.pickF rfl rfl) ?_
      refine RO.val (Wt.no rfl) rfl (PV.move rfl) ?_
      refine RO.skip (Un.mk rfl rfl rfl rfl) rfl ?_
      refine RO.skip (Un.mk rfl rfl rfl rfl) rfl ?_
      refine RO.skip (Un.mk rfl rfl rfl rfl) rfl ?_
      refine RO.val (Wt.no rfl) rfl (PV.pickF rfl rfl) ?_
      refine RO.val (Wt.no rfl) rfl (PV.move rfl) ?_
      refine RO.skip (Un.mk rfl rfl rfl rfl) rfl ?_
      refine RO.skip (Un.mk rfl rfl rfl rfl) rfl ?_
      refine RO.skip (Un.mk rfl rfl rfl rfl) rfl ?_
      refine RO.val (Wt.no rfl) rfl (PV.pickF rfl rfl) ?_
      refine RO.val (Wt.no rfl) rfl (PV.assign rfl) ?_
      refine RO.nil ?_
      refine CW.ret ?_
      obtain rfl := Option.some.inj h
      exact retP1 (Ψ := Φ) [0] (by decide) rfl (RV.tmp rfl) rfl (fun w hΦ => hΦ.1) ⟨(), rfl, rfl, rfl⟩

theorem W_entry_node {D : Mem} {Φ : World → Prop} (a1 : Int) {r : Bool} (h : S.entry_node a1 = some r) :
    SpecK Try.prog 158 [.int .i64 a1] D [] Φ (fun x : Unit => .bool r) (fun x => []) (fun x => []) (fun _ => Φ) := by
  refine enterK Try.func158 rfl Try.ntmps158 rfl ?_
  unfold S.entry_node at h
  refine CW.reg ?_
  refine RO.val (Wt.no rfl) rfl (PV.assign rfl) ?_
  refine RO.nil ?_
  by_cases hb1 : (decide (0 ≤ a1)) = true
  · replace h := iteT hb1 h
    refine CW.reg ?_
    refine RO.val (Wt.no rfl) rfl (PV.move rfl) ?_
    refine RO.val (Wt.no rfl) rfl (PV.geq rfl rfl) ?_
    refine RO.val (Wt.no rfl) rfl ((PV.move rfl).to (congrArg Value.bool hb1)) ?_
    refine RO.val (Wt.yes rfl rfl rfl rfl) rfl (PV.move rfl) ?_
    refine RO.val (Wt.yes rfl rfl rfl rfl) rfl (PV.lss rfl rfl) ?_
    refine RO.val (Wt.no rfl) rfl (PV.pickT rfl rfl) ?_
    refine RO.val (Wt.no rfl) rfl (PV.assign rfl) ?_
    refine RO.nil ?_
    refine CW.ret ?_
    obtain rfl := Option.some.inj h
    exact retP1 (Ψ := Φ) [0] (by decide) rfl (RV.tmp rfl) rfl (fun w hΦ => hΦ.1) ⟨(), rfl, rfl, rfl⟩
  · replace hb1 := Bool.eq_false_iff.2 hb1
    replace h := iteF hb1 h
    refine CW.reg ?_
    refine RO.val (Wt.no rfl) rfl (PV.move rfl) ?_
    refine RO.val (Wt.no rfl) rfl (PV.geq rfl rfl) ?_
    refine RO.val (Wt.no rfl) rfl ((PV.move rfl).to (congrArg Value.bool hb1)) ?_
    refine RO.skip (Un.mk rfl rfl rfl rfl) rfl ?_
    refine RO.skip (Un.mk rfl rfl rfl rfl) rfl ?_
    refine RO.val (Wt.no rfl) rfl (PV.pickF rfl rfl) ?_
    refine RO.val (Wt.no rfl) rfl (PV.assign rfl) ?_
    refine RO.nil ?_
    refine CW.ret ?_
    obtain rfl := Option.some.inj h
    exact retP1 (Ψ := Φ) [0] (by decide) rfl (RV.tmp rfl) rfl (fun w hΦ => hΦ.1) ⟨(), rfl, rfl, rfl⟩

theorem W_entry_May {D : Mem} {Φ : World → Prop} (a1 : S.Entry) {r : Bool} (h : S.entry_May a1 = some r) :
    SpecK Try.prog 142 [.agg (S.t_Entry.enc a1 (hf [])).toArray] D [] Φ (fun x : Unit => .bool r) (fun x => []) (fun x => []) (fun _ => Φ) := by
  refine enterK Try.func142 rfl Try.ntmps142 rfl ?_
  unfold S.entry_May at h
  refine CW.reg ?_
  refine RO.eff (Wt.no rfl) rfl (EV.boxB (B := S.t_Entry.enc a1 (hf [])) rfl rfl) ?_
  rintro _ _ _ ⟨g1, rfl, rfl, rfl⟩
  refine RO.val (Wt.no rfl) rfl (PV.assign rfl) ?_
  refine RO.nil ?_
  by_cases hb2 : (decide (a1 = S.Entry.z)) = true
  · replace h := iteT hb2 h
    refine CW.reg ?_
    refine RO.val (Wt.no rfl) rfl (PV.loadM (l := S.t_Entry.enc a1 (hf [])) 1 Try.TF30 rfl rfl (cut_self (S.t_Entry.len _ _)) rfl (by decide)) ?_
    refine RO.val (Wt.no rfl) rfl (PV.buildS (B := S.t_Entry.enc S.Entry.z (hf [])) (xs := []) [] Try.BT30 rfl rfl rfl (by simp) trivial rfl) ?_
    refine RO.val (Wt.no rfl) rfl (PV.eqlAgg Try.eqGuardType30 rfl rfl Try.eqq30) ?_
    refine RO.val (Wt.no rfl) rfl ((PV.move rfl).to (congrArg Value.bool hb2)) ?_
    refine RO.skip (Un.mk rfl rfl rfl rfl) rfl ?_
    refine RO.skip (Un.mk rfl rfl rfl rfl) rfl ?_
    refine RO.skip (Un.mk rfl rfl rfl rfl) rfl ?_
    refine RO.skip (Un.mk rfl rfl rfl rfl) rfl ?_
    refine RO.skip (Un.undef rfl rfl rfl rfl) rfl ?_
    refine RO.skip (Un.undef rfl rfl rfl rfl) rfl ?_
    refine RO.skip (Un.undef rfl rfl rfl rfl) rfl ?_
    refine RO.skip (Un.mk rfl rfl rfl rfl) rfl ?_
    refine RO.skip (Un.mk rfl rfl rfl rfl) rfl ?_
    refine RO.skip (Un.undef rfl rfl rfl rfl) rfl ?_
    refine RO.skip (Un.undef rfl rfl rfl rfl) rfl ?_
    refine RO.skip (Un.undef rfl rfl rfl rfl) rfl ?_
    refine RO.skip (Un.mk rfl rfl rfl rfl) rfl ?_
    refine RO.val (Wt.no rfl) rfl (PV.pickT rfl rfl) ?_
    refine RO.val (Wt.no rfl) rfl (PV.assign rfl) ?_
    refine RO.nil ?_
    refine CW.ret ?_
    obtain rfl := Option.some.inj h
    exact retP1 (Ψ := Φ) [0] (by decide) rfl (RV.tmp rfl) rfl (fun w hΦ => hΦ.1) ⟨(), rfl, rfl, rfl⟩
  · replace hb2 := Bool.eq_false_iff.2 hb2
    replace h := iteF hb2 h
    by_cases hb3 : (decide (1 ≤ a1.Epoch)) = true
    · replace h := iteT hb3 h
      by_cases hb4 : (decide (a1.Epoch ≤ 1000000)) = true
      · replace h := iteT hb4 h
        replace h := bindS h
        obtain ⟨v5, hx6, h⟩ := h
        refine CW.reg ?_
        refine RO.val (Wt.no rfl) rfl (PV.loadM (l := S.t_Entry.enc a1 (hf [])) 1 Try.TF30 rfl rfl (cut_self (S.t_Entry.len _ _)) rfl (by decide)) ?_
        refine RO.val (Wt.no rfl) rfl (PV.buildS (B := S.t_Entry.enc S.Entry.z (hf [])) (xs := []) [] Try.BT30 rfl rfl rfl (by simp) trivial rfl) ?_
        refine RO.val (Wt.no rfl) rfl (PV.eqlAgg Try.eqGuardType30 rfl rfl Try.eqq30) ?_
        refine RO.val (Wt.no rfl) rfl ((PV.move rfl).to (congrArg Value.bool hb2)) ?_
        refine RO.val (Wt.yes rfl rfl rfl rfl) rfl (PV.fieldAddr Try.fa30_0 rfl) ?_
        refine RO.val (Wt.yes rfl rfl rfl rfl) rfl (PV.loadM (l := [.int .i64 a1.Epoch]) 1 Try.TF3 rfl rfl (cut_Entry_Epoch _ _) rfl (by decide)) ?_
        refine RO.val (Wt.yes rfl rfl rfl rfl) rfl (PV.geq rfl rfl) ?_
        refine RO.val (Wt.yes rfl rfl rfl rfl) rfl ((PV.move rfl).to (congrArg Value.bool hb3)) ?_
        refine RO.val (Wt.yes rfl rfl rfl rfl) rfl (PV.fieldAddr Try.fa30_0 rfl) ?_
        refine RO.val (Wt.yes rfl rfl rfl rfl) rfl (PV.loadM (l := [.int .i64 a1.Epoch]) 1 Try.TF3 rfl rfl (cut_Entry_Epoch _ _) rfl (by decide)) ?_
        refine RO.val (Wt.yes rfl rfl rfl rfl) rfl (PV.leq rfl rfl) ?_
        refine RO.val (Wt.yes rfl rfl rfl rfl) rfl (PV.pickT rfl rfl) ?_
        refine RO.val (Wt.yes rfl rfl rfl rfl) rfl ((PV.move rfl).to (congrArg Value.bool hb4)) ?_
        refine RO.val (Wt.yes rfl rfl rfl rfl) rfl (PV.fieldAddr Try.fa30_1 rfl) ?_
        refine RO.val (Wt.yes rfl rfl rfl rfl) rfl (PV.loadM (l := [.int .i64 a1.Owner]) 1 Try.TF3 rfl rfl (cut_Entry_Owner _ _) rfl (by decide)) ?_
        refine RO.eff (Wt.yes rfl rfl rfl rfl) rfl (EV.call (K := _) Try.call158 rfl (SpecK.callV (W_entry_node a1.Owner hx6))) ?_
        rintro _ _ _ ⟨_, rfl, rfl, rfl⟩
        refine RO.val (Wt.yes rfl rfl rfl rfl) rfl (PV.pickT rfl rfl) ?_
        refine RO.val (Wt.no rfl) rfl (PV.pickF rfl rfl) ?_
        refine RO.val (Wt.no rfl) rfl (PV.assign rfl) ?_
        refine RO.nil ?_
        refine CW.ret ?_
        obtain rfl := Option.some.inj h
        exact retP1 (Ψ := Φ) [0] (by decide) rfl (RV.tmp rfl) rfl (fun w hΦ => hΦ.1) ⟨(), rfl, rfl, rfl⟩
      · replace hb4 := Bool.eq_false_iff.2 hb4
        replace h := iteF hb4 h
        refine CW.reg ?_
        refine RO.val (Wt.no rfl) rfl (PV.loadM (l := S.t_Entry.enc a1 (hf [])) 1 Try.TF30 rfl rfl (cut_self (S.t_Entry.len _ _)) rfl (by decide)) ?_
        refine RO.val (Wt.no rfl) rfl (PV.buildS (B := S.t_Entry.enc S.Entry.z (hf [])) (xs := []) [] Try.BT30 rfl rfl rfl (by simp) trivial rfl) ?_
        refine RO.val (Wt.no rfl) rfl (PV.eqlAgg Try.eqGuardType30 rfl rfl Try.eqq30) ?_
        refine RO.val (Wt.no rfl) rfl ((PV.move rfl).to (congrArg Value.bool hb2)) ?_
        refine RO.val (Wt.yes rfl rfl rfl rfl) rfl (PV.fieldAddr Try.fa30_0 rfl) ?_
        refine RO.val (Wt.yes rfl rfl rfl rfl) rfl (PV.loadM (l := [.int .i64 a1.Epoch]) 1 Try.TF3 rfl rfl (cut_Entry_Epoch _ _) rfl (by decide)) ?_
        refine RO.val (Wt.yes rfl rfl rfl rfl) rfl (PV.geq rfl rfl) ?_
        refine RO.val (Wt.yes rfl rfl rfl rfl) rfl ((PV.move rfl).to (congrArg Value.bool hb3)) ?_
        refine RO.val (Wt.yes rfl rfl rfl rfl) rfl (PV.fieldAddr Try.fa30_0 rfl) ?_
        refine RO.val (Wt.yes rfl rfl rfl rfl) rfl (PV.loadM (l := [.int .i64 a1.Epoch]) 1 Try.TF3 rfl rfl (cut_Entry_Epoch _ _) rfl (by decide)) ?_
        refine RO.val (Wt.yes rfl rfl rfl rfl) rfl (PV.leq rfl rfl) ?_
        refine RO.val (Wt.yes rfl rfl rfl rfl) rfl (PV.pickT rfl rfl) ?_
        refine RO.val (Wt.yes rfl rfl rfl rfl) rfl ((PV.move rfl).to (congrArg Value.bool hb4)) ?_
        refine RO.skip (Un.mk rfl rfl rfl rfl) rfl ?_
        refine RO.skip (Un.mk rfl rfl rfl rfl) rfl ?_
        refine RO.skip (Un.mk rfl rfl rfl rfl) rfl ?_
        refine RO.val (Wt.yes rfl rfl rfl rfl) rfl (PV.pickF rfl rfl) ?_
        refine RO.val (Wt.no rfl) rfl (PV.pickF rfl rfl) ?_
        refine RO.val (Wt.no rfl) rfl (PV.assign rfl) ?_
        refine RO.nil ?_
        refine CW.ret ?_
        obtain rfl := Option.some.inj h
        exact retP1 (Ψ := Φ) [0] (by decide) rfl (RV.tmp rfl) rfl (fun w hΦ => hΦ.1) ⟨(), rfl, rfl, rfl⟩
    · replace hb3 := Bool.eq_false_iff.2 hb3
      replace h := iteF hb3 h
      refine CW.reg ?_
      refine RO.val (Wt.no rfl) rfl (PV.loadM (l := S.t_Entry.enc a1 (hf [])) 1 Try.TF30 rfl rfl (cut_self (S.t_Entry.len _ _)) rfl (by decide)) ?_
      refine RO.val (Wt.no rfl) rfl (PV.buildS (B := S.t_Entry.enc S.Entry.z (hf [])) (xs := []) [] Try.BT30 rfl rfl rfl (by simp) trivial rfl) ?_
      refine RO.val (Wt.no rfl) rfl (PV.eqlAgg Try.eqGuardType30 rfl rfl Try.eqq30) ?_
      refine RO.val (Wt.no rfl) rfl ((PV.move rfl).to (congrArg Value.bool hb2)) ?_
      refine RO.val (Wt.yes rfl rfl rfl rfl) rfl (PV.fieldAddr Try.fa30_0 rfl) ?_
      refine RO.val (Wt.yes rfl rfl rfl rfl) rfl (PV.loadM (l := [.int .i64 a1.Epoch]) 1 Try.TF3 rfl rfl (cut_Entry_Epoch _ _) rfl (by decide)) ?_
      refine RO.val (Wt.yes rfl rfl rfl rfl) rfl (PV.geq rfl rfl) ?_
      refine RO.val (Wt.yes rfl rfl rfl rfl) rfl ((PV.move rfl).to (congrArg Value.bool hb3)) ?_
      refine RO.skip (Un.mk rfl rfl rfl rfl) rfl ?_
      refine RO.skip (Un.mk rfl rfl rfl rfl) rfl ?_
      refine RO.skip (Un.mk rfl rfl rfl rfl) rfl ?_
      refine RO.val (Wt.yes rfl rfl rfl rfl) rfl (PV.pickF rfl rfl) ?_
      refine RO.val (Wt.yes rfl rfl rfl rfl) rfl (PV.move rfl) ?_
      refine RO.skip (Un.mk rfl rfl rfl rfl) rfl ?_
      refine RO.skip (Un.mk rfl rfl rfl rfl) rfl ?_
      refine RO.skip (Un.mk rfl rfl rfl rfl) rfl ?_
      refine RO.val (Wt.yes rfl rfl rfl rfl) rfl (PV.pickF rfl rfl) ?_
      refine RO.val (Wt.no rfl) rfl (PV.pickF rfl rfl) ?_
      refine RO.val (Wt.no rfl) rfl (PV.assign rfl) ?_
      refine RO.nil ?_
      refine CW.ret ?_
      obtain rfl := Option.some.inj h
      exact retP1 (Ψ := Φ) [0] (by decide) rfl (RV.tmp rfl) rfl (fun w hΦ => hΦ.1) ⟨(), rfl, rfl, rfl⟩

theorem W_ring_May_1 {D : Mem} {Φ : World → Prop} (a1 : S.Entry) (ga2_0 : Nat) {r : Bool} (h : S.ring_May_1 a1 = some r) :
    SpecK Try.prog 145 [.agg (S.t_Entry.enc a1 (hf [])).toArray, .pointer (pq ga2_0).a] D [.blk ga2_0 [.func (.func 142) #[] #[]]] Φ (fun x : Unit => .bool r) (fun x => [.blk ga2_0 [.func (.func 142) #[] #[]]]) (fun x => []) (fun _ => Φ) := by
  refine enterK Try.func145 rfl Try.ntmps145 rfl ?_
  unfold S.ring_May_1 at h
  refine CW.reg ?_
  refine RO.eff (Wt.no rfl) rfl (EV.boxB (B := S.t_Entry.enc a1 (hf [])) rfl rfl) ?_
  rintro _ _ _ ⟨g1, rfl, rfl, rfl⟩
  refine RO.val (Wt.no rfl) rfl (PV.assign rfl) ?_
  refine RO.nil ?_
  replace h := bindS h
  obtain ⟨v2, hx3, h⟩ := h
  refine CW.reg ?_
  refine RO.val (Wt.no rfl) rfl (PV.loadM (l := [.func (.func 142) #[] #[]]) 1 Try.TF187 rfl rfl rfl rfl (by decide)) ?_
  refine RO.val (Wt.no rfl) rfl (PV.loadM (l := S.t_Entry.enc a1 (hf [])) 2 Try.TF30 rfl rfl (cut_self (S.t_Entry.len _ _)) rfl (by decide)) ?_
  refine RO.eff (Wt.no rfl) rfl (EV.callV2 (K := _) (pre := []) (caps := []) Try.call142 rfl rfl (SpecK.callV (W_entry_May a1 hx3))) ?_
  rintro _ _ _ ⟨_, rfl, rfl, rfl⟩
  refine RO.val (Wt.no rfl) rfl (PV.not rfl) ?_
  refine RO.val (Wt.no rfl) rfl (PV.assign rfl) ?_
  refine RO.nil ?_
  refine CW.ret ?_
  obtain rfl := Option.some.inj h
  exact retP1 (Ψ := Φ) [0, 1] (by decide) rfl (RV.tmp rfl) rfl (fun w hΦ => hΦ.1) ⟨(), rfl, rfl, rfl⟩

theorem W_slices_IndexFunc_api_Entry_api_Entry_ring_May_1 {D : Mem} {Φ : World → Prop} (a1 : List S.Entry) (ga3_0 : Nat) (b1_0 : Hd) {r : Int} (h : S.slices_IndexFunc_api_Entry_api_Entry_ring_May_1 a1 = some r) (hR : ∀ w, MemOk D w → Φ w → (slR S.t_Entry w a1 b1_0)) :
    SpecK Try.prog 161 [.slice b1_0.a a1.length b1_0.cap, .func (.func 145) #[] #[.pointer (pq ga3_0).a]] D [.blk ga3_0 [.func (.func 142) #[] #[]]] Φ (fun x : Unit => .int .i64 r) (fun x => [.blk ga3_0 [.func (.func 142) #[] #[]]]) (fun x => []) (fun _ => Φ) := by
  refine enterK Try.func161 rfl Try.ntmps161 rfl ?_
  unfold S.slices_IndexFunc_api_Entry_api_Entry_ring_May_1 at h
  refine CW.reg ?_
  refine RO.val (Wt.no rfl) rfl (PV.assign rfl) ?_
  refine RO.nil ?_
  replace h := andThen_some h
  obtain ⟨e3, h, hk2⟩ := h
  refine CW.meet (X := Unit) (fun x => [(4, .int .i64 0)]) (fun x => [frame D, .blk ga3_0 [.func (.func 142) #[] #[]]]) (fun x w => (Φ w ∧ True)) (fun x => S.slices_IndexFunc_api_Entry_api_Entry_ring_May_1_j2 = some r) ?_ ?_
  · skip
    refine CW.reg ?_
    refine RO.val (Wt.no rfl) rfl (PV.move rfl) ?_
    refine RO.val (Wt.no rfl) rfl (PV.lenS Try.underlying190 rfl) ?_
    refine RO.val (Wt.no rfl) rfl (PV.move rfl) ?_
    refine RO.nil ?_
    refine CW.block ?_
    refine CW.loopE (X := Nat × Int) (fun x => [(0, .slice b1_0.a a1.length b1_0.cap), (1, .func (.func 145) #[] #[.pointer (pq ga3_0).a]), (4, .int .i64 0), (7, .int .i64 (a1.length : Int)), (8, .int .i64 x.2)]) (fun x => [frame D, .blk ga3_0 [.func (.func 142) #[] #[]]]) (fun x w => (Φ w ∧ True)) (fun x => loopN (S.slices_IndexFunc_api_Entry_api_Entry_ring_May_1_l3 a1) x.1 x.2 = some e3) (fun x => x.1) (FUEL, 0) h (by exact ⟨rfl, rfl, rfl, rfl, rfl, trivial⟩) rfl (fun w hΦ => hΦ) ?_
    rintro ⟨n11', v8⟩ hI9
    try dsimp only at hI9 ⊢
    obtain ⟨n11, y10, rfl, h, hk12⟩ := loopN_some hI9
    unfold S.slices_IndexFunc_api_Entry_api_Entry_ring_May_1_l3 at h
    try dsimp only at h
    refine CW.reg ?_
    refine RO.val (Wt.no rfl) rfl (PV.lss rfl rfl) ?_
    refine RO.nil ?_
    refine CW.seq ?_
    refine CW.cond rfl (fun hb13 => ?_) (fun hb13 => ?_)
    · replace h := iteT hb13 h
      refine CW.skip ?_
      refine QC.then_n ?_
      refine CW.seq ?_
      refine CW.block ?_
      refine CW.reg ?_
      refine RO.val (Wt.no rfl) rfl (PV.move rfl) ?_
      refine RO.val (Wt.no rfl) rfl (PV.assign rfl) ?_
      refine RO.nil ?_
      replace h := bindS h
      obtain ⟨v14, hx15, h⟩ := h
      replace h := bindS h
      obtain ⟨v16, hx17, h⟩ := h
      refine CW.reg ?_
      refine RO.val (Wt.no rfl) rfl (PV.move rfl) ?_
      refine RO.val (Wt.no rfl) rfl (PV.move rfl) ?_
      refine RO.val (Wt.no rfl) rfl (PV.move rfl) ?_
      refine RO.val (Wt.no rfl) rfl (PV.idxQ (t := S.t_Entry) (l := a1) (q := b1_0) Try.underlying190 Try.sizeOf30 (fun w hm hΦ => (hR w (hm.frameAt (i := 0) rfl) (hΦ.1))) rfl rfl hx15) ?_
      refine RO.val (Wt.no rfl) rfl (PV.loadQ (off := 0) (cs := S.t_Entry.enc v14 (hf [])) (t := S.t_Entry) (l := a1) (q := b1_0) Try.TF30 (fun w hm hΦ => (hR w (hm.frameAt (i := 0) rfl) (hΦ.1))) hx15 rfl rfl rfl (cut_self (S.t_Entry.len _ _)) rfl (by decide)) ?_
      refine RO.eff (Wt.no rfl) rfl (EV.callV2 (K := _) (pre := []) (caps := [.pointer (pq ga3_0).a]) Try.call145 rfl rfl (SpecK.call [1] (fun x : Unit => [frame D, .blk ga3_0 [.func (.func 142) #[] #[]]]) (Outs.cons rfl Outs.nil) (fun _ => (Outs.cons rfl Outs.nil)) (W_ring_May_1 v14 ga3_0 hx17))) ?_
      rintro _ _ _ ⟨_, rfl, rfl, rfl⟩
      refine RO.nil ?_
      refine CW.cond rfl (fun hb18 => ?_) (fun hb18 => ?_)
      · replace h := iteT hb18 h
        subst hb18
        refine CW.reg ?_
        refine RO.val (Wt.no rfl) rfl (PV.move rfl) ?_
        refine RO.val (Wt.no rfl) rfl (PV.assign rfl) ?_
        refine RO.nil ?_
        refine CW.ret ?_
        refine QC.blk_r ?_
        refine QC.then_r ?_
        refine QC.then_r ?_
        refine QC.blk_r ?_
        refine QC.then_r ?_
        obtain rfl := Option.some.inj h
        obtain rfl := nextL_inr hk12
        obtain rfl := afterS_inr hk2
        exact retP1 (Ψ := Φ) [0, 1] (by decide) rfl (RV.tmp rfl) rfl (fun w hΦ => hΦ.1) ⟨(), rfl, rfl, rfl⟩
      · replace h := iteF hb18 h
        subst hb18
        refine CW.skip ?_
        refine QC.blk_n ?_
        refine QC.then_n ?_
        refine CW.region ?_
        refine RO.val (Wt.no rfl) rfl (PV.addW rfl rfl) ?_
        refine RO.val (Wt.no rfl) rfl (PV.move rfl) ?_
        refine RO.nil ?_
        obtain rfl := Option.some.inj h
        refine QC.roundP (n11, (w64 (v8 + 1))) (nextL_inl hk12) (by exact Nat.lt_succ_self _) [0, 1] (by decide) (by exact ⟨rfl, rfl, rfl, rfl, rfl, trivial⟩) rfl (fun w hΦ => hΦ)
    · replace h := iteF hb13 h
      refine CW.exit ?_
      refine QC.then_x ?_
      refine QC.then_x ?_
      refine QC.blk_x ?_
      obtain rfl := Option.some.inj h
      obtain rfl := nextL_inr hk12
      refine QC.meetP () (afterS_inl hk2) [0, 1] (by decide) (by exact ⟨rfl, trivial⟩) rfl (fun w hΦ => hΦ)
  · rintro ⟨⟩ h
    try dsimp only at h ⊢
    unfold S.slices_IndexFunc_api_Entry_api_Entry_ring_May_1_j2 at h
    refine CW.reg ?_
    refine RO.val (Wt.no rfl) rfl (PV.assign rfl) ?_
    refine RO.nil ?_
    refine CW.ret ?_
    obtain rfl := Option.some.inj h
    exact retP1 (Ψ := Φ) [0, 1] (by decide) rfl (RV.tmp rfl) rfl (fun w hΦ => hΦ.1) ⟨(), rfl, rfl, rfl⟩

theorem W_slices_ContainsFunc_api_Entry_api_Entry_ring_May_1 {D : Mem} {Φ : World → Prop} (a1 : List S.Entry) (ga3_0 : Nat) (b1_0 : Hd) {r : Bool} (h : S.slices_ContainsFunc_api_Entry_api_Entry_ring_May_1 a1 = some r) (hR : ∀ w, MemOk D w → Φ w → (slR S.t_Entry w a1 b1_0)) :
    SpecK Try.prog 144 [.slice b1_0.a a1.length b1_0.cap, .func (.func 145) #[] #[.pointer (pq ga3_0).a]] D [.blk ga3_0 [.func (.func 142) #[] #[]]] Φ (fun x : Unit => .bool r) (fun x => [.blk ga3_0 [.func (.func 142) #[] #[]]]) (fun x => []) (fun _ => Φ) := by
  refine enterK Try.func144 rfl Try.ntmps144 rfl ?_
  unfold S.slices_ContainsFunc_api_Entry_api_Entry_ring_May_1 at h
  refine CW.reg ?_
  refine RO.val (Wt.no rfl) rfl (PV.assign rfl) ?_
  refine RO.nil ?_
  replace h := bindS h
  obtain ⟨v1, hx2, h⟩ := h
  refine CW.reg ?_
  refine RO.val (Wt.no rfl) rfl (PV.move rfl) ?_
  refine RO.val (Wt.no rfl) rfl (PV.move rfl) ?_
  refine RO.eff (Wt.no rfl) rfl (EV.call (K := _) Try.call161 rfl (SpecK.call [1] (fun x : Unit => [frame D, .blk ga3_0 [.func (.func 142) #[] #[]]]) (Outs.cons rfl Outs.nil) (fun _ => (Outs.cons rfl Outs.nil)) (W_slices_IndexFunc_api_Entry_api_Entry_ring_May_1 a1 ga3_0 b1_0 hx2 (fun w hm hΦ => (hR w (hm.frameAt (i := 0) rfl) (hΦ.1)))))) ?_
  rintro _ _ _ ⟨_, rfl, rfl, rfl⟩
  refine RO.val (Wt.no rfl) rfl (PV.geq rfl rfl) ?_
  refine RO.val (Wt.no rfl) rfl (PV.assign rfl) ?_
  refine RO.nil ?_
  refine CW.ret ?_
  obtain rfl := Option.some.inj h
  exact retP1 (Ψ := Φ) [0, 1] (by decide) rfl (RV.tmp rfl) rfl (fun w hΦ => hΦ.1) ⟨(), rfl, rfl, rfl⟩

theorem W_ring_May {D : Mem} {Φ : World → Prop} (a1 : S.Ring) (b1_0 : Hd) {r : Bool} (h : S.ring_May a1 = some r) (hR : ∀ w, MemOk D w → Φ w → (slR (tInt .i64) w a1.Plan.Targets b1_0)) :
    SpecK Try.prog 115 [.agg (S.t_Ring.enc a1 (hf [b1_0])).toArray] D [] Φ (fun x : Unit => .bool r) (fun x => []) (fun x => []) (fun _ => Φ) := by
  refine enterK Try.func115 rfl Try.ntmps115 rfl ?_
  unfold S.ring_May at h
  refine CW.reg ?_
  refine RO.eff (Wt.no rfl) rfl (EV.boxB (B := S.t_Ring.enc a1 (hf [b1_0])) rfl rfl) ?_
  rintro _ _ _ ⟨g1, rfl, rfl, rfl⟩
  refine RO.val (Wt.no rfl) rfl (PV.assign rfl) ?_
  refine RO.nil ?_
  replace h := andThen_some h
  obtain ⟨e10, h, hk9⟩ := h
  refine CW.meet (X := Unit) (fun x => [(1, .pointer (some ⟨g1, 0, none⟩)), (2, .bool false)]) (fun x => [frame D, .blk g1 (S.t_Ring.enc a1 (hf [b1_0]))]) (fun x w => (Φ w ∧ True)) (fun x => S.ring_May_j2 a1 = some r) ?_ ?_
  · skip
    refine CW.reg ?_
    refine RO.val (Wt.no rfl) rfl (PV.fieldAddr Try.fa33_0 rfl) ?_
    refine RO.val (Wt.no rfl) rfl (PV.loadM (l := S.t_A8_int.enc a1.Status (hf [])) 1 Try.TF25 rfl rfl (cut_Ring_Status _ _) rfl (by decide)) ?_
    refine RO.val (Wt.no rfl) rfl (PV.move rfl) ?_
    refine RO.nil ?_
    refine CW.block ?_
    refine CW.loopE (X := Nat × Int) (fun x => [(1, .pointer (some ⟨g1, 0, none⟩)), (2, .bool false), (7, .agg (S.t_A8_int.enc a1.Status (hf [])).toArray), (8, .int .i64 x.2)]) (fun x => [frame D, .blk g1 (S.t_Ring.enc a1 (hf [b1_0]))]) (fun x w => (Φ w ∧ True)) (fun x => loopN (S.ring_May_l3 a1) x.1 x.2 = some e10) (fun x => x.1) (FUEL, 0) h (by exact ⟨rfl, rfl, rfl, rfl, trivial⟩) rfl (fun w hΦ => hΦ) ?_
    rintro ⟨n18', v15⟩ hI16
    try dsimp only at hI16 ⊢
    obtain ⟨n18, y17, rfl, h, hk19⟩ := loopN_some hI16
    unfold S.ring_May_l3 at h
    try dsimp only at h
    refine CW.reg ?_
    refine RO.val (Wt.no rfl) rfl (PV.lss rfl rfl) ?_
    refine RO.nil ?_
    refine CW.seq ?_
    refine CW.cond rfl (fun hb20 => ?_) (fun hb20 => ?_)
    · replace h := iteT hb20 h
      refine CW.skip ?_
      refine QC.then_n ?_
      refine CW.seq ?_
      refine CW.block ?_
      replace h := bindS h
      obtain ⟨v21, hx22, h⟩ := h
      obtain ⟨hn23, hn24, he25⟩ := aget_some hx22
      refine CW.reg ?_
      refine RO.val (Wt.no rfl) rfl (PV.index (l := [.int .i64 v21]) Try.underlying25 Try.TF3 rfl rfl hn24 (by omega) (by rw [idx_A8_int _ _ _ hn23, he25]) rfl (by decide)) ?_
      refine RO.val (Wt.no rfl) rfl (PV.assign rfl) ?_
      refine RO.nil ?_
      by_cases hb26 : (decide (v21 < 0)) = true
      · replace h := iteT hb26 h
        refine CW.reg ?_
        refine RO.val (Wt.no rfl) rfl (PV.move rfl) ?_
        refine RO.val (Wt.no rfl) rfl (PV.lss rfl rfl) ?_
        refine RO.val (Wt.no rfl) rfl ((PV.move rfl).to (congrArg Value.bool hb26)) ?_
        refine RO.skip (Un.mk rfl rfl rfl rfl) rfl ?_
        refine RO.skip (Un.mk rfl rfl rfl rfl) rfl ?_
        refine RO.val (Wt.no rfl) rfl (PV.pickT rfl rfl) ?_
        refine RO.nil ?_
        refine CW.condT rfl ?_
        refine CW.reg ?_
        refine RO.val (Wt.no rfl) rfl (PV.assign rfl) ?_
        refine RO.nil ?_
        refine CW.ret ?_
        refine QC.blk_r ?_
        refine QC.then_r ?_
        refine QC.then_r ?_
        refine QC.blk_r ?_
        refine QC.then_r ?_
        obtain rfl := Option.some.inj h
        obtain rfl := nextL_inr hk19
        obtain rfl := afterS_inr hk9
        exact retP1 (Ψ := Φ) [0] (by decide) rfl (RV.tmp rfl) rfl (fun w hΦ => hΦ.1) ⟨(), rfl, rfl, rfl⟩
      · replace hb26 := Bool.eq_false_iff.2 hb26
        replace h := iteF hb26 h
        refine CW.reg ?_
        refine RO.val (Wt.no rfl) rfl (PV.move rfl) ?_
        refine RO.val (Wt.no rfl) rfl (PV.lss rfl rfl) ?_
        refine RO.val (Wt.no rfl) rfl ((PV.move rfl).to (congrArg Value.bool hb26)) ?_
        refine RO.val (Wt.yes rfl rfl rfl rfl) rfl (PV.move rfl) ?_
        refine RO.val (Wt.yes rfl rfl rfl rfl) rfl (PV.gtr rfl rfl) ?_
        refine RO.val (Wt.no rfl) rfl (PV.pickF rfl rfl) ?_
        refine RO.nil ?_
        refine CW.cond rfl (fun hb27 => ?_) (fun hb27 => ?_)
        · replace h := iteT hb27 h
          refine CW.reg ?_
          refine RO.val (Wt.no rfl) rfl (PV.assign rfl) ?_
          refine RO.nil ?_
          refine CW.ret ?_
          refine QC.blk_r ?_
          refine QC.then_r ?_
          refine QC.then_r ?_
          refine QC.blk_r ?_
          refine QC.then_r ?_
          obtain rfl := Option.some.inj h
          obtain rfl := nextL_inr hk19
          obtain rfl := afterS_inr hk9
          exact retP1 (Ψ := Φ) [0] (by decide) rfl (RV.tmp rfl) rfl (fun w hΦ => hΦ.1) ⟨(), rfl, rfl, rfl⟩
        · replace h := iteF hb27 h
          refine CW.skip ?_
          refine QC.blk_n ?_
          refine QC.then_n ?_
          refine CW.region ?_
          refine RO.val (Wt.no rfl) rfl (PV.addW rfl rfl) ?_
          refine RO.val (Wt.no rfl) rfl (PV.move rfl) ?_
          refine RO.nil ?_
          obtain rfl := Option.some.inj h
          refine QC.roundP (n18, (w64 (v15 + 1))) (nextL_inl hk19) (by exact Nat.lt_succ_self _) [0, 1] (by decide) (by exact ⟨rfl, rfl, rfl, rfl, trivial⟩) rfl (fun w hΦ => hΦ)
    · replace h := iteF hb20 h
      refine CW.exit ?_
      refine QC.then_x ?_
      refine QC.then_x ?_
      refine QC.blk_x ?_
      obtain rfl := Option.some.inj h
      obtain rfl := nextL_inr hk19
      refine QC.meetP () (afterS_inl hk9) [0, 1] (by decide) (by exact ⟨rfl, rfl, trivial⟩) rfl (fun w hΦ => hΦ)
  · rintro ⟨⟩ h
    try dsimp only at h ⊢
    unfold S.ring_May_j2 at h
    refine CW.reg ?_
    refine RO.eff (Wt.no rfl) rfl (EV.alloc Try.zeroValue187) ?_
    rintro _ _ _ ⟨g3, rfl, rfl, rfl⟩
    refine RO.eff (Wt.no rfl) rfl (EV.storeW (B := [.func (.func 142) #[] #[]]) 2 Try.TF187 rfl rfl rfl rfl rfl rfl rfl) ?_
    rintro _ _ _ ⟨rfl, rfl, rfl⟩
    refine RO.nil ?_
    replace h := bindS h
    obtain ⟨v4, hx5, h⟩ := h
    by_cases hb6 : v4 = true
    · replace h := iteT hb6 h
      subst hb6
      replace h := bindS h
      obtain ⟨v7, hx8, h⟩ := h
      refine CW.reg ?_
      refine RO.val (Wt.no rfl) rfl (PV.fieldAddr Try.fa33_1 rfl) ?_
      refine RO.val (Wt.no rfl) rfl (PV.loadM (l := S.t_Plan.enc a1.Plan (hf [b1_0])) 1 Try.TF28 rfl rfl (cut_Ring_Plan _ _) rfl (by decide)) ?_
      refine RO.eff (Wt.no rfl) rfl (EV.call (K := _) Try.call143 rfl (SpecK.callV (W_plan_May a1.Plan b1_0 hx5 (fun w hm hΦ => (hR w (hm.frameAt (i := 0) rfl) (hΦ.1)))))) ?_
      rintro _ _ _ ⟨_, rfl, rfl, rfl⟩
      refine RO.val (Wt.no rfl) rfl (PV.move rfl) ?_
      refine RO.val (Wt.yes rfl rfl rfl rfl) rfl (PV.fieldAddr Try.fa33_2 rfl) ?_
      refine RO.val (Wt.yes rfl rfl rfl rfl) rfl ((PV.sliceArr Try.underlying31 Try.sizeOf30 rfl (by decide)).to (v' := .slice (some ⟨g1, 0 + 11, none⟩) a1.Parts.toList.length 16) (by rw [Vector.length_toList])) ?_
      refine RO.val (Wt.yes rfl rfl rfl rfl) rfl (PV.makeFunc (xs := []) (ys := [.tmp 5]) rfl rfl) ?_
      refine RO.eff (Wt.yes rfl rfl rfl rfl) rfl (EV.call (K := _) Try.call144 rfl (SpecK.call [2] (fun x : Unit => [frame D, .blk g1 (S.t_Ring.enc a1 (hf [b1_0])), .blk g3 [.func (.func 142) #[] #[]]]) (Outs.cons rfl Outs.nil) (fun _ => (Outs.cons rfl Outs.nil)) (W_slices_ContainsFunc_api_Entry_api_Entry_ring_May_1 a1.Parts.toList g3 (Hd.mk (some ⟨g1, 0 + 11, none⟩) 16 (fun _ _ => Hd.z)) hx8 (fun w hm hΦ => (slR_arr hm (i := 1) rfl (fun n hn => cut_Ring_Parts_i _ _ n hn) (fun _ => trivial) (by decide)))))) ?_
      rintro _ _ _ ⟨_, rfl, rfl, rfl⟩
      refine RO.val (Wt.yes rfl rfl rfl rfl) rfl (PV.not rfl) ?_
      refine RO.val (Wt.no rfl) rfl (PV.pickT rfl rfl) ?_
      refine RO.val (Wt.no rfl) rfl (PV.assign rfl) ?_
      refine RO.nil ?_
      refine CW.ret ?_
      obtain rfl := Option.some.inj h
      exact retP1 (Ψ := Φ) [0] (by decide) rfl (RV.tmp rfl) rfl (fun w hΦ => hΦ.1) ⟨(), rfl, rfl, rfl⟩
    · replace hb6 := Bool.eq_false_iff.2 hb6
      replace h := iteF hb6 h
      subst hb6
      refine CW.reg ?_
      refine RO.val (Wt.no rfl) rfl (PV.fieldAddr Try.fa33_1 rfl) ?_
      refine RO.val (Wt.no rfl) rfl (PV.loadM (l := S.t_Plan.enc a1.Plan (hf [b1_0])) 1 Try.TF28 rfl rfl (cut_Ring_Plan _ _) rfl (by decide)) ?_
      refine RO.eff (Wt.no rfl) rfl (EV.call (K := _) Try.call143 rfl (SpecK.callV (W_plan_May a1.Plan b1_0 hx5 (fun w hm hΦ => (hR w (hm.frameAt (i := 0) rfl) (hΦ.1)))))) ?_
      rintro _ _ _ ⟨_, rfl, rfl, rfl⟩
      refine RO.val (Wt.no rfl) rfl (PV.move rfl) ?_
      refine RO.skip (Un.mk rfl rfl rfl rfl) rfl ?_
      refine RO.skip (Un.mk rfl rfl rfl rfl) rfl ?_
      refine RO.skip (Un.mk rfl rfl rfl rfl) rfl ?_
      refine RO.skip (Un.mk rfl rfl rfl rfl) rfl ?_
      refine RO.skip (Un.mk rfl rfl rfl rfl) rfl ?_
      refine RO.val (Wt.no rfl) rfl (PV.pickF rfl rfl) ?_
      refine RO.val (Wt.no rfl) rfl (PV.assign rfl) ?_
      refine RO.nil ?_
      refine CW.ret ?_
      obtain rfl := Option.some.inj h
      exact retP1 (Ψ := Φ) [0] (by decide) rfl (RV.tmp rfl) rfl (fun w hΦ => hΦ.1) ⟨(), rfl, rfl, rfl⟩

theorem W_clock_May {D : Mem} {Φ : World → Prop} (a1 : Vector Int 8) {r : Bool} (h : S.clock_May a1 = some r) :
    SpecK Try.prog 63 [.agg (S.t_A8_int.enc a1 (hf [])).toArray] D [] Φ (fun x : Unit => .bool r) (fun x => []) (fun x => []) (fun _ => Φ) := by
  refine enterK Try.func63 rfl Try.ntmps63 rfl ?_
  unfold S.clock_May at h
  refine CW.reg ?_
  refine RO.eff (Wt.no rfl) rfl (EV.boxB (B := S.t_A8_int.enc a1 (hf [])) rfl rfl) ?_
  rintro _ _ _ ⟨g1, rfl, rfl, rfl⟩
  refine RO.val (Wt.no rfl) rfl (PV.assign rfl) ?_
  refine RO.nil ?_
  replace h := andThen_some h
  obtain ⟨e4, h, hk3⟩ := h
  refine CW.meet (X := Unit) (fun x => [(2, .bool false)]) (fun x => [frame D, .blk g1 (S.t_A8_int.enc a1 (hf []))]) (fun x w => (Φ w ∧ True)) (fun x => S.clock_May_j2 = some r) ?_ ?_
  · skip
    refine CW.reg ?_
    refine RO.val (Wt.no rfl) rfl (PV.loadM (l := S.t_A8_int.enc a1 (hf [])) 1 Try.TF37 rfl rfl (cut_self (S.t_A8_int.len _ _)) rfl (by decide)) ?_
    refine RO.val (Wt.no rfl) rfl (PV.move rfl) ?_
    refine RO.nil ?_
    refine CW.block ?_
    refine CW.loopE (X := Nat × Int) (fun x => [(2, .bool false), (5, .agg (S.t_A8_int.enc a1 (hf [])).toArray), (6, .int .i64 x.2)]) (fun x => [frame D, .blk g1 (S.t_A8_int.enc a1 (hf []))]) (fun x w => (Φ w ∧ True)) (fun x => loopN (S.clock_May_l3 a1) x.1 x.2 = some e4) (fun x => x.1) (FUEL, 0) h (by exact ⟨rfl, rfl, rfl, trivial⟩) rfl (fun w hΦ => hΦ) ?_
    rintro ⟨n12', v9⟩ hI10
    try dsimp only at hI10 ⊢
    obtain ⟨n12, y11, rfl, h, hk13⟩ := loopN_some hI10
    unfold S.clock_May_l3 at h
    try dsimp only at h
    refine CW.reg ?_
    refine RO.val (Wt.no rfl) rfl (PV.lss rfl rfl) ?_
    refine RO.nil ?_
    refine CW.seq ?_
    refine CW.cond rfl (fun hb14 => ?_) (fun hb14 => ?_)
    · replace h := iteT hb14 h
      refine CW.skip ?_
      refine QC.then_n ?_
      refine CW.seq ?_
      refine CW.block ?_
      replace h := bindS h
      obtain ⟨v15, hx16, h⟩ := h
      obtain ⟨hn17, hn18, he19⟩ := aget_some hx16
      refine CW.reg ?_
      refine RO.val (Wt.no rfl) rfl (PV.index (l := [.int .i64 v15]) Try.underlying37 Try.TF3 rfl rfl hn18 (by omega) (by rw [idx_A8_int _ _ _ hn17, he19]) rfl (by decide)) ?_
      refine RO.val (Wt.no rfl) rfl (PV.assign rfl) ?_
      refine RO.nil ?_
      by_cases hb20 : (decide (v15 < 0)) = true
      · replace h := iteT hb20 h
        refine CW.reg ?_
        refine RO.val (Wt.no rfl) rfl (PV.move rfl) ?_
        refine RO.val (Wt.no rfl) rfl (PV.lss rfl rfl) ?_
        refine RO.val (Wt.no rfl) rfl ((PV.move rfl).to (congrArg Value.bool hb20)) ?_
        refine RO.skip (Un.mk rfl rfl rfl rfl) rfl ?_
        refine RO.skip (Un.mk rfl rfl rfl rfl) rfl ?_
        refine RO.val (Wt.no rfl) rfl (PV.pickT rfl rfl) ?_
        refine RO.nil ?_
        refine CW.condT rfl ?_
        refine CW.reg ?_
        refine RO.val (Wt.no rfl) rfl (PV.assign rfl) ?_
        refine RO.nil ?_
        refine CW.ret ?_
        refine QC.blk_r ?_
        refine QC.then_r ?_
        refine QC.then_r ?_
        refine QC.blk_r ?_
        refine QC.then_r ?_
        obtain rfl := Option.some.inj h
        obtain rfl := nextL_inr hk13
        obtain rfl := afterS_inr hk3
        exact retP1 (Ψ := Φ) [0] (by decide) rfl (RV.tmp rfl) rfl (fun w hΦ => hΦ.1) ⟨(), rfl, rfl, rfl⟩
      · replace hb20 := Bool.eq_false_iff.2 hb20
        replace h := iteF hb20 h
        refine CW.reg ?_
        refine RO.val (Wt.no rfl) rfl (PV.move rfl) ?_
        refine RO.val (Wt.no rfl) rfl (PV.lss rfl rfl) ?_
        refine RO.val (Wt.no rfl) rfl ((PV.move rfl).to (congrArg Value.bool hb20)) ?_
        refine RO.val (Wt.yes rfl rfl rfl rfl) rfl (PV.move rfl) ?_
        refine RO.val (Wt.yes rfl rfl rfl rfl) rfl (PV.gtr rfl rfl) ?_
        refine RO.val (Wt.no rfl) rfl (PV.pickF rfl rfl) ?_
        refine RO.nil ?_
        refine CW.cond rfl (fun hb21 => ?_) (fun hb21 => ?_)
        · replace h := iteT hb21 h
          refine CW.reg ?_
          refine RO.val (Wt.no rfl) rfl (PV.assign rfl) ?_
          refine RO.nil ?_
          refine CW.ret ?_
          refine QC.blk_r ?_
          refine QC.then_r ?_
          refine QC.then_r ?_
          refine QC.blk_r ?_
          refine QC.then_r ?_
          obtain rfl := Option.some.inj h
          obtain rfl := nextL_inr hk13
          obtain rfl := afterS_inr hk3
          exact retP1 (Ψ := Φ) [0] (by decide) rfl (RV.tmp rfl) rfl (fun w hΦ => hΦ.1) ⟨(), rfl, rfl, rfl⟩
        · replace h := iteF hb21 h
          refine CW.skip ?_
          refine QC.blk_n ?_
          refine QC.then_n ?_
          refine CW.region ?_
          refine RO.val (Wt.no rfl) rfl (PV.addW rfl rfl) ?_
          refine RO.val (Wt.no rfl) rfl (PV.move rfl) ?_
          refine RO.nil ?_
          obtain rfl := Option.some.inj h
          refine QC.roundP (n12, (w64 (v9 + 1))) (nextL_inl hk13) (by exact Nat.lt_succ_self _) [0, 1] (by decide) (by exact ⟨rfl, rfl, rfl, trivial⟩) rfl (fun w hΦ => hΦ)
    · replace h := iteF hb14 h
      refine CW.exit ?_
      refine QC.then_x ?_
      refine QC.then_x ?_
      refine QC.blk_x ?_
      obtain rfl := Option.some.inj h
      obtain rfl := nextL_inr hk13
      refine QC.meetP () (afterS_inl hk3) [0, 1] (by decide) (by exact ⟨rfl, trivial⟩) rfl (fun w hΦ => hΦ)
  · rintro ⟨⟩ h
    try dsimp only at h ⊢
    unfold S.clock_May_j2 at h
    refine CW.reg ?_
    refine RO.val (Wt.no rfl) rfl (PV.assign rfl) ?_
    refine RO.nil ?_
    refine CW.ret ?_
    obtain rfl := Option.some.inj h
    exact retP1 (Ψ := Φ) [0] (by decide) rfl (RV.tmp rfl) rfl (fun w hΦ => hΦ.1) ⟨(), rfl, rfl, rfl⟩

theorem W_clock_node {D : Mem} {Φ : World → Prop} (a1 : Int) {r : Bool} (h : S.clock_node a1 = some r) :
    SpecK Try.prog 77 [.int .i64 a1] D [] Φ (fun x : Unit => .bool r) (fun x => []) (fun x => []) (fun _ => Φ) := by
  refine enterK Try.func77 rfl Try.ntmps77 rfl ?_
  unfold S.clock_node at h
  refine CW.reg ?_
  refine RO.val (Wt.no rfl) rfl (PV.assign rfl) ?_
  refine RO.nil ?_
  by_cases hb1 : (decide (0 ≤ a1)) = true
  · replace h := iteT hb1 h
    refine CW.reg ?_
    refine RO.val (Wt.no rfl) rfl (PV.move rfl) ?_
    refine RO.val (Wt.no rfl) rfl (PV.geq rfl rfl) ?_
    refine RO.val (Wt.no rfl) rfl ((PV.move rfl).to (congrArg Value.bool hb1)) ?_
    refine RO.val (Wt.yes rfl rfl rfl rfl) rfl (PV.move rfl) ?_
    refine RO.val (Wt.yes rfl rfl rfl rfl) rfl (PV.lss rfl rfl) ?_
    refine RO.val (Wt.no rfl) rfl (PV.pickT rfl rfl) ?_
    refine RO.val (Wt.no rfl) rfl (PV.assign rfl) ?_
    refine RO.nil ?_
    refine CW.ret ?_
    obtain rfl := Option.some.inj h
    exact retP1 (Ψ := Φ) [0] (by decide) rfl (RV.tmp rfl) rfl (fun w hΦ => hΦ.1) ⟨(), rfl, rfl, rfl⟩
  · replace hb1 := Bool.eq_false_iff.2 hb1
    replace h := iteF hb1 h
    refine CW.reg ?_
    refine RO.val (Wt.no rfl) rfl (PV.move rfl) ?_
    refine RO.val (Wt.no rfl) rfl (PV.geq rfl rfl) ?_
    refine RO.val (Wt.no rfl) rfl ((PV.move rfl).to (congrArg Value.bool hb1)) ?_
    refine RO.skip (Un.mk rfl rfl rfl rfl) rfl ?_
    refine RO.skip (Un.mk rfl rfl rfl rfl) rfl ?_
    refine RO.val (Wt.no rfl) rfl (PV.pickF rfl rfl) ?_
    refine RO.val (Wt.no rfl) rfl (PV.assign rfl) ?_
    refine RO.nil ?_
    refine CW.ret ?_
    obtain rfl := Option.some.inj h
    exact retP1 (Ψ := Φ) [0] (by decide) rfl (RV.tmp rfl) rfl (fun w hΦ => hΦ.1) ⟨(), rfl, rfl, rfl⟩

theorem W_clock_Has {D : Mem} {Φ : World → Prop} (a1 : Vector Int 8) (a2 : S.Dot) {r : Bool} (h : S.clock_Has a1 a2 = some r) :
    SpecK Try.prog 34 [.agg (S.t_A8_int.enc a1 (hf [])).toArray, .agg (S.t_Dot.enc a2 (hf [])).toArray] D [] Φ (fun x : Unit => .bool r) (fun x => []) (fun x => []) (fun _ => Φ) := by
  refine enterK Try.func34 rfl Try.ntmps34 rfl ?_
  unfold S.clock_Has at h
  refine CW.reg ?_
  refine RO.eff (Wt.no rfl) rfl (EV.boxB (B := S.t_A8_int.enc a1 (hf [])) rfl rfl) ?_
  rintro _ _ _ ⟨g1, rfl, rfl, rfl⟩
  refine RO.eff (Wt.no rfl) rfl (EV.boxB (B := S.t_Dot.enc a2 (hf [])) rfl rfl) ?_
  rintro _ _ _ ⟨g2, rfl, rfl, rfl⟩
  refine RO.val (Wt.no rfl) rfl (PV.assign rfl) ?_
  refine RO.nil ?_
  replace h := bindS h
  obtain ⟨v3, hx4, h⟩ := h
  by_cases hb5 : v3 = true
  · replace h := iteT hb5 h
    subst hb5
    by_cases hb6 : (decide (1 ≤ a2.N)) = true
    · replace h := iteT hb6 h
      replace h := bindS h
      obtain ⟨v7, hx8, h⟩ := h
      obtain ⟨hn9, hn10, he11⟩ := aget_some hx8
      refine CW.regD (pickM [0, 1, 2] _) _ (by kernel_rfl) (St.of (by decide) rfl (fun _ h => h)) ?_
      refine RD.take 0 rfl (by kernel_rfl) (by kernel_rfl) (by kernel_rfl) (Wt.no rfl) rfl (PV.fieldAddr Try.fa45_0 rfl) ?_
      refine RD.take 1 rfl (by kernel_rfl) (by kernel_rfl) (by kernel_rfl) (Wt.no rfl) rfl (PV.loadM (l := [.int .i64 a2.Node]) 2 Try.TF3 rfl rfl (cut_Dot_Node _ _) rfl (by decide)) ?_
      refine RD.one 2 (by kernel_rfl) ?_
      refine Up.eff rfl (Wt.no rfl) rfl (EV.call (K := _) Try.call77 rfl (SpecK.callV (W_clock_node a2.Node hx4))) ?_ ?_
      · rintro _ _ _ ⟨_, rfl, rfl, rfl⟩; exact St.of' (by decide) (L' := [0, 1, 2]) rfl (fun _ h => h)
      rintro _ _ _ ⟨_, rfl, rfl, rfl⟩
      refine RD.take 3 rfl (by kernel_rfl) (by kernel_rfl) (by kernel_rfl) (Wt.no rfl) rfl (PV.move rfl) ?_
      refine RD.take 4 rfl (by kernel_rfl) (by kernel_rfl) (by kernel_rfl) (Wt.yes rfl rfl rfl rfl) rfl (PV.fieldAddr Try.fa45_1 rfl) ?_
      refine RD.take 5 rfl (by kernel_rfl) (by kernel_rfl) (by kernel_rfl) (Wt.yes rfl rfl rfl rfl) rfl (PV.loadM (l := [.int .i64 a2.N]) 2 Try.TF3 rfl rfl (cut_Dot_N _ _) rfl (by decide)) ?_
      refine RD.take 6 rfl (by kernel_rfl) (by kernel_rfl) (by kernel_rfl) (Wt.yes rfl rfl rfl rfl) rfl (PV.geq rfl rfl) ?_
      refine RD.take 7 rfl (by kernel_rfl) (by kernel_rfl) (by kernel_rfl) (Wt.no rfl) rfl (PV.pickT rfl rfl) ?_
      refine RD.take 8 rfl (by kernel_rfl) (by kernel_rfl) (by kernel_rfl) (Wt.no rfl) rfl ((PV.move rfl).to (congrArg Value.bool hb6)) ?_
      refine RD.take 9 rfl (by kernel_rfl) (by kernel_rfl) (by kernel_rfl) (Wt.yes rfl rfl rfl rfl) rfl (PV.fieldAddr Try.fa45_1 rfl) ?_
      refine RD.take 10 rfl (by kernel_rfl) (by kernel_rfl) (by kernel_rfl) (Wt.yes rfl rfl rfl rfl) rfl (PV.loadM (l := [.int .i64 a2.N]) 2 Try.TF3 rfl rfl (cut_Dot_N _ _) rfl (by decide)) ?_
      refine RD.take 11 rfl (by kernel_rfl) (by kernel_rfl) (by kernel_rfl) (Wt.yes rfl rfl rfl rfl) rfl (PV.fieldAddr Try.fa45_0 rfl) ?_
      refine RD.take 12 rfl (by kernel_rfl) (by kernel_rfl) (by kernel_rfl) (Wt.yes rfl rfl rfl rfl) rfl (PV.loadM (l := [.int .i64 a2.Node]) 2 Try.TF3 rfl rfl (cut_Dot_Node _ _) rfl (by decide)) ?_
      refine RD.take 13 rfl (by kernel_rfl) (by kernel_rfl) (by kernel_rfl) (Wt.yes rfl rfl rfl rfl) rfl (PV.idxA Try.underlying37 Try.sizeOf3 rfl rfl hn10 (by omega)) ?_
      refine RD.take 14 rfl (by kernel_rfl) (by kernel_rfl) (by kernel_rfl) (Wt.yes rfl rfl rfl rfl) rfl (PV.loadM (l := [.int .i64 v7]) 1 Try.TF3 rfl rfl (by rw [cut_A8_int_i _ _ _ hn9, he11]) rfl (by decide)) ?_
      refine RD.take 15 rfl (by kernel_rfl) (by kernel_rfl) (by kernel_rfl) (Wt.yes rfl rfl rfl rfl) rfl (PV.leq rfl rfl) ?_
      refine RD.take 16 rfl (by kernel_rfl) (by kernel_rfl) (by kernel_rfl) (Wt.no rfl) rfl (PV.pickT rfl rfl) ?_
      refine RD.take 17 rfl (by kernel_rfl) (by kernel_rfl) (by kernel_rfl) (Wt.no rfl) rfl (PV.assign rfl) ?_
      refine RD.done (by kernel_rfl) ?_
      refine CW.ret ?_
      obtain rfl := Option.some.inj h
      exact retP1 (Ψ := Φ) [0] (by decide) rfl (RV.tmp rfl) rfl (fun w hΦ => hΦ.1) ⟨(), rfl, rfl, rfl⟩
    · replace hb6 := Bool.eq_false_iff.2 hb6
      replace h := iteF hb6 h
      refine CW.regD (pickM [0, 1, 2] _) _ (by kernel_rfl) (St.of (by decide) rfl (fun _ h => h)) ?_
      refine RD.take 0 rfl (by kernel_rfl) (by kernel_rfl) (by kernel_rfl) (Wt.no rfl) rfl (PV.fieldAddr Try.fa45_0 rfl) ?_
      refine RD.take 1 rfl (by kernel_rfl) (by kernel_rfl) (by kernel_rfl) (Wt.no rfl) rfl (PV.loadM (l := [.int .i64 a2.Node]) 2 Try.TF3 rfl rfl (cut_Dot_Node _ _) rfl (by decide)) ?_
      refine RD.one 2 (by kernel_rfl) ?_
      refine Up.eff rfl (Wt.no rfl) rfl (EV.call (K := _) Try.call77 rfl (SpecK.callV (W_clock_node a2.Node hx4))) ?_ ?_
      · rintro _ _ _ ⟨_, rfl, rfl, rfl⟩; exact St.of' (by decide) (L' := [0, 1, 2]) rfl (fun _ h => h)
      rintro _ _ _ ⟨_, rfl, rfl, rfl⟩
      refine RD.take 3 rfl (by kernel_rfl) (by kernel_rfl) (by kernel_rfl) (Wt.no rfl) rfl (PV.move rfl) ?_
      refine RD.take 4 rfl (by kernel_rfl) (by kernel_rfl) (by kernel_rfl) (Wt.yes rfl rfl rfl rfl) rfl (PV.fieldAddr Try.fa45_1 rfl) ?_
      refine RD.take 5 rfl (by kernel_rfl) (by kernel_rfl) (by kernel_rfl) (Wt.yes rfl rfl rfl rfl) rfl (PV.loadM (l := [.int .i64 a2.N]) 2 Try.TF3 rfl rfl (cut_Dot_N _ _) rfl (by decide)) ?_
      refine RD.take 6 rfl (by kernel_rfl) (by kernel_rfl) (by kernel_rfl) (Wt.yes rfl rfl rfl rfl) rfl (PV.geq rfl rfl) ?_
      refine RD.take 7 rfl (by kernel_rfl) (by kernel_rfl) (by kernel_rfl) (Wt.no rfl) rfl (PV.pickT rfl rfl) ?_
      refine RD.take 8 rfl (by kernel_rfl) (by kernel_rfl) (by kernel_rfl) (Wt.no rfl) rfl ((PV.move rfl).to (congrArg Value.bool hb6)) ?_
      refine RD.takeNo 9 rfl (by kernel_rfl) (by kernel_rfl) (by kernel_rfl) (Un.mk rfl rfl rfl rfl) rfl ?_
      refine RD.takeNo 10 rfl (by kernel_rfl) (by kernel_rfl) (by kernel_rfl) (Un.mk rfl rfl rfl rfl) rfl ?_
      refine RD.takeNo 11 rfl (by kernel_rfl) (by kernel_rfl) (by kernel_rfl) (Un.mk rfl rfl rfl rfl) rfl ?_
      refine RD.takeNo 12 rfl (by kernel_rfl) (by kernel_rfl) (by kernel_rfl) (Un.mk rfl rfl rfl rfl) rfl ?_
      refine RD.takeNo 13 rfl (by kernel_rfl) (by kernel_rfl) (by kernel_rfl) (Un.mk rfl rfl rfl rfl) rfl ?_
      refine RD.takeNo 14 rfl (by kernel_rfl) (by kernel_rfl) (by kernel_rfl) (Un.mk rfl rfl rfl rfl) rfl ?_
      refine RD.takeNo 15 rfl (by kernel_rfl) (by kernel_rfl) (by kernel_rfl) (Un.mk rfl rfl rfl rfl) rfl ?_
      refine RD.take 16 rfl (by kernel_rfl) (by kernel_rfl) (by kernel_rfl) (Wt.no rfl) rfl (PV.pickF rfl rfl) ?_
      refine RD.take 17 rfl (by kernel_rfl) (by kernel_rfl) (by kernel_rfl) (Wt.no rfl) rfl (PV.assign rfl) ?_
      refine RD.done (by kernel_rfl) ?_
      refine CW.ret ?_
      obtain rfl := Option.some.inj h
      exact retP1 (Ψ := Φ) [0] (by decide) rfl (RV.tmp rfl) rfl (fun w hΦ => hΦ.1) ⟨(), rfl, rfl, rfl⟩
  · replace hb5 := Bool.eq_false_iff.2 hb5
    replace h := iteF hb5 h
    subst hb5
    refine CW.regD (pickM [0, 1, 2] _) _ (by kernel_rfl) (St.of (by decide) rfl (fun _ h => h)) ?_
    refine RD.take 0 rfl (by kernel_rfl) (by kernel_rfl) (by kernel_rfl) (Wt.no rfl) rfl (PV.fieldAddr Try.fa45_0 rfl) ?_
    refine RD.take 1 rfl (by kernel_rfl) (by kernel_rfl) (by kernel_rfl) (Wt.no rfl) rfl (PV.loadM (l := [.int .i64 a2.Node]) 2 Try.TF3 rfl rfl (cut_Dot_Node _ _) rfl (by decide)) ?_
    refine RD.one 2 (by kernel_rfl) ?_
    refine Up.eff rfl (Wt.no rfl) rfl (EV.call (K := _) Try.call77 rfl (SpecK.callV (W_clock_node a2.Node hx4))) ?_ ?_
    · rintro _ _ _ ⟨_, rfl, rfl, rfl⟩; exact St.of' (by decide) (L' := [0, 1, 2]) rfl (fun _ h => h)
    rintro _ _ _ ⟨_, rfl, rfl, rfl⟩
    refine RD.take 3 rfl (by kernel_rfl) (by kernel_rfl) (by kernel_rfl) (Wt.no rfl) rfl (PV.move rfl) ?_
    refine RD.takeNo 4 rfl (by kernel_rfl) (by kernel_rfl) (by kernel_rfl) (Un.mk rfl rfl rfl rfl) rfl ?_
    refine RD.takeNo 5 rfl (by kernel_rfl) (by kernel_rfl) (by kernel_rfl) (Un.mk rfl rfl rfl rfl) rfl ?_
    refine RD.takeNo 6 rfl (by kernel_rfl) (by kernel_rfl) (by kernel_rfl) (Un.mk rfl rfl rfl rfl) rfl ?_
    refine RD.take 7 rfl (by kernel_rfl) (by kernel_rfl) (by kernel_rfl) (Wt.no rfl) rfl (PV.pickF rfl rfl) ?_
    refine RD.take 8 rfl (by kernel_rfl) (by kernel_rfl) (by kernel_rfl) (Wt.no rfl) rfl (PV.move rfl) ?_
    refine RD.takeNo 9 rfl (by kernel_rfl) (by kernel_rfl) (by kernel_rfl) (Un.mk rfl rfl rfl rfl) rfl ?_
    refine RD.takeNo 10 rfl (by kernel_rfl) (by kernel_rfl) (by kernel_rfl) (Un.mk rfl rfl rfl rfl) rfl ?_
    refine RD.takeNo 11 rfl (by kernel_rfl) (by kernel_rfl) (by kernel_rfl) (Un.mk rfl rfl rfl rfl) rfl ?_
    refine RD.takeNo 12 rfl (by kernel_rfl) (by kernel_rfl) (by kernel_rfl) (Un.mk rfl rfl rfl rfl) rfl ?_
    refine RD.takeNo 13 rfl (by kernel_rfl) (by kernel_rfl) (by kernel_rfl) (Un.mk rfl rfl rfl rfl) rfl ?_
    refine RD.takeNo 14 rfl (by kernel_rfl) (by kernel_rfl) (by kernel_rfl) (Un.mk rfl rfl rfl rfl) rfl ?_
    refine RD.takeNo 15 rfl (by kernel_rfl) (by kernel_rfl) (by kernel_rfl) (Un.mk rfl rfl rfl rfl) rfl ?_
    refine RD.take 16 rfl (by kernel_rfl) (by kernel_rfl) (by kernel_rfl) (Wt.no rfl) rfl (PV.pickF rfl rfl) ?_
    refine RD.take 17 rfl (by kernel_rfl) (by kernel_rfl) (by kernel_rfl) (Wt.no rfl) rfl (PV.assign rfl) ?_
    refine RD.done (by kernel_rfl) ?_
    refine CW.ret ?_
    obtain rfl := Option.some.inj h
    exact retP1 (Ψ := Φ) [0] (by decide) rfl (RV.tmp rfl) rfl (fun w hΦ => hΦ.1) ⟨(), rfl, rfl, rfl⟩

theorem W_bag_may {D : Mem} {Φ : World → Prop} (a1 : S.Val) (a2 : Vector Int 8) {r : Bool} (h : S.bag_may a1 a2 = some r) :
    SpecK Try.prog 103 [.agg (S.t_Val.enc a1 (hf [])).toArray, .agg (S.t_A8_int.enc a2 (hf [])).toArray] D [] Φ (fun x : Unit => .bool r) (fun x => []) (fun x => []) (fun _ => Φ) := by
  refine enterK Try.func103 rfl Try.ntmps103 rfl ?_
  unfold S.bag_may at h
  refine CW.reg ?_
  refine RO.eff (Wt.no rfl) rfl (EV.boxB (B := S.t_Val.enc a1 (hf [])) rfl rfl) ?_
  rintro _ _ _ ⟨g1, rfl, rfl, rfl⟩
  refine RO.eff (Wt.no rfl) rfl (EV.boxB (B := S.t_A8_int.enc a2 (hf [])) rfl rfl) ?_
  rintro _ _ _ ⟨g2, rfl, rfl, rfl⟩
  refine RO.val (Wt.no rfl) rfl (PV.assign rfl) ?_
  refine RO.nil ?_
  replace h := bindS h
  obtain ⟨v3, hx4, h⟩ := h
  by_cases hb5 : v3 = true
  · replace h := iteT hb5 h
    subst hb5
    refine CW.reg ?_
    refine RO.val (Wt.no rfl) rfl (PV.loadM (l := S.t_A8_int.enc a2 (hf [])) 2 Try.TF37 rfl rfl (cut_self (S.t_A8_int.len _ _)) rfl (by decide)) ?_
    refine RO.val (Wt.no rfl) rfl (PV.fieldAddr Try.fa80_0 rfl) ?_
    refine RO.val (Wt.no rfl) rfl (PV.loadM (l := S.t_Dot.enc a1.Dot (hf [])) 1 Try.TF45 rfl rfl (cut_Val_Dot _ _) rfl (by decide)) ?_
    refine RO.eff (Wt.no rfl) rfl (EV.call (K := _) Try.call34 rfl (SpecK.callV (W_clock_Has a2 a1.Dot hx4))) ?_
    rintro _ _ _ ⟨_, rfl, rfl, rfl⟩
    refine RO.val (Wt.no rfl) rfl (PV.move rfl) ?_
    refine RO.val (Wt.yes rfl rfl rfl rfl) rfl (PV.fieldAddr Try.fa80_1 rfl) ?_
    refine RO.val (Wt.yes rfl rfl rfl rfl) rfl (PV.loadM (l := [.string a1.Data]) 1 Try.TF9 rfl rfl (cut_Val_Data _ _) rfl (by decide)) ?_
    refine RO.val (Wt.yes rfl rfl rfl rfl) rfl (PV.lenStr Try.underlying9 rfl) ?_
    refine RO.val (Wt.yes rfl rfl rfl rfl) rfl (PV.leq rfl rfl) ?_
    refine RO.val (Wt.no rfl) rfl (PV.pickT rfl rfl) ?_
    refine RO.val (Wt.no rfl) rfl (PV.assign rfl) ?_
    refine RO.nil ?_
    refine CW.ret ?_
    obtain rfl := Option.some.inj h
    exact retP1 (Ψ := Φ) [0] (by decide) rfl (RV.tmp rfl) rfl (fun w hΦ => hΦ.1) ⟨(), rfl, rfl, rfl⟩
  · replace hb5 := Bool.eq_false_iff.2 hb5
    replace h := iteF hb5 h
    subst hb5
    refine CW.reg ?_
    refine RO.val (Wt.no rfl) rfl (PV.loadM (l := S.t_A8_int.enc a2 (hf [])) 2 Try.TF37 rfl rfl (cut_self (S.t_A8_int.len _ _)) rfl (by decide)) ?_
    refine RO.val (Wt.no rfl) rfl (PV.fieldAddr Try.fa80_0 rfl) ?_
    refine RO.val (Wt.no rfl) rfl (PV.loadM (l := S.t_Dot.enc a1.Dot (hf [])) 1 Try.TF45 rfl rfl (cut_Val_Dot _ _) rfl (by decide)) ?_
    refine RO.eff (Wt.no rfl) rfl (EV.call (K := _) Try.call34 rfl (SpecK.callV (W_clock_Has a2 a1.Dot hx4))) ?_
    rintro _ _ _ ⟨_, rfl, rfl, rfl⟩
    refine RO.val (Wt.no rfl) rfl (PV.move rfl) ?_
    refine RO.skip (Un.mk rfl rfl rfl rfl) rfl ?_
    refine RO.skip (Un.mk rfl rfl rfl rfl) rfl ?_
    refine RO.skip (Un.mk rfl rfl rfl rfl) rfl ?_
    refine RO.skip (Un.mk rfl rfl rfl rfl) rfl ?_
    refine RO.val (Wt.no rfl) rfl (PV.pickF rfl rfl) ?_
    refine RO.val (Wt.no rfl) rfl (PV.assign rfl) ?_
    refine RO.nil ?_
    refine CW.ret ?_
    obtain rfl := Option.some.inj h
    exact retP1 (Ψ := Φ) [0] (by decide) rfl (RV.tmp rfl) rfl (fun w hΦ => hΦ.1) ⟨(), rfl, rfl, rfl⟩

theorem W_clock_Compare {D : Mem} {Φ : World → Prop} (a1 : S.Dot) (a2 : S.Dot) {r : Int} (h : S.clock_Compare a1 a2 = some r) :
    SpecK Try.prog 98 [.agg (S.t_Dot.enc a1 (hf [])).toArray, .agg (S.t_Dot.enc a2 (hf [])).toArray] D [] Φ (fun x : Unit => .int .i64 r) (fun x => []) (fun x => []) (fun _ => Φ) := by
  refine enterK Try.func98 rfl Try.ntmps98 rfl ?_
  unfold S.clock_Compare at h
  refine CW.reg ?_
  refine RO.eff (Wt.no rfl) rfl (EV.boxB (B := S.t_Dot.enc a1 (hf [])) rfl rfl) ?_
  rintro _ _ _ ⟨g1, rfl, rfl, rfl⟩
  refine RO.eff (Wt.no rfl) rfl (EV.boxB (B := S.t_Dot.enc a2 (hf [])) rfl rfl) ?_
  rintro _ _ _ ⟨g2, rfl, rfl, rfl⟩
  refine RO.val (Wt.no rfl) rfl (PV.assign rfl) ?_
  refine RO.nil ?_
  replace h := bindS h
  obtain ⟨v3, hx4, h⟩ := h
  replace h := bindS h
  obtain ⟨v5, hx6, h⟩ := h
  replace h := bindS h
  obtain ⟨v8, hx9, h⟩ := h
  refine CW.regD (pickM [0, 1, 2] _) _ (by kernel_rfl) (St.of (by decide) rfl (fun _ h => h)) ?_
  refine RD.take 0 rfl (by kernel_rfl) (by kernel_rfl) (by kernel_rfl) (Wt.no rfl) rfl (PV.fieldAddr Try.fa45_0 rfl) ?_
  refine RD.take 1 rfl (by kernel_rfl) (by kernel_rfl) (by kernel_rfl) (Wt.no rfl) rfl (PV.loadM (l := [.int .i64 a1.Node]) 1 Try.TF3 rfl rfl (cut_Dot_Node _ _) rfl (by decide)) ?_
  refine RD.take 2 rfl (by kernel_rfl) (by kernel_rfl) (by kernel_rfl) (Wt.no rfl) rfl (PV.fieldAddr Try.fa45_0 rfl) ?_
  refine RD.take 3 rfl (by kernel_rfl) (by kernel_rfl) (by kernel_rfl) (Wt.no rfl) rfl (PV.loadM (l := [.int .i64 a2.Node]) 2 Try.TF3 rfl rfl (cut_Dot_Node _ _) rfl (by decide)) ?_
  refine RD.take 5 rfl (by kernel_rfl) (by kernel_rfl) (by kernel_rfl) (Wt.no rfl) rfl (PV.fieldAddr Try.fa45_1 rfl) ?_
  refine RD.take 6 rfl (by kernel_rfl) (by kernel_rfl) (by kernel_rfl) (Wt.no rfl) rfl (PV.loadM (l := [.int .i64 a1.N]) 1 Try.TF3 rfl rfl (cut_Dot_N _ _) rfl (by decide)) ?_
  refine RD.take 7 rfl (by kernel_rfl) (by kernel_rfl) (by kernel_rfl) (Wt.no rfl) rfl (PV.fieldAddr Try.fa45_1 rfl) ?_
  refine RD.take 8 rfl (by kernel_rfl) (by kernel_rfl) (by kernel_rfl) (Wt.no rfl) rfl (PV.loadM (l := [.int .i64 a2.N]) 2 Try.TF3 rfl rfl (cut_Dot_N _ _) rfl (by decide)) ?_
  refine RD.one 4 (by kernel_rfl) ?_
  refine Up.eff rfl (Wt.no rfl) rfl (EV.call (K := _) Try.call122 rfl (SpecK.callV (W_cmp_Compare_int a1.Node a2.Node hx4))) ?_ ?_
  · rintro _ _ _ ⟨_, rfl, rfl, rfl⟩; exact St.of' (by decide) (L' := [0, 1, 2]) rfl (fun _ h => h)
  rintro _ _ _ ⟨_, rfl, rfl, rfl⟩
  refine RD.one 9 (by kernel_rfl) ?_
  refine Up.eff rfl (Wt.no rfl) rfl (EV.call (K := _) Try.call122 rfl (SpecK.callV (W_cmp_Compare_int a1.N a2.N hx6))) ?_ ?_
  · rintro _ _ _ ⟨_, rfl, rfl, rfl⟩; exact St.of' (by decide) (L' := [0, 1, 2]) rfl (fun _ h => h)
  rintro _ _ _ ⟨_, rfl, rfl, rfl⟩
  refine RD.one 10 (by kernel_rfl) ?_
  refine Up.eff rfl (Wt.no rfl) rfl (EV.buildRowQ (t := (tInt .i64)) (l := [v3, v5]) (xs := [.tmp 9, .tmp 14]) rfl (by decide) Try.underlying26 Try.sizeOf3 Try.zeroValue3 rfl rfl rfl rfl rfl) ?_ ?_
  · rintro _ _ _ ⟨g7, rfl, rfl, rfl⟩; exact St.of' (by decide) (L' := [0, 1, 2]) rfl (fun _ h => h)
  rintro _ _ _ ⟨g7, rfl, rfl, rfl⟩
  refine RD.one 11 (by kernel_rfl) ?_
  refine Up.eff rfl (Wt.no rfl) rfl (EV.call (K := _) Try.call121 rfl (SpecK.callV (W_cmp_Or_int [v3, v5] (Hd.mk (some ⟨g7, 0, none⟩) 2 (fun _ _ => Hd.z)) hx9 (fun w hm hΦ => (slR_row (hm.rowAt (i := 3) rfl) (fun _ _ _ => trivial)))))) ?_ ?_
  · rintro _ _ _ ⟨_, rfl, rfl, rfl⟩; exact St.of' (by decide) (L' := [0, 1, 2]) rfl (fun _ h => h)
  rintro _ _ _ ⟨_, rfl, rfl, rfl⟩
  refine RD.take 12 rfl (by kernel_rfl) (by kernel_rfl) (by kernel_rfl) (Wt.no rfl) rfl (PV.assign rfl) ?_
  refine RD.done (by kernel_rfl) ?_
  refine CW.ret ?_
  obtain rfl := Option.some.inj h
  exact retP1 (Ψ := Φ) [0] (by decide) rfl (RV.tmp rfl) rfl (fun w hΦ => hΦ.1) ⟨(), rfl, rfl, rfl⟩

end Go.Proofs.Ytofmaoickidjcaa

/- A part of the proof: Plain (for the law Vf). -/
import Derived.Test.YtofmaoickidjcaaVfSl
set_option linter.all false
noncomputable section
namespace Go.S
open Go Go.Sx
set_option maxRecDepth 4000
def e0 : ByteArray := ⟨#[]⟩

structure Dot where
  Node : Int
  N : Int
  deriving DecidableEq
@[reducible] def Dot.z : Dot := { Node := 0, N := 0 }
def t_Dot : Ty S.Dot := { sz := 2, agg := true, zero := S.Dot.z, enc := fun x h => [.int .i64 x.Node, .int .i64 x.N], rd := fun w x h => True, len := fun _ _ => rfl, one := fun _ _ => rfl, ext := fun _ e => trivial, isz := fun h => (by cases h), rdz := fun _ => trivial }
structure Val where
  Dot : S.Dot
  Data : ByteArray
  deriving DecidableEq
@[reducible] def Val.z : Val := { Dot := S.Dot.z, Data := S.e0 }
def t_Val : Ty S.Val := { sz := 3, agg := true, zero := S.Val.z, enc := fun x h => [.int .i64 x.Dot.Node, .int .i64 x.Dot.N, .string x.Data], rd := fun w x h => True, len := fun _ _ => rfl, one := fun _ _ => rfl, ext := fun _ e => trivial, isz := fun h => (by cases h), rdz := fun _ => trivial }
structure Bag where
  Known : Vector Int 8
  Values : List S.Val
  deriving DecidableEq
@[reducible] def Bag.z : Bag := { Known := (Vector.replicate 8 (0 : Int)), Values := [] }
def t_Bag : Ty S.Bag := { sz := 9, agg := true, zero := S.Bag.z, enc := fun x h => [.int .i64 (x.Known[0]), .int .i64 (x.Known[1]), .int .i64 (x.Known[2]), .int .i64 (x.Known[3]), .int .i64 (x.Known[4]), .int .i64 (x.Known[5]), .int .i64 (x.Known[6]), .int .i64 (x.Known[7]), .slice (h 0).a x.Values.length (h 0).cap], rd := fun w x h => slR S.t_Val w x.Values (h 0), len := fun _ _ => rfl, one := fun _ _ => rfl, ext := fun hh e => (hh).ext e, isz := fun h => (by cases h), rdz := fun _ => slR.nil _ _ }
structure Plan where
  Version : Int
  By : Int
  Targets : List Int
  deriving DecidableEq
@[reducible] def Plan.z : Plan := { Version := 0, By := 0, Targets := [] }
def t_Plan : Ty S.Plan := { sz := 3, agg := true, zero := S.Plan.z, enc := fun x h => [.int .i64 x.Version, .int .i64 x.By, .slice (h 0).a x.Targets.length (h 0).cap], rd := fun w x h => slR (tInt .i64) w x.Targets (h 0), len := fun _ _ => rfl, one := fun _ _ => rfl, ext := fun hh e => (hh).ext e, isz := fun h => (by cases h), rdz := fun _ => slR.nil _ _ }
structure Entry where
  Epoch : Int
  Owner : Int
  deriving DecidableEq
@[reducible] def Entry.z : Entry := { Epoch := 0, Owner := 0 }
def t_Entry : Ty S.Entry := { sz := 2, agg := true, zero := S.Entry.z, enc := fun x h => [.int .i64 x.Epoch, .int .i64 x.Owner], rd := fun w x h => True, len := fun _ _ => rfl, one := fun _ _ => rfl, ext := fun _ e => trivial, isz := fun h => (by cases h), rdz := fun _ => trivial }
structure Ring where
  Status : Vector Int 8
  Plan : S.Plan
  Parts : Vector S.Entry 16
  deriving DecidableEq
@[reducible] def Ring.z : Ring := { Status := (Vector.replicate 8 (0 : Int)), Plan := S.Plan.z, Parts := (Vector.replicate 16 S.Entry.z) }
def t_Ring : Ty S.Ring := { sz := 43, agg := true, zero := S.Ring.z, enc := fun x h => [.int .i64 (x.Status[0]), .int .i64 (x.Status[1]), .int .i64 (x.Status[2]), .int .i64 (x.Status[3]), .int .i64 (x.Status[4]), .int .i64 (x.Status[5]), .int .i64 (x.Status[6]), .int .i64 (x.Status[7]), .int .i64 x.Plan.Version, .int .i64 x.Plan.By, .slice (h 0).a x.Plan.Targets.length (h 0).cap, .int .i64 ((x.Parts[0]).Epoch), .int .i64 ((x.Parts[0]).Owner), .int .i64 ((x.Parts[1]).Epoch), .int .i64 ((x.Parts[1]).Owner), .int .i64 ((x.Parts[2]).Epoch), .int .i64 ((x.Parts[2]).Owner), .int .i64 ((x.Parts[3]).Epoch), .int .i64 ((x.Parts[3]).Owner), .int .i64 ((x.Parts[4]).Epoch), .int .i64 ((x.Parts[4]).Owner), .int .i64 ((x.Parts[5]).Epoch), .int .i64 ((x.Parts[5]).Owner), .int .i64 ((x.Parts[6]).Epoch), .int .i64 ((x.Parts[6]).Owner), .int .i64 ((x.Parts[7]).Epoch), .int .i64 ((x.Parts[7]).Owner), .int .i64 ((x.Parts[8]).Epoch), .int .i64 ((x.Parts[8]).Owner), .int .i64 ((x.Parts[9]).Epoch), .int .i64 ((x.Parts[9]).Owner), .int .i64 ((x.Parts[10]).Epoch), .int .i64 ((x.Parts[10]).Owner), .int .i64 ((x.Parts[11]).Epoch), .int .i64 ((x.Parts[11]).Owner), .int .i64 ((x.Parts[12]).Epoch), .int .i64 ((x.Parts[12]).Owner), .int .i64 ((x.Parts[13]).Epoch), .int .i64 ((x.Parts[13]).Owner), .int .i64 ((x.Parts[14]).Epoch), .int .i64 ((x.Parts[14]).Owner), .int .i64 ((x.Parts[15]).Epoch), .int .i64 ((x.Parts[15]).Owner)], rd := fun w x h => slR (tInt .i64) w x.Plan.Targets (h 0), len := fun _ _ => rfl, one := fun _ _ => rfl, ext := fun hh e => (hh).ext e, isz := fun h => (by cases h), rdz := fun _ => slR.nil _ _ }
structure Deed where
  Kind : Int
  N : Int
  Key : ByteArray
  Bag : S.Bag
  Ring : S.Ring
  Part : Int
  deriving DecidableEq
@[reducible] def Deed.z : Deed := { Kind := 0, N := 0, Key := S.e0, Bag := S.Bag.z, Ring := S.Ring.z, Part := 0 }
def t_Deed : Ty S.Deed := { sz := 56, agg := true, zero := S.Deed.z, enc := fun x h => [.int .i64 x.Kind, .int .i64 x.N, .string x.Key, .int .i64 (x.Bag.Known[0]), .int .i64 (x.Bag.Known[1]), .int .i64 (x.Bag.Known[2]), .int .i64 (x.Bag.Known[3]), .int .i64 (x.Bag.Known[4]), .int .i64 (x.Bag.Known[5]), .int .i64 (x.Bag.Known[6]), .int .i64 (x.Bag.Known[7]), .slice (h 0).a x.Bag.Values.length (h 0).cap, .int .i64 (x.Ring.Status[0]), .int .i64 (x.Ring.Status[1]), .int .i64 (x.Ring.Status[2]), .int .i64 (x.Ring.Status[3]), .int .i64 (x.Ring.Status[4]), .int .i64 (x.Ring.Status[5]), .int .i64 (x.Ring.Status[6]), .int .i64 (x.Ring.Status[7]), .int .i64 x.Ring.Plan.Version, .int .i64 x.Ring.Plan.By, .slice (h 1).a x.Ring.Plan.Targets.length (h 1).cap, .int .i64 ((x.Ring.Parts[0]).Epoch), .int .i64 ((x.Ring.Parts[0]).Owner), .int .i64 ((x.Ring.Parts[1]).Epoch), .int .i64 ((x.Ring.Parts[1]).Owner), .int .i64 ((x.Ring.Parts[2]).Epoch), .int .i64 ((x.Ring.Parts[2]).Owner), .int .i64 ((x.Ring.Parts[3]).Epoch), .int .i64 ((x.Ring.Parts[3]).Owner), .int .i64 ((x.Ring.Parts[4]).Epoch), .int .i64 ((x.Ring.Parts[4]).Owner), .int .i64 ((x.Ring.Parts[5]).Epoch), .int .i64 ((x.Ring.Parts[5]).Owner), .int .i64 ((x.Ring.Parts[6]).Epoch), .int .i64 ((x.Ring.Parts[6]).Owner), .int .i64 ((x.Ring.Parts[7]).Epoch), .int .i64 ((x.Ring.Parts[7]).Owner), .int .i64 ((x.Ring.Parts[8]).Epoch), .int .i64 ((x.Ring.Parts[8]).Owner), .int .i64 ((x.Ring.Parts[9]).Epoch), .int .i64 ((x.Ring.Parts[9]).Owner), .int .i64 ((x.Ring.Parts[10]).Epoch), .int .i64 ((x.Ring.Parts[10]).Owner), .int .i64 ((x.Ring.Parts[11]).Epoch), .int .i64 ((x.Ring.Parts[11]).Owner), .int .i64 ((x.Ring.Parts[12]).Epoch), .int .i64 ((x.Ring.Parts[12]).Owner), .int .i64 ((x.Ring.Parts[13]).Epoch), .int .i64 ((x.Ring.Parts[13]).Owner), .int .i64 ((x.Ring.Parts[14]).Epoch), .int .i64 ((x.Ring.Parts[14]).Owner), .int .i64 ((x.Ring.Parts[15]).Epoch), .int .i64 ((x.Ring.Parts[15]).Owner), .int .i64 x.Part], rd := fun w x h => slR S.t_Val w x.Bag.Values (h 0) ∧ slR (tInt .i64) w x.Ring.Plan.Targets (h 1), len := fun _ _ => rfl, one := fun _ _ => rfl, ext := fun hh e => ⟨(hh.1).ext e, (hh.2).ext e⟩, isz := fun h => (by cases h), rdz := fun _ => ⟨slR.nil _ _, slR.nil _ _⟩ }
structure ledger_Ledger where
  l : List S.Deed
  sure : Int
  room_ : Int
  deriving DecidableEq
@[reducible] def ledger_Ledger.z : ledger_Ledger := { l := [], sure := 0, room_ := 0 }
def t_ledger_Ledger : Ty S.ledger_Ledger := { sz := 3, agg := true, zero := S.ledger_Ledger.z, enc := fun x h => [.slice (h 0).a x.l.length (h 0).cap, .int .i64 x.sure, .int .i64 x.room_], rd := fun w x h => slR S.t_Deed w x.l (h 0), len := fun _ _ => rfl, one := fun _ _ => rfl, ext := fun hh e => (hh).ext e, isz := fun h => (by cases h), rdz := fun _ => slR.nil _ _ }
structure vault_Vault where
  l : S.ledger_Ledger
  inc : Int
  ring : S.Ring
  rings : Int
  dots : Int
  bags : List (ByteArray × S.Bag)
@[reducible] def vault_Vault.z : vault_Vault := { l := S.ledger_Ledger.z, inc := 0, ring := S.Ring.z, rings := 0, dots := 0, bags := [] }
def t_vault_Vault : Ty S.vault_Vault := { sz := 48, agg := true, zero := S.vault_Vault.z, enc := fun x h => [.pointer (h 0).a, .int .i64 x.inc, .int .i64 (x.ring.Status[0]), .int .i64 (x.ring.Status[1]), .int .i64 (x.ring.Status[2]), .int .i64 (x.ring.Status[3]), .int .i64 (x.ring.Status[4]), .int .i64 (x.ring.Status[5]), .int .i64 (x.ring.Status[6]), .int .i64 (x.ring.Status[7]), .int .i64 x.ring.Plan.Version, .int .i64 x.ring.Plan.By, .slice (h 1).a x.ring.Plan.Targets.length (h 1).cap, .int .i64 ((x.ring.Parts[0]).Epoch), .int .i64 ((x.ring.Parts[0]).Owner), .int .i64 ((x.ring.Parts[1]).Epoch), .int .i64 ((x.ring.Parts[1]).Owner), .int .i64 ((x.ring.Parts[2]).Epoch), .int .i64 ((x.ring.Parts[2]).Owner), .int .i64 ((x.ring.Parts[3]).Epoch), .int .i64 ((x.ring.Parts[3]).Owner), .int .i64 ((x.ring.Parts[4]).Epoch), .int .i64 ((x.ring.Parts[4]).Owner), .int .i64 ((x.ring.Parts[5]).Epoch), .int .i64 ((x.ring.Parts[5]).Owner), .int .i64 ((x.ring.Parts[6]).Epoch), .int .i64 ((x.ring.Parts[6]).Owner), .int .i64 ((x.ring.Parts[7]).Epoch), .int .i64 ((x.ring.Parts[7]).Owner), .int .i64 ((x.ring.Parts[8]).Epoch), .int .i64 ((x.ring.Parts[8]).Owner), .int .i64 ((x.ring.Parts[9]).Epoch), .int .i64 ((x.ring.Parts[9]).Owner), .int .i64 ((x.ring.Parts[10]).Epoch), .int .i64 ((x.ring.Parts[10]).Owner), .int .i64 ((x.ring.Parts[11]).Epoch), .int .i64 ((x.ring.Parts[11]).Owner), .int .i64 ((x.ring.Parts[12]).Epoch), .int .i64 ((x.ring.Parts[12]).Owner), .int .i64 ((x.ring.Parts[13]).Epoch), .int .i64 ((x.ring.Parts[13]).Owner), .int .i64 ((x.ring.Parts[14]).Epoch), .int .i64 ((x.ring.Parts[14]).Owner), .int .i64 ((x.ring.Parts[15]).Epoch), .int .i64 ((x.ring.Parts[15]).Owner), .int .i64 x.rings, .int .i64 x.dots, .map (mb (h 2))], rd := fun w x h => slR (tInt .i64) w x.ring.Plan.Targets (h 1), len := fun _ _ => rfl, one := fun _ _ => rfl, ext := fun hh e => (hh).ext e, isz := fun h => (by cases h), rdz := fun _ => slR.nil _ _ }
def t_A8_int : Ty (Vector Int 8) := { sz := 8, agg := true, zero := (Vector.replicate 8 (0 : Int)), enc := fun x h => [.int .i64 (x[0]), .int .i64 (x[1]), .int .i64 (x[2]), .int .i64 (x[3]), .int .i64 (x[4]), .int .i64 (x[5]), .int .i64 (x[6]), .int .i64 (x[7])], rd := fun w x h => True, len := fun _ _ => rfl, one := fun _ _ => rfl, ext := fun _ e => trivial, isz := fun h => (by cases h), rdz := fun _ => trivial }
def t_A16_Entry : Ty (Vector S.Entry 16) := { sz := 32, agg := true, zero := (Vector.replicate 16 S.Entry.z), enc := fun x h => [.int .i64 ((x[0]).Epoch), .int .i64 ((x[0]).Owner), .int .i64 ((x[1]).Epoch), .int .i64 ((x[1]).Owner), .int .i64 ((x[2]).Epoch), .int .i64 ((x[2]).Owner), .int .i64 ((x[3]).Epoch), .int .i64 ((x[3]).Owner), .int .i64 ((x[4]).Epoch), .int .i64 ((x[4]).Owner), .int .i64 ((x[5]).Epoch), .int .i64 ((x[5]).Owner), .int .i64 ((x[6]).Epoch), .int .i64 ((x[6]).Owner), .int .i64 ((x[7]).Epoch), .int .i64 ((x[7]).Owner), .int .i64 ((x[8]).Epoch), .int .i64 ((x[8]).Owner), .int .i64 ((x[9]).Epoch), .int .i64 ((x[9]).Owner), .int .i64 ((x[10]).Epoch), .int .i64 ((x[10]).Owner), .int .i64 ((x[11]).Epoch), .int .i64 ((x[11]).Owner), .int .i64 ((x[12]).Epoch), .int .i64 ((x[12]).Owner), .int .i64 ((x[13]).Epoch), .int .i64 ((x[13]).Owner), .int .i64 ((x[14]).Epoch), .int .i64 ((x[14]).Owner), .int .i64 ((x[15]).Epoch), .int .i64 ((x[15]).Owner)], rd := fun w x h => True, len := fun _ _ => rfl, one := fun _ _ => rfl, ext := fun _ e => trivial, isz := fun h => (by cases h), rdz := fun _ => trivial }
structure Claim where
  Node : Int
  Inc : Int
  Health : Int
  deriving DecidableEq
@[reducible] def Claim.z : Claim := { Node := 0, Inc := 0, Health := 0 }
def t_Claim : Ty S.Claim := { sz := 3, agg := true, zero := S.Claim.z, enc := fun x h => [.int .i64 x.Node, .int .i64 x.Inc, .int .i64 x.Health], rd := fun w x h => True, len := fun _ _ => rfl, one := fun _ _ => rfl, ext := fun _ e => trivial, isz := fun h => (by cases h), rdz := fun _ => trivial }
structure Msg where
  Kind : Int
  From : Int
  To : Int
  Seq : Int
  For : Int
  About : Int
  Part : Int
  Epoch : Int
  Key : ByteArray
  Bag : S.Bag
  Ring : S.Ring
  Claims : List S.Claim
  deriving DecidableEq
@[reducible] def Msg.z : Msg := { Kind := 0, From := 0, To := 0, Seq := 0, For := 0, About := 0, Part := 0, Epoch := 0, Key := S.e0, Bag := S.Bag.z, Ring := S.Ring.z, Claims := [] }
def t_Msg : Ty S.Msg := { sz := 62, agg := true, zero := S.Msg.z, enc := fun x h => [.int .i64 x.Kind, .int .i64 x.From, .int .i64 x.To, .int .i64 x.Seq, .int .i64 x.For, .int .i64 x.About, .int .i64 x.Part, .int .i64 x.Epoch, .string x.Key, .int .i64 (x.Bag.Known[0]), .int .i64 (x.Bag.Known[1]), .int .i64 (x.Bag.Known[2]), .int .i64 (x.Bag.Known[3]), .int .i64 (x.Bag.Known[4]), .int .i64 (x.Bag.Known[5]), .int .i64 (x.Bag.Known[6]), .int .i64 (x.Bag.Known[7]), .slice (h 0).a x.Bag.Values.length (h 0).cap, .int .i64 (x.Ring.Status[0]), .int .i64 (x.Ring.Status[1]), .int .i64 (x.Ring.Status[2]), .int .i64 (x.Ring.Status[3]), .int .i64 (x.Ring.Status[4]), .int .i64 (x.Ring.Status[5]), .int .i64 (x.Ring.Status[6]), .int .i64 (x.Ring.Status[7]), .int .i64 x.Ring.Plan.Version, .int .i64 x.Ring.Plan.By, .slice (h 1).a x.Ring.Plan.Targets.length (h 1).cap, .int .i64 ((x.Ring.Parts[0]).Epoch), .int .i64 ((x.Ring.Parts[0]).Owner), .int .i64 ((x.Ring.Parts[1]).Epoch), .int .i64 ((x.Ring.Parts[1]).Owner), .int .i64 ((x.Ring.Parts[2]).Epoch), .int .i64 ((x.Ring.Parts[2]).Owner), .int .i64 ((x.Ring.Parts[3]).Epoch), .int .i64 ((x.Ring.Parts[3]).Owner), .int .i64 ((x.Ring.Parts[4]).Epoch), .int .i64 ((x.Ring.Parts[4]).Owner), .int .i64 ((x.Ring.Parts[5]).Epoch), .int .i64 ((x.Ring.Parts[5]).Owner), .int .i64 ((x.Ring.Parts[6]).Epoch), .int .i64 ((x.Ring.Parts[6]).Owner), .int .i64 ((x.Ring.Parts[7]).Epoch), .int .i64 ((x.Ring.Parts[7]).Owner), .int .i64 ((x.Ring.Parts[8]).Epoch), .int .i64 ((x.Ring.Parts[8]).Owner), .int .i64 ((x.Ring.Parts[9]).Epoch), .int .i64 ((x.Ring.Parts[9]).Owner), .int .i64 ((x.Ring.Parts[10]).Epoch), .int .i64 ((x.Ring.Parts[10]).Owner), .int .i64 ((x.Ring.Parts[11]).Epoch), .int .i64 ((x.Ring.Parts[11]).Owner), .int .i64 ((x.Ring.Parts[12]).Epoch), .int .i64 ((x.Ring.Parts[12]).Owner), .int .i64 ((x.Ring.Parts[13]).Epoch), .int .i64 ((x.Ring.Parts[13]).Owner), .int .i64 ((x.Ring.Parts[14]).Epoch), .int .i64 ((x.Ring.Parts[14]).Owner), .int .i64 ((x.Ring.Parts[15]).Epoch), .int .i64 ((x.Ring.Parts[15]).Owner), .slice (h 2).a x.Claims.length (h 2).cap], rd := fun w x h => slR S.t_Val w x.Bag.Values (h 0) ∧ slR (tInt .i64) w x.Ring.Plan.Targets (h 1) ∧ slR S.t_Claim w x.Claims (h 2), len := fun _ _ => rfl, one := fun _ _ => rfl, ext := fun hh e => ⟨(hh.1).ext e, (hh.2.1).ext e, (hh.2.2).ext e⟩, isz := fun h => (by cases h), rdz := fun _ => ⟨slR.nil _ _, slR.nil _ _, slR.nil _ _⟩ }
theorem cut_ledger_Ledger_l (x : S.ledger_Ledger) (h : Hs) : cut (S.t_ledger_Ledger.enc x h) (0 + 0) 1 = [.slice (h 0).a x.l.length (h 0).cap] := rfl
theorem cut_Deed_Bag_Values (x : S.Deed) (h : Hs) : cut (S.t_Deed.enc x h) (0 + 3 + 8) 1 = [.slice (h 0).a x.Bag.Values.length (h 0).cap] := rfl
theorem wr_Deed_Bag_Values (x : S.Deed) (h0 h1 q0 : Hd) (v : List S.Val) : wr (S.t_Deed.enc x (hf [h0, h1])) (0 + 3 + 8) ([.slice q0.a v.length q0.cap]) = S.t_Deed.enc ({ x with Bag := ({ x.Bag with Values := v } : S.Bag) } : S.Deed) (hf [q0, h1]) := rfl
theorem cut_Deed_Ring_Plan_Targets (x : S.Deed) (h : Hs) : cut (S.t_Deed.enc x h) (0 + 12 + 8 + 2) 1 = [.slice (h 1).a x.Ring.Plan.Targets.length (h 1).cap] := rfl
theorem wr_Deed_Ring_Plan_Targets (x : S.Deed) (h0 h1 q0 : Hd) (v : List Int) : wr (S.t_Deed.enc x (hf [h0, h1])) (0 + 12 + 8 + 2) ([.slice q0.a v.length q0.cap]) = S.t_Deed.enc ({ x with Ring := ({ x.Ring with Plan := ({ x.Ring.Plan with Targets := v } : S.Plan) } : S.Ring) } : S.Deed) (hf [h0, q0]) := rfl
theorem cut_Deed_Kind (x : S.Deed) (h : Hs) : cut (S.t_Deed.enc x h) (0 + 0) 1 = [.int .i64 x.Kind] := rfl
theorem cut_Deed_N (x : S.Deed) (h : Hs) : cut (S.t_Deed.enc x h) (0 + 1) 1 = [.int .i64 x.N] := rfl
theorem wr_vault_Vault_inc (x : S.vault_Vault) (h0 h1 h2 : Hd) (v : Int) : wr (S.t_vault_Vault.enc x (hf [h0, h1, h2])) (0 + 1) ([.int .i64 v]) = S.t_vault_Vault.enc ({ x with inc := v } : S.vault_Vault) (hf [h0, h1, h2]) := rfl
theorem cut_Deed_Ring (x : S.Deed) (h : Hs) : cut (S.t_Deed.enc x h) (0 + 12) 43 = S.t_Ring.enc x.Ring (hf [h 1]) := rfl
theorem cut_Ring_Plan (x : S.Ring) (h : Hs) : cut (S.t_Ring.enc x h) (0 + 8) 3 = S.t_Plan.enc x.Plan (hf [h 0]) := rfl
theorem cut_Plan_Version (x : S.Plan) (h : Hs) : cut (S.t_Plan.enc x h) (0 + 0) 1 = [.int .i64 x.Version] := rfl
theorem cut_Plan_By (x : S.Plan) (h : Hs) : cut (S.t_Plan.enc x h) (0 + 1) 1 = [.int .i64 x.By] := rfl
theorem cut_Plan_Targets (x : S.Plan) (h : Hs) : cut (S.t_Plan.enc x h) (0 + 2) 1 = [.slice (h 0).a x.Targets.length (h 0).cap] := rfl
theorem wr_Plan_Targets (x : S.Plan) (h0 q0 : Hd) (v : List Int) : wr (S.t_Plan.enc x (hf [h0])) (0 + 2) ([.slice q0.a v.length q0.cap]) = S.t_Plan.enc ({ x with Targets := v } : S.Plan) (hf [q0]) := rfl
theorem cut_Ring_Status_i (x : S.Ring) (h : Hs) (n : Nat) (hn : n < 8) : cut (S.t_Ring.enc x h) (0 + 0 + n * 1) 1 = [.int .i64 (x.Status[n]'hn)] := by
  match n, hn with
  | 0, _ | 1, _ | 2, _ | 3, _ | 4, _ | 5, _ | 6, _ | 7, _ => rfl
theorem wr_Ring_Status_i (x : S.Ring) (h0 : Hd) (v : Int) (n : Nat) (hn : n < 8) : wr (S.t_Ring.enc x (hf [h0])) (0 + 0 + n * 1) ([.int .i64 v]) = S.t_Ring.enc ({ x with Status := (x.Status.set n v hn) } : S.Ring) (hf [h0]) := by
  match n, hn with
  | 0, _ | 1, _ | 2, _ | 3, _ | 4, _ | 5, _ | 6, _ | 7, _ => simp [S.t_Ring, wr, Vector.getElem_set]
theorem cut_Entry_Epoch (x : S.Entry) (h : Hs) : cut (S.t_Entry.enc x h) (0 + 0) 1 = [.int .i64 x.Epoch] := rfl
theorem cut_Entry_Owner (x : S.Entry) (h : Hs) : cut (S.t_Entry.enc x h) (0 + 1) 1 = [.int .i64 x.Owner] := rfl
theorem cut_Ring_Parts_i (x : S.Ring) (h : Hs) (n : Nat) (hn : n < 16) : cut (S.t_Ring.enc x h) (0 + 11 + n * 2) 2 = S.t_Entry.enc (x.Parts[n]'hn) (hf []) := by
  match n, hn with
  | 0, _ | 1, _ | 2, _ | 3, _ | 4, _ | 5, _ | 6, _ | 7, _ | 8, _ | 9, _ | 10, _ | 11, _ | 12, _ | 13, _ | 14, _ | 15, _ => rfl
  | n + 16, h => exact absurd h (by omega)
theorem wr_Ring_Parts_i (x : S.Ring) (h0 : Hd) (v : S.Entry) (n : Nat) (hn : n < 16) : wr (S.t_Ring.enc x (hf [h0])) (0 + 11 + n * 2) (S.t_Entry.enc v (hf [])) = S.t_Ring.enc ({ x with Parts := (x.Parts.set n v hn) } : S.Ring) (hf [h0]) := by
  match n, hn with
  | 0, _ | 1, _ | 2, _ | 3, _ | 4, _ | 5, _ | 6, _ | 7, _ | 8, _ | 9, _ | 10, _ | 11, _ | 12, _ | 13, _ | 14, _ | 15, _ => simp [S.t_Ring, wr, S.t_Entry, Vector.getElem_set]
  | n + 16, h => exact absurd h (by omega)
theorem wr_vault_Vault_ring (x : S.vault_Vault) (h0 h1 h2 q0 : Hd) (v : S.Ring) : wr (S.t_vault_Vault.enc x (hf [h0, h1, h2])) (0 + 2) (S.t_Ring.enc v (hf [q0])) = S.t_vault_Vault.enc ({ x with ring := v } : S.vault_Vault) (hf [h0, q0, h2]) := (wr_spl (Nat.le_of_ble_eq_true rfl)).trans rfl
theorem cut_vault_Vault_rings (x : S.vault_Vault) (h : Hs) : cut (S.t_vault_Vault.enc x h) (0 + 45) 1 = [.int .i64 x.rings] := rfl
theorem wr_vault_Vault_rings (x : S.vault_Vault) (h0 h1 h2 : Hd) (v : Int) : wr (S.t_vault_Vault.enc x (hf [h0, h1, h2])) (0 + 45) ([.int .i64 v]) = S.t_vault_Vault.enc ({ x with rings := v } : S.vault_Vault) (hf [h0, h1, h2]) := rfl
theorem cut_vault_Vault_bags (x : S.vault_Vault) (h : Hs) : cut (S.t_vault_Vault.enc x h) (0 + 47) 1 = [.map (mb (h 2))] := rfl
theorem cut_Deed_Key (x : S.Deed) (h : Hs) : cut (S.t_Deed.enc x h) (0 + 2) 1 = [.string x.Key] := rfl
theorem cut_Deed_Bag (x : S.Deed) (h : Hs) : cut (S.t_Deed.enc x h) (0 + 3) 9 = S.t_Bag.enc x.Bag (hf [h 0]) := rfl
theorem cut_Bag_Values (x : S.Bag) (h : Hs) : cut (S.t_Bag.enc x h) (0 + 8) 1 = [.slice (h 0).a x.Values.length (h 0).cap] := rfl
theorem wr_Bag_Values (x : S.Bag) (h0 q0 : Hd) (v : List S.Val) : wr (S.t_Bag.enc x (hf [h0])) (0 + 8) ([.slice q0.a v.length q0.cap]) = S.t_Bag.enc ({ x with Values := v } : S.Bag) (hf [q0]) := rfl
theorem cut_vault_Vault_dots (x : S.vault_Vault) (h : Hs) : cut (S.t_vault_Vault.enc x h) (0 + 46) 1 = [.int .i64 x.dots] := rfl
theorem wr_vault_Vault_dots (x : S.vault_Vault) (h0 h1 h2 : Hd) (v : Int) : wr (S.t_vault_Vault.enc x (hf [h0, h1, h2])) (0 + 46) ([.int .i64 v]) = S.t_vault_Vault.enc ({ x with dots := v } : S.vault_Vault) (hf [h0, h1, h2]) := rfl
theorem cut_Deed_Part (x : S.Deed) (h : Hs) : cut (S.t_Deed.enc x h) (0 + 55) 1 = [.int .i64 x.Part] := rfl
theorem cut_vault_Vault_l (x : S.vault_Vault) (h : Hs) : cut (S.t_vault_Vault.enc x h) (0 + 0) 1 = [.pointer (h 0).a] := rfl
theorem cut_Bag_Known (x : S.Bag) (h : Hs) : cut (S.t_Bag.enc x h) (0 + 0) 8 = S.t_A8_int.enc x.Known (hf []) := rfl
theorem idx_A8_int (x : Vector Int 8) (h : Hs) (n : Nat) (hn : n < 8) : cut (S.t_A8_int.enc x h) (n * 1) 1 = [.int .i64 (x[n]'hn)] := by
  match n, hn with
  | 0, _ | 1, _ | 2, _ | 3, _ | 4, _ | 5, _ | 6, _ | 7, _ => rfl
theorem cut_Ring_Status (x : S.Ring) (h : Hs) : cut (S.t_Ring.enc x h) (0 + 0) 8 = S.t_A8_int.enc x.Status (hf []) := rfl
theorem cut_Ring_Parts (x : S.Ring) (h : Hs) : cut (S.t_Ring.enc x h) (0 + 11) 32 = S.t_A16_Entry.enc x.Parts (hf []) := rfl
theorem idx_A16_Entry (x : Vector S.Entry 16) (h : Hs) (n : Nat) (hn : n < 16) : cut (S.t_A16_Entry.enc x h) (n * 2) 2 = S.t_Entry.enc (x[n]'hn) (hf []) := by
  match n, hn with
  | 0, _ | 1, _ | 2, _ | 3, _ | 4, _ | 5, _ | 6, _ | 7, _ | 8, _ | 9, _ | 10, _ | 11, _ | 12, _ | 13, _ | 14, _ | 15, _ => rfl
  | n + 16, h => exact absurd h (by omega)
theorem cut_Val_Dot (x : S.Val) (h : Hs) : cut (S.t_Val.enc x h) (0 + 0) 2 = S.t_Dot.enc x.Dot (hf []) := rfl
theorem cut_Dot_Node (x : S.Dot) (h : Hs) : cut (S.t_Dot.enc x h) (0 + 0) 1 = [.int .i64 x.Node] := rfl
theorem cut_Dot_N (x : S.Dot) (h : Hs) : cut (S.t_Dot.enc x h) (0 + 1) 1 = [.int .i64 x.N] := rfl
theorem cut_A8_int_i (x : Vector Int 8) (h : Hs) (n : Nat) (hn : n < 8) : cut (S.t_A8_int.enc x h) (0 + n * 1) 1 = [.int .i64 (x[n]'hn)] := by
  match n, hn with
  | 0, _ | 1, _ | 2, _ | 3, _ | 4, _ | 5, _ | 6, _ | 7, _ => rfl
theorem cut_Val_Data (x : S.Val) (h : Hs) : cut (S.t_Val.enc x h) (0 + 2) 1 = [.string x.Data] := rfl
theorem cut_ledger_Ledger_room_ (x : S.ledger_Ledger) (h : Hs) : cut (S.t_ledger_Ledger.enc x h) (0 + 2) 1 = [.int .i64 x.room_] := rfl
theorem wr_ledger_Ledger_l (x : S.ledger_Ledger) (h0 q0 : Hd) (v : List S.Deed) : wr (S.t_ledger_Ledger.enc x (hf [h0])) (0 + 0) ([.slice q0.a v.length q0.cap]) = S.t_ledger_Ledger.enc ({ x with l := v } : S.ledger_Ledger) (hf [q0]) := rfl
theorem wr_A8_int_i (x : Vector Int 8) (v : Int) (n : Nat) (hn : n < 8) : wr (S.t_A8_int.enc x (hf [])) (0 + n * 1) ([.int .i64 v]) = S.t_A8_int.enc (x.set n v hn) (hf []) := by
  match n, hn with
  | 0, _ | 1, _ | 2, _ | 3, _ | 4, _ | 5, _ | 6, _ | 7, _ => simp [S.t_A8_int, wr, Vector.getElem_set]
def spot_May (a1 : ByteArray) : Option (Bool) :=
  if (decide (1 ≤ (a1.size : Int))) = true then (
  some (decide ((a1.size : Int) ≤ 32))
  ) else (
  some false
  )
def ledger_New (a1 : Int) : Option (S.ledger_Ledger) :=
  some ({ S.ledger_Ledger.z with room_ := (max 0 (min a1 3000)) } : S.ledger_Ledger)
def slices_Clone_api_Value_api_Value (a1 : List S.Val) : Option (List S.Val) := appsG 32 [] a1
def slices_Clone_int_int (a1 : List Int) : Option (List Int) := appsG 8 [] a1
def ledger_copied (a1 : S.Deed) : Option (S.Deed) :=
  Option.bind (S.slices_Clone_api_Value_api_Value a1.Bag.Values) fun v3 =>
  Option.bind (S.slices_Clone_int_int a1.Ring.Plan.Targets) fun v6 =>
  some ({ a1 with Bag := ({ a1.Bag with Values := v3 } : S.Bag), Ring := ({ a1.Ring with Plan := ({ a1.Ring.Plan with Targets := v6 } : S.Plan) } : S.Ring) } : S.Deed)
def ledger_Ledger_All_j3 (v2 : List S.Deed) : Option ((List S.Deed)) :=
  some v2
def ledger_Ledger_All_l4 (a1 : S.ledger_Ledger) : ((List S.Deed) × Int) → Option (((List S.Deed) × Int) ⊕ ((List S.Deed))) := fun (v13, v15) =>
  if (decide (v15 < (a1.l.length : Int))) = true then (
  Option.bind (lget a1.l v15) fun v21 =>
  Option.bind (S.ledger_copied v21) fun v24 =>
  Option.bind (appG 488 v13 v24) fun v30 =>
  some (.inl (v30, (w64 (v15 + 1))))
  ) else (
  some (.inr v13)
  )
def ledger_Ledger_All (a1 : S.ledger_Ledger) : Option ((List S.Deed)) :=
  Option.bind (
  loopN (S.ledger_Ledger_All_l4 a1) FUEL ([], 0)
  ) (fun v2 => S.ledger_Ledger_All_j3 v2)
def cmp_isNaN_int (a1 : Int) : Option (Bool) :=
  some (decide (a1 ≠ a1))
def cmp_Compare_int (a1 : Int) (a2 : Int) : Option (Int) :=
  Option.bind (S.cmp_isNaN_int a1) fun v1 =>
  Option.bind (S.cmp_isNaN_int a2) fun v3 =>
  if v1 = true then (
  if v3 = true then (
  some 0
  ) else (
  some (-1)
  )
  ) else (
  if v3 = true then (
  some 1
  ) else (
  if (decide (a1 < a2)) = true then (
  some (-1)
  ) else (
  if (decide (a2 < a1)) = true then (
  some 1
  ) else (
  some 0
  )
  )
  )
  )
def slices_Compare_int_int_j2 (a1 : List Int) (a2 : List Int)  : Option (Int) :=
  if (decide ((a1.length : Int) < (a2.length : Int))) = true then (
  some (-1)
  ) else (
  some 0
  )
def slices_Compare_int_int_l3 (a1 : List Int) (a2 : List Int) : Int → Option ((Int) ⊕ ((Unit) ⊕ (Int))) := fun v9 =>
  if (decide (v9 < (a1.length : Int))) = true then (
  Option.bind (lget a1 v9) fun v15 =>
  if (decide ((a2.length : Int) ≤ v9)) = true then (
  some (.inr (.inr 1))
  ) else (
  Option.bind (lget a2 v9) fun v18 =>
  Option.bind (S.cmp_Compare_int v15 v18) fun v20 =>
  if (decide (v20 ≠ 0)) = true then (
  some (.inr (.inr v20))
  ) else (
  some (.inl (w64 (v9 + 1)))
  )
  )
  ) else (
  some (.inr (.inl ()))
  )
def slices_Compare_int_int (a1 : List Int) (a2 : List Int) : Option (Int) :=
  andThen (
  loopN (S.slices_Compare_int_int_l3 a1 a2) FUEL 0
  ) (fun _ => S.slices_Compare_int_int_j2 a1 a2)
def cmp_Or_int_j2  : Option (Int) :=
  some 0
def cmp_Or_int_l3 (a1 : List Int) : Int → Option ((Int) ⊕ ((Unit) ⊕ (Int))) := fun v8 =>
  if (decide (v8 < (a1.length : Int))) = true then (
  Option.bind (lget a1 v8) fun v14 =>
  if (decide (v14 ≠ 0)) = true then (
  some (.inr (.inr v14))
  ) else (
  some (.inl (w64 (v8 + 1)))
  )
  ) else (
  some (.inr (.inl ()))
  )
def cmp_Or_int (a1 : List Int) : Option (Int) :=
  andThen (
  loopN (S.cmp_Or_int_l3 a1) FUEL 0
  ) (fun _ => S.cmp_Or_int_j2)
def plan_Compare (a1 : S.Plan) (a2 : S.Plan) : Option (Int) :=
  Option.bind (S.cmp_Compare_int a1.Version a2.Version) fun v3 =>
  Option.bind (S.cmp_Compare_int a1.By a2.By) fun v5 =>
  Option.bind (S.cmp_Compare_int (a1.Targets.length : Int) (a2.Targets.length : Int)) fun v7 =>
  Option.bind (S.slices_Compare_int_int a1.Targets a2.Targets) fun v9 =>
  Option.bind (S.cmp_Or_int [v3, v5, v7, v9]) fun v12 =>
  some v12
def plan_copied (a1 : S.Plan) : Option (S.Plan) :=
  Option.bind (S.slices_Clone_int_int a1.Targets) fun v3 =>
  some ({ a1 with Targets := v3 } : S.Plan)
def plan_Join (a1 : S.Plan) (a2 : S.Plan) : Option (S.Plan) :=
  Option.bind (S.plan_Compare a2 a1) fun v4 =>
  if (decide (0 < v4)) = true then (
  Option.bind (S.plan_copied a2) fun v7 =>
  some v7
  ) else (
  Option.bind (S.plan_copied a1) fun v11 =>
  some v11
  )
def entry_Compare (a1 : S.Entry) (a2 : S.Entry) : Option (Int) :=
  Option.bind (S.cmp_Compare_int a1.Epoch a2.Epoch) fun v3 =>
  Option.bind (S.cmp_Compare_int a1.Owner a2.Owner) fun v5 =>
  Option.bind (S.cmp_Or_int [v3, v5]) fun v8 =>
  some v8
def entry_Join (a1 : S.Entry) (a2 : S.Entry) : Option (S.Entry) :=
  Option.bind (S.entry_Compare a2 a1) fun v4 =>
  if (decide (0 < v4)) = true then (
  some a2
  ) else (
  some a1
  )
def ring_Join_j4 (v13 : S.Ring) : Option (S.Ring) :=
  some v13
def ring_Join_l5 (a1 : S.Ring) (a2 : S.Ring) : (S.Ring × Int) → Option ((S.Ring × Int) ⊕ (S.Ring)) := fun (v23, v25) =>
  if (decide (v25 < 16)) = true then (
  Option.bind (aget a1.Parts v25) fun v31 =>
  Option.bind (aget a2.Parts v25) fun v36 =>
  Option.bind (S.entry_Join v31 v36) fun v41 =>
  Option.bind (aset v23.Parts v25 v41) fun v43 =>
  some (.inl (({ v23 with Parts := v43 } : S.Ring), (w64 (v25 + 1))))
  ) else (
  some (.inr v23)
  )
def ring_Join_j2 (a1 : S.Ring) (a2 : S.Ring) (v10 : S.Ring) : Option (S.Ring) :=
  Option.bind (
  loopN (S.ring_Join_l5 a1 a2) FUEL (v10, 0)
  ) (fun v13 => S.ring_Join_j4 v13)
def ring_Join_l6 (a1 : S.Ring) (a2 : S.Ring) : (S.Ring × Int) → Option ((S.Ring × Int) ⊕ (S.Ring)) := fun (v56, v58) =>
  if (decide (v58 < 8)) = true then (
  Option.bind (aget a1.Status v58) fun v64 =>
  Option.bind (aget a2.Status v58) fun v69 =>
  Option.bind (aset v56.Status v58 (max v64 v69)) fun v74 =>
  some (.inl (({ v56 with Status := v74 } : S.Ring), (w64 (v58 + 1))))
  ) else (
  some (.inr v56)
  )
def ring_Join (a1 : S.Ring) (a2 : S.Ring) : Option (S.Ring) :=
  Option.bind (S.plan_Join a1.Plan a2.Plan) fun v4 =>
  Option.bind (
  loopN (S.ring_Join_l6 a1 a2) FUEL (({ S.Ring.z with Plan := v4 } : S.Ring), 0)
  ) (fun v10 => S.ring_Join_j2 a1 a2 v10)
def vault_copied (a1 : S.Bag) : Option (S.Bag) :=
  Option.bind (S.slices_Clone_api_Value_api_Value a1.Values) fun v3 =>
  some ({ a1 with Values := v3 } : S.Bag)
def spot_Hash_j2 (v2 : Int) : Option (Int) :=
  some (xorI .u64 v2 (shrI .u64 v2 32))
def spot_Hash_l3 (a1 : ByteArray) : (Int × Int) → Option ((Int × Int) ⊕ (Int)) := fun (v10, v11) =>
  if (decide (v11 < (a1.size : Int))) = true then (
  Option.bind (sget a1 v11) fun v17 =>
  some (.inl ((IntKind.u64.wrap ((xorI .u64 v10 (IntKind.u64.wrap v17)) * 1099511628211)), (w64 (v11 + 1))))
  ) else (
  some (.inr v10)
  )
def spot_Hash (a1 : ByteArray) : Option (Int) :=
  Option.bind (
  loopN (S.spot_Hash_l3 a1) FUEL (14695981039346656037, 0)
  ) (fun v2 => S.spot_Hash_j2 v2)
def spot_Of (a1 : ByteArray) : Option (Int) :=
  Option.bind (S.spot_May a1) fun v1 =>
  if (!v1) = true then (
  some (-1)
  ) else (
  Option.bind (S.spot_Hash a1) fun v4 =>
  some (IntKind.i64.wrap (Int.tmod v4 16))
  )
def vault_Vault_counts_1 (a1 : ByteArray) (a2 : S.Bag) (a3 : S.Deed) : Option (Bool) :=
  Option.bind (S.spot_Of a1) fun v2 =>
  some (decide (v2 = a3.Part))
def maps_DeleteFunc_map_string_api_Bag_string_api_Bag_vault_Vault_counts_1_x1 : (List (ByteArray × S.Bag)) → Option ((List (ByteArray × S.Bag))) := fun v7 =>
  some v7
def maps_DeleteFunc_map_string_api_Bag_string_api_Bag_vault_Vault_counts_1_l1 (a3 : S.Deed) : ByteArray → (List (ByteArray × S.Bag)) → Option (((List (ByteArray × S.Bag))) ⊕ ((List (ByteArray × S.Bag)))) := fun v13 v7 =>
  Option.bind (S.vault_Vault_counts_1 v13 ((mget v7 v13).getD S.Bag.z) a3) fun v17 =>
  if v17 = true then (
  some (.inl (mdel v7 v13))
  ) else (
  some (.inl v7)
  )
def maps_DeleteFunc_map_string_api_Bag_string_api_Bag_vault_Vault_counts_1 (a1 : List (ByteArray × S.Bag)) (a3 : S.Deed) : Option ((List (ByteArray × S.Bag))) :=
  ordFree (fun π => andThen (foldR (S.maps_DeleteFunc_map_string_api_Bag_string_api_Bag_vault_Vault_counts_1_l1 a3) π a1) S.maps_DeleteFunc_map_string_api_Bag_string_api_Bag_vault_Vault_counts_1_x1) (a1.map (·.1))
def vault_Vault_counts (a1 : S.vault_Vault) (a2 : S.Deed) : Option (S.vault_Vault) :=
  if (decide (a2.Kind = 1)) = true then (
  some ({ a1 with inc := a2.N } : S.vault_Vault)
  ) else (
  if (decide (a2.Kind = 2)) = true then (
  Option.bind (S.ring_Join a2.Ring a2.Ring) fun v4 =>
  some ({ a1 with ring := v4, rings := (w64 (a1.rings + 1)) } : S.vault_Vault)
  ) else (
  if (decide (a2.Kind = 3)) = true then (
  Option.bind (S.vault_copied a2.Bag) fun v9 =>
  some ({ a1 with dots := (max a1.dots a2.N), bags := (mput a1.bags a2.Key v9) } : S.vault_Vault)
  ) else (
  if (decide (a2.Kind = 4)) = true then (
  Option.bind (S.maps_DeleteFunc_map_string_api_Bag_string_api_Bag_vault_Vault_counts_1 a1.bags a2) fun v14 =>
  some ({ a1 with bags := v14 } : S.vault_Vault)
  ) else (
  some a1
  )
  )
  )
  )
def vault_Open_j2 (v4 : S.ledger_Ledger) (v5 : List S.Deed) (v7 : List (ByteArray × S.Bag)) (v9 : S.vault_Vault) : Option (S.vault_Vault × S.ledger_Ledger) :=
  some (({ v9 with l := ({ v4 with l := v5 } : S.ledger_Ledger), bags := v7 } : S.vault_Vault), ({ v4 with l := v5 } : S.ledger_Ledger))
def vault_Open_l3 (v13 : List S.Deed) : (S.ledger_Ledger × (List S.Deed) × (List (ByteArray × S.Bag)) × S.vault_Vault × Int) → Option ((S.ledger_Ledger × (List S.Deed) × (List (ByteArray × S.Bag)) × S.vault_Vault × Int) ⊕ (S.ledger_Ledger × (List S.Deed) × (List (ByteArray × S.Bag)) × S.vault_Vault)) := fun (v28, v29, v31, v33, v35) =>
  if (decide (v35 < (v13.length : Int))) = true then (
  Option.bind (lget v13 v35) fun v41 =>
  Option.bind (S.vault_Vault_counts ({ v33 with l := ({ v28 with l := v29 } : S.ledger_Ledger), bags := v31 } : S.vault_Vault) v41) fun v44 =>
  some (.inl (v44.l, v44.l.l, v44.bags, v44, (w64 (v35 + 1))))
  ) else (
  some (.inr (({ v28 with l := v29 } : S.ledger_Ledger), v29, v31, v33))
  )
def vault_Open (a1 : S.ledger_Ledger) : Option (S.vault_Vault × S.ledger_Ledger) :=
  Option.bind (
  Option.bind (S.ledger_Ledger_All a1) fun v13 =>
  loopN (S.vault_Open_l3 v13) FUEL (a1, a1.l, [], S.vault_Vault.z, 0)
  ) (fun (v4, v5, v7, v9) => S.vault_Open_j2 v4 v5 v7 v9)
def ref1_Node (a1 : Int) : Option (Bool) :=
  if (decide (0 ≤ a1)) = true then (
  some (decide (a1 < 8))
  ) else (
  some false
  )
def ref7_FirstRing_j2 (v12 : S.Ring) : Option (S.Ring × Bool) :=
  some (v12, true)
def ref7_FirstRing_l3 (a1 : Int) : (S.Ring × Int) → Option ((S.Ring × Int) ⊕ (S.Ring)) := fun (v22, v24) =>
  if (decide (v24 < 16)) = true then (
  Option.bind (aset v22.Parts v24 ({ Epoch := 1, Owner := a1 } : S.Entry)) fun v30 =>
  some (.inl (({ v22 with Parts := v30 } : S.Ring), (w64 (v24 + 1))))
  ) else (
  some (.inr v22)
  )
def ref7_FirstRing (a1 : Int) : Option (S.Ring × Bool) :=
  Option.bind (S.ref1_Node a1) fun v3 =>
  if (!v3) = true then (
  some (S.Ring.z, false)
  ) else (
  Option.bind (aset (Vector.replicate 8 (0 : Int)) a1 2) fun v6 =>
  Option.bind (
  loopN (S.ref7_FirstRing_l3 a1) FUEL (({ S.Ring.z with Status := v6 } : S.Ring), 0)
  ) (fun v12 => S.ref7_FirstRing_j2 v12)
  )
def ledger_named (a1 : S.Deed) : Option (S.Deed) :=
  if (decide (a1.Kind = 1)) = true then (
  some ({ S.Deed.z with Kind := a1.Kind, N := a1.N } : S.Deed)
  ) else (
  if (decide (a1.Kind = 2)) = true then (
  some ({ S.Deed.z with Kind := a1.Kind, Ring := a1.Ring } : S.Deed)
  ) else (
  if (decide (a1.Kind = 3)) = true then (
  some ({ S.Deed.z with Kind := a1.Kind, N := a1.N, Key := a1.Key, Bag := a1.Bag } : S.Deed)
  ) else (
  if (decide (a1.Kind = 4)) = true then (
  some ({ S.Deed.z with Kind := a1.Kind, Part := a1.Part } : S.Deed)
  ) else (
  some S.Deed.z
  )
  )
  )
  )
def slices_Equal_api_Value_api_Value_j2  : Option (Bool) :=
  some true
def slices_Equal_api_Value_api_Value_l3 (a1 : List S.Val) (a2 : List S.Val) : Int → Option ((Int) ⊕ ((Unit) ⊕ (Bool))) := fun v9 =>
  if (decide (v9 < (a1.length : Int))) = true then (
  Option.bind (lget a1 v9) fun v15 =>
  Option.bind (lget a2 v9) fun v17 =>
  if (!decide (v15 = v17)) = true then (
  some (.inr (.inr false))
  ) else (
  some (.inl (w64 (v9 + 1)))
  )
  ) else (
  some (.inr (.inl ()))
  )
def slices_Equal_api_Value_api_Value (a1 : List S.Val) (a2 : List S.Val) : Option (Bool) :=
  if (decide ((a1.length : Int) ≠ (a2.length : Int))) = true then (
  some false
  ) else (
  andThen (
  loopN (S.slices_Equal_api_Value_api_Value_l3 a1 a2) FUEL 0
  ) (fun _ => S.slices_Equal_api_Value_api_Value_j2)
  )
def bag_Same (a1 : S.Bag) (a2 : S.Bag) : Option (Bool) :=
  if (decide (a1.Known = a2.Known)) = true then (
  Option.bind (S.slices_Equal_api_Value_api_Value a1.Values a2.Values) fun v4 =>
  some v4
  ) else (
  some false
  )
def plan_Same (a1 : S.Plan) (a2 : S.Plan) : Option (Bool) :=
  Option.bind (S.plan_Compare a1 a2) fun v3 =>
  some (decide (v3 = 0))
def ring_Same (a1 : S.Ring) (a2 : S.Ring) : Option (Bool) :=
  if (decide (a1.Status = a2.Status)) = true then (
  if (decide (a1.Parts = a2.Parts)) = true then (
  Option.bind (S.plan_Same a1.Plan a2.Plan) fun v5 =>
  some v5
  ) else (
  some false
  )
  ) else (
  some false
  )
def ledger_Same (a1 : S.Deed) (a2 : S.Deed) : Option (Bool) :=
  if (decide (a1.Kind = a2.Kind)) = true then (
  if (decide (a1.N = a2.N)) = true then (
  if (decide (a1.Key = a2.Key)) = true then (
  if (decide (a1.Part = a2.Part)) = true then (
  Option.bind (S.bag_Same a1.Bag a2.Bag) fun v7 =>
  if v7 = true then (
  Option.bind (S.ring_Same a1.Ring a2.Ring) fun v10 =>
  some v10
  ) else (
  some false
  )
  ) else (
  some false
  )
  ) else (
  some false
  )
  ) else (
  some false
  )
  ) else (
  some false
  )
def ledger_within (a1 : Int) (a2 : Int) : Option (Bool) :=
  if (decide (0 ≤ a1)) = true then (
  some (decide (a1 ≤ a2))
  ) else (
  some false
  )
def plan_node (a1 : Int) : Option (Bool) :=
  if (decide (0 ≤ a1)) = true then (
  some (decide (a1 < 8))
  ) else (
  some false
  )
def plan_full_1 (a1 : Int) : Option (Bool) :=
  Option.bind (S.plan_node a1) fun v1 =>
  some (!v1)
def slices_IndexFunc_int_int_plan_full_1_j2  : Option (Int) :=
  some (-1)
def slices_IndexFunc_int_int_plan_full_1_l3 (a1 : List Int) : Int → Option ((Int) ⊕ ((Unit) ⊕ (Int))) := fun v8 =>
  if (decide (v8 < (a1.length : Int))) = true then (
  Option.bind (lget a1 v8) fun v14 =>
  Option.bind (S.plan_full_1 v14) fun v16 =>
  if v16 = true then (
  some (.inr (.inr v8))
  ) else (
  some (.inl (w64 (v8 + 1)))
  )
  ) else (
  some (.inr (.inl ()))
  )
def slices_IndexFunc_int_int_plan_full_1 (a1 : List Int) : Option (Int) :=
  andThen (
  loopN (S.slices_IndexFunc_int_int_plan_full_1_l3 a1) FUEL 0
  ) (fun _ => S.slices_IndexFunc_int_int_plan_full_1_j2)
def slices_ContainsFunc_int_int_plan_full_1 (a1 : List Int) : Option (Bool) :=
  Option.bind (S.slices_IndexFunc_int_int_plan_full_1 a1) fun v1 =>
  some (decide (0 ≤ v1))
def plan_full (a1 : List Int) : Option (Bool) :=
  if (decide ((a1.length : Int) = 16)) = true then (
  Option.bind (S.slices_ContainsFunc_int_int_plan_full_1 a1) fun v2 =>
  some (!v2)
  ) else (
  some false
  )
def plan_May_j1 (v4 : Bool) : Option (Bool) :=
  some v4
def plan_May (a1 : S.Plan) : Option (Bool) :=
  if (decide ((a1.Targets.length : Int) = 0)) = true then (
  Option.bind (
  if (decide (a1.Version = 0)) = true then (
  some (decide (a1.By = 0))
  ) else (
  some false
  )
  ) (fun v4 => S.plan_May_j1 v4)
  ) else (
  if (decide (1 ≤ a1.Version)) = true then (
  if (decide (a1.Version ≤ 1000000)) = true then (
  Option.bind (S.plan_node a1.By) fun v10 =>
  if v10 = true then (
  Option.bind (S.plan_full a1.Targets) fun v13 =>
  some v13
  ) else (
  some false
  )
  ) else (
  some false
  )
  ) else (
  some false
  )
  )
def entry_node (a1 : Int) : Option (Bool) :=
  if (decide (0 ≤ a1)) = true then (
  some (decide (a1 < 8))
  ) else (
  some false
  )
def entry_May (a1 : S.Entry) : Option (Bool) :=
  if (decide (a1 = S.Entry.z)) = true then (
  some true
  ) else (
  if (decide (1 ≤ a1.Epoch)) = true then (
  if (decide (a1.Epoch ≤ 1000000)) = true then (
  Option.bind (S.entry_node a1.Owner) fun v5 =>
  some v5
  ) else (
  some false
  )
  ) else (
  some false
  )
  )
def ring_May_1 (a1 : S.Entry) : Option (Bool) :=
  Option.bind (S.entry_May a1) fun v2 =>
  some (!v2)
def slices_IndexFunc_api_Entry_api_Entry_ring_May_1_j2  : Option (Int) :=
  some (-1)
def slices_IndexFunc_api_Entry_api_Entry_ring_May_1_l3 (a1 : List S.Entry) : Int → Option ((Int) ⊕ ((Unit) ⊕ (Int))) := fun v8 =>
  if (decide (v8 < (a1.length : Int))) = true then (
  Option.bind (lget a1 v8) fun v14 =>
  Option.bind (S.ring_May_1 v14) fun v16 =>
  if v16 = true then (
  some (.inr (.inr v8))
  ) else (
  some (.inl (w64 (v8 + 1)))
  )
  ) else (
  some (.inr (.inl ()))
  )
def slices_IndexFunc_api_Entry_api_Entry_ring_May_1 (a1 : List S.Entry) : Option (Int) :=
  andThen (
  loopN (S.slices_IndexFunc_api_Entry_api_Entry_ring_May_1_l3 a1) FUEL 0
  ) (fun _ => S.slices_IndexFunc_api_Entry_api_Entry_ring_May_1_j2)
def slices_ContainsFunc_api_Entry_api_Entry_ring_May_1 (a1 : List S.Entry) : Option (Bool) :=
  Option.bind (S.slices_IndexFunc_api_Entry_api_Entry_ring_May_1 a1) fun v1 =>
  some (decide (0 ≤ v1))
def ring_May_j2 (a1 : S.Ring)  : Option (Bool) :=
  Option.bind (S.plan_May a1.Plan) fun v4 =>
  if v4 = true then (
  Option.bind (S.slices_ContainsFunc_api_Entry_api_Entry_ring_May_1 a1.Parts.toList) fun v7 =>
  some (!v7)
  ) else (
  some false
  )
def ring_May_l3 (a1 : S.Ring) : Int → Option ((Int) ⊕ ((Unit) ⊕ (Bool))) := fun v15 =>
  if (decide (v15 < 8)) = true then (
  Option.bind (aget a1.Status v15) fun v21 =>
  if (decide (v21 < 0)) = true then (
  some (.inr (.inr false))
  ) else (
  if (decide (4 < v21)) = true then (
  some (.inr (.inr false))
  ) else (
  some (.inl (w64 (v15 + 1)))
  )
  )
  ) else (
  some (.inr (.inl ()))
  )
def ring_May (a1 : S.Ring) : Option (Bool) :=
  andThen (
  loopN (S.ring_May_l3 a1) FUEL 0
  ) (fun _ => S.ring_May_j2 a1)
def clock_May_j2  : Option (Bool) :=
  some true
def clock_May_l3 (a1 : Vector Int 8) : Int → Option ((Int) ⊕ ((Unit) ⊕ (Bool))) := fun v9 =>
  if (decide (v9 < 8)) = true then (
  Option.bind (aget a1 v9) fun v15 =>
  if (decide (v15 < 0)) = true then (
  some (.inr (.inr false))
  ) else (
  if (decide (1000000 < v15)) = true then (
  some (.inr (.inr false))
  ) else (
  some (.inl (w64 (v9 + 1)))
  )
  )
  ) else (
  some (.inr (.inl ()))
  )
def clock_May (a1 : Vector Int 8) : Option (Bool) :=
  andThen (
  loopN (S.clock_May_l3 a1) FUEL 0
  ) (fun _ => S.clock_May_j2)
def clock_node (a1 : Int) : Option (Bool) :=
  if (decide (0 ≤ a1)) = true then (
  some (decide (a1 < 8))
  ) else (
  some false
  )
def clock_Has (a1 : Vector Int 8) (a2 : S.Dot) : Option (Bool) :=
  Option.bind (S.clock_node a2.Node) fun v3 =>
  if v3 = true then (
  if (decide (1 ≤ a2.N)) = true then (
  Option.bind (aget a1 a2.Node) fun v7 =>
  some (decide (a2.N ≤ v7))
  ) else (
  some false
  )
  ) else (
  some false
  )
def bag_may (a1 : S.Val) (a2 : Vector Int 8) : Option (Bool) :=
  Option.bind (S.clock_Has a2 a1.Dot) fun v3 =>
  if v3 = true then (
  some (decide ((a1.Data.size : Int) ≤ 64))
  ) else (
  some false
  )
def clock_Compare (a1 : S.Dot) (a2 : S.Dot) : Option (Int) :=
  Option.bind (S.cmp_Compare_int a1.Node a2.Node) fun v3 =>
  Option.bind (S.cmp_Compare_int a1.N a2.N) fun v5 =>
  Option.bind (S.cmp_Or_int [v3, v5]) fun v8 =>
  some v8
def bag_May_j3  : Option (Bool) :=
  some true
def bag_May_l4 (a1 : S.Bag) : Int → Option ((Int) ⊕ ((Unit) ⊕ (Bool))) := fun v12 =>
  if (decide (v12 < (a1.Values.length : Int))) = true then (
  Option.bind (lget a1.Values v12) fun v18 =>
  Option.bind (S.bag_may v18 a1.Known) fun v21 =>
  if (!v21) = true then (
  some (.inr (.inr false))
  ) else (
  if (decide (0 < v12)) = true then (
  Option.bind (lget a1.Values (w64 (v12 - 1))) fun v25 =>
  Option.bind (S.clock_Compare v25.Dot v18.Dot) fun v27 =>
  if (decide (0 ≤ v27)) = true then (
  some (.inr (.inr false))
  ) else (
  some (.inl (w64 (v12 + 1)))
  )
  ) else (
  some (.inl (w64 (v12 + 1)))
  )
  )
  ) else (
  some (.inr (.inl ()))
  )
def bag_May_j1 (a1 : S.Bag) (v3 : Bool) : Option (Bool) :=
  if v3 = true then (
  some false
  ) else (
  andThen (
  loopN (S.bag_May_l4 a1) FUEL 0
  ) (fun _ => S.bag_May_j3)
  )
def bag_May (a1 : S.Bag) : Option (Bool) :=
  Option.bind (
  Option.bind (S.clock_May a1.Known) fun v32 =>
  if (!v32) = true then (
  some true
  ) else (
  some (decide (32 < (a1.Values.length : Int)))
  )
  ) (fun v3 => S.bag_May_j1 a1 v3)
def ledger_May (a1 : S.Deed) : Option (Bool) :=
  Option.bind (S.ledger_named a1) fun v2 =>
  Option.bind (S.ledger_Same a1 v2) fun v7 =>
  if (!v7) = true then (
  some false
  ) else (
  if (decide (a1.Kind = 1)) = true then (
  Option.bind (S.ledger_within a1.N 1000000) fun v11 =>
  some v11
  ) else (
  if (decide (a1.Kind = 2)) = true then (
  Option.bind (S.ring_May a1.Ring) fun v14 =>
  some v14
  ) else (
  if (decide (a1.Kind = 3)) = true then (
  Option.bind (S.ledger_within (w64 ((a1.Key.size : Int) - 1)) 31) fun v17 =>
  if v17 = true then (
  Option.bind (S.bag_May a1.Bag) fun v20 =>
  if v20 = true then (
  Option.bind (S.ledger_within a1.N 1000000) fun v23 =>
  some v23
  ) else (
  some false
  )
  ) else (
  some false
  )
  ) else (
  if (decide (a1.Kind = 4)) = true then (
  Option.bind (S.ledger_within a1.Part 15) fun v26 =>
  some v26
  ) else (
  some false
  )
  )
  )
  )
  )
def ledger_Ledger_Room (a1 : S.ledger_Ledger) : Option (Int) :=
  some (w64 (a1.room_ - (a1.l.length : Int)))
def ledger_Ledger_Write_j1 (v9 : S.ledger_Ledger) (v10 : List S.Deed) : Option (Int × S.ledger_Ledger) :=
  some (0, ({ v9 with l := v10 } : S.ledger_Ledger))
def ledger_Ledger_Write (a1 : S.ledger_Ledger) (a2 : S.Deed) : Option (Int × S.ledger_Ledger) :=
  Option.bind (S.ledger_May a2) fun v2 =>
  if (!v2) = true then (
  some (1, a1)
  ) else (
  Option.bind (S.ledger_Ledger_Room a1) fun v5 =>
  if (decide (v5 = 0)) = true then (
  some (5, a1)
  ) else (
  Option.bind (
  Option.bind (S.ledger_copied a2) fun v14 =>
  Option.bind (appG 488 a1.l v14) fun v20 =>
  some (({ a1 with l := v20 } : S.ledger_Ledger), v20)
  ) (fun (v9, v10) => S.ledger_Ledger_Write_j1 v9 v10)
  )
  )
def vault_Vault_write (a1 : S.vault_Vault) (a2 : S.Deed) : Option (Int × S.vault_Vault) :=
  Option.bind (S.ledger_Ledger_Write a1.l a2) fun (v2, v3) =>
  if (decide (v2 = 0)) = true then (
  Option.bind (S.vault_Vault_counts ({ a1 with l := v3 } : S.vault_Vault) a2) fun v8 =>
  some (v2, v8)
  ) else (
  some (v2, ({ a1 with l := v3 } : S.vault_Vault))
  )
def vault_Vault_SetRing (a1 : S.vault_Vault) (a2 : S.Ring) : Option (Int × S.vault_Vault) :=
  Option.bind (S.vault_Vault_write a1 ({ S.Deed.z with Kind := 2, Ring := a2 } : S.Deed)) fun (v2, v3) =>
  some (v2, v3)
def ref7_MayVector_j2  : Option (Bool) :=
  some true
def ref7_MayVector_l3 (a1 : Vector Int 8) : Int → Option ((Int) ⊕ ((Unit) ⊕ (Bool))) := fun v9 =>
  if (decide (v9 < 8)) = true then (
  Option.bind (aget a1 v9) fun v15 =>
  if (decide (v15 < 0)) = true then (
  some (.inr (.inr false))
  ) else (
  if (decide (1000000 < v15)) = true then (
  some (.inr (.inr false))
  ) else (
  some (.inl (w64 (v9 + 1)))
  )
  )
  ) else (
  some (.inr (.inl ()))
  )
def ref7_MayVector (a1 : Vector Int 8) : Option (Bool) :=
  andThen (
  loopN (S.ref7_MayVector_l3 a1) FUEL 0
  ) (fun _ => S.ref7_MayVector_j2)
def ref7_Has (a1 : Vector Int 8) (a2 : S.Dot) : Option (Bool) :=
  Option.bind (S.ref1_Node a2.Node) fun v3 =>
  if v3 = true then (
  if (decide (1 ≤ a2.N)) = true then (
  Option.bind (aget a1 a2.Node) fun v7 =>
  some (decide (a2.N ≤ v7))
  ) else (
  some false
  )
  ) else (
  some false
  )
def ref7_cmp (a1 : Int) (a2 : Int) : Option (Int) :=
  if (decide (a1 < a2)) = true then (
  some (-1)
  ) else (
  if (decide (a2 < a1)) = true then (
  some 1
  ) else (
  some 0
  )
  )
def ref7_CompareDot (a1 : S.Dot) (a2 : S.Dot) : Option (Int) :=
  if (decide (a1.Node ≠ a2.Node)) = true then (
  Option.bind (S.ref7_cmp a1.Node a2.Node) fun v4 =>
  some v4
  ) else (
  Option.bind (S.ref7_cmp a1.N a2.N) fun v6 =>
  some v6
  )
def ref7_MayBag_j3  : Option (Bool) :=
  some true
def ref7_MayBag_l4 (a1 : S.Bag) : Int → Option ((Int) ⊕ ((Unit) ⊕ (Bool))) := fun v12 =>
  if (decide (v12 < (a1.Values.length : Int))) = true then (
  Option.bind (lget a1.Values v12) fun v18 =>
  Option.bind (S.ref7_Has a1.Known v18.Dot) fun v21 =>
  if (!v21) = true then (
  some (.inr (.inr false))
  ) else (
  if (decide (64 < (v18.Data.size : Int))) = true then (
  some (.inr (.inr false))
  ) else (
  if (decide (0 < v12)) = true then (
  Option.bind (lget a1.Values (w64 (v12 - 1))) fun v26 =>
  Option.bind (S.ref7_CompareDot v26.Dot v18.Dot) fun v28 =>
  if (decide (0 ≤ v28)) = true then (
  some (.inr (.inr false))
  ) else (
  some (.inl (w64 (v12 + 1)))
  )
  ) else (
  some (.inl (w64 (v12 + 1)))
  )
  )
  )
  ) else (
  some (.inr (.inl ()))
  )
def ref7_MayBag_j1 (a1 : S.Bag) (v3 : Bool) : Option (Bool) :=
  if v3 = true then (
  some false
  ) else (
  andThen (
  loopN (S.ref7_MayBag_l4 a1) FUEL 0
  ) (fun _ => S.ref7_MayBag_j3)
  )
def ref7_MayBag (a1 : S.Bag) : Option (Bool) :=
  Option.bind (
  Option.bind (S.ref7_MayVector a1.Known) fun v33 =>
  if (!v33) = true then (
  some true
  ) else (
  some (decide (32 < (a1.Values.length : Int)))
  )
  ) (fun v3 => S.ref7_MayBag_j1 a1 v3)
def ref7_JoinVector_j2 (v5 : Vector Int 8) : Option ((Vector Int 8)) :=
  some v5
def ref7_JoinVector_l3 (a2 : Vector Int 8) : ((Vector Int 8) × Int) → Option (((Vector Int 8) × Int) ⊕ ((Vector Int 8))) := fun (v13, v14) =>
  if (decide (v14 < 8)) = true then (
  Option.bind (aget v13 v14) fun v20 =>
  Option.bind (aget a2 v14) fun v25 =>
  Option.bind (aset v13 v14 (max v20 v25)) fun v30 =>
  some (.inl (v30, (w64 (v14 + 1))))
  ) else (
  some (.inr v13)
  )
def ref7_JoinVector (a1 : Vector Int 8) (a2 : Vector Int 8) : Option ((Vector Int 8)) :=
  Option.bind (
  loopN (S.ref7_JoinVector_l3 a2) FUEL (a1, 0)
  ) (fun v5 => S.ref7_JoinVector_j2 v5)
def ref7_With (a1 : Vector Int 8) (a2 : S.Dot) : Option ((Vector Int 8)) :=
  Option.bind (S.ref1_Node a2.Node) fun v4 =>
  if v4 = true then (
  Option.bind (aget a1 a2.Node) fun v7 =>
  Option.bind (aset a1 a2.Node (max v7 a2.N)) fun v12 =>
  some v12
  ) else (
  some a1
  )
def ref7_put_j3 (v5 : List S.Val) : Option ((List S.Val)) :=
  some v5
def ref7_put_j2 (a1 : List S.Val) (a2 : S.Val) (v3 : Int) : Option ((List S.Val)) :=
  Option.bind (
  Option.bind (lsl a1 0 v3) fun v10 =>
  Option.bind (appsG 32 [] v10) fun v12 =>
  Option.bind (appG 32 v12 a2) fun v17 =>
  Option.bind (lsl a1 v3 (a1.length : Int)) fun v21 =>
  Option.bind (appsG 32 v17 v21) fun v23 =>
  some v23
  ) (fun v5 => S.ref7_put_j3 v5)
def ref7_put_l4 (a1 : List S.Val) (a2 : S.Val) : Int → Option ((Int) ⊕ (Int)) := fun v33 =>
  if (decide (v33 < (a1.length : Int))) = true then (
  Option.bind (lget a1 v33) fun v39 =>
  Option.bind (S.ref7_CompareDot v39.Dot a2.Dot) fun v41 =>
  if (decide (v41 < 0)) = true then (
  some (.inl (w64 (v33 + 1)))
  ) else (
  some (.inr v33)
  )
  ) else (
  some (.inr v33)
  )
def ref7_put (a1 : List S.Val) (a2 : S.Val) : Option ((List S.Val)) :=
  Option.bind (
  loopN (S.ref7_put_l4 a1 a2) FUEL 0
  ) (fun v3 => S.ref7_put_j2 a1 a2 v3)
def ref7_PutBag_j5 (a3 : S.Dot) (a4 : ByteArray) (v12 : S.Bag) : Option (S.Bag × Int) :=
  Option.bind (S.ref7_put v12.Values ({ Dot := a3, Data := a4 } : S.Val)) fun v14 =>
  if (decide (32 < (v14.length : Int))) = true then (
  some (S.Bag.z, 5)
  ) else (
  some (({ v12 with Values := v14 } : S.Bag), 0)
  )
def ref7_PutBag_l6 (a1 : S.Bag) (a2 : Vector Int 8) : (S.Bag × Int) → Option ((S.Bag × Int) ⊕ (S.Bag)) := fun (v27, v29) =>
  if (decide (v29 < (a1.Values.length : Int))) = true then (
  Option.bind (lget a1.Values v29) fun v35 =>
  Option.bind (S.ref7_Has a2 v35.Dot) fun v38 =>
  if (!v38) = true then (
  Option.bind (S.ref7_put v27.Values v35) fun v41 =>
  some (.inl (({ v27 with Values := v41 } : S.Bag), (w64 (v29 + 1))))
  ) else (
  some (.inl (v27, (w64 (v29 + 1))))
  )
  ) else (
  some (.inr v27)
  )
def ref7_PutBag_j3 (a1 : S.Bag) (a2 : Vector Int 8) (a3 : S.Dot) (a4 : ByteArray) (v10 : S.Bag) : Option (S.Bag × Int) :=
  Option.bind (
  loopN (S.ref7_PutBag_l6 a1 a2) FUEL (({ v10 with Values := [] } : S.Bag), 0)
  ) (fun v12 => S.ref7_PutBag_j5 a3 a4 v12)
def ref7_PutBag_j2 (a1 : S.Bag) (a2 : Vector Int 8) (a3 : S.Dot) (a4 : ByteArray) (v6 : Bool) : Option (S.Bag × Int) :=
  if v6 = true then (
  some (S.Bag.z, 1)
  ) else (
  Option.bind (
  Option.bind (S.ref7_JoinVector a1.Known a2) fun v47 =>
  Option.bind (S.ref7_With v47 a3) fun v49 =>
  some ({ S.Bag.z with Known := v49 } : S.Bag)
  ) (fun v10 => S.ref7_PutBag_j3 a1 a2 a3 a4 v10)
  )
def ref7_PutBag (a1 : S.Bag) (a2 : Vector Int 8) (a3 : S.Dot) (a4 : ByteArray) : Option (S.Bag × Int) :=
  Option.bind (
  Option.bind (S.ref7_MayBag a1) fun v54 =>
  if (!v54) = true then (
  some true
  ) else (
  Option.bind (S.ref7_MayVector a2) fun v57 =>
  if (!v57) = true then (
  some true
  ) else (
  Option.bind (S.ref1_Node a3.Node) fun v60 =>
  if (!v60) = true then (
  some true
  ) else (
  if (decide (a3.N < 1)) = true then (
  some true
  ) else (
  if (decide (1000000 < a3.N)) = true then (
  some true
  ) else (
  Option.bind (S.ref7_Has a1.Known a3) fun v65 =>
  if v65 = true then (
  some true
  ) else (
  some (decide (64 < (a4.size : Int)))
  )
  )
  )
  )
  )
  )
  ) (fun v6 => S.ref7_PutBag_j2 a1 a2 a3 a4 v6)
def take_node (a1 : Int) : Option (Bool) :=
  if (decide (0 ≤ a1)) = true then (
  some (decide (a1 < 8))
  ) else (
  some false
  )
def take_placed (a1 : S.Msg) : Option (Bool) :=
  Option.bind (S.take_node a1.From) fun v2 =>
  if v2 = true then (
  Option.bind (S.take_node a1.To) fun v5 =>
  if v5 = true then (
  if (decide (0 ≤ a1.Part)) = true then (
  some (decide (a1.Part < 16))
  ) else (
  some false
  )
  ) else (
  some false
  )
  ) else (
  some false
  )
def vault_Vault_Ring (a1 : S.vault_Vault) : Option (S.Ring × Bool) :=
  if (decide (a1.rings = 0)) = true then (
  some (S.Ring.z, false)
  ) else (
  Option.bind (S.ring_Join a1.ring a1.ring) fun v3 =>
  some (v3, true)
  )
def ring_part (a1 : Int) : Option (Bool) :=
  if (decide (0 ≤ a1)) = true then (
  some (decide (a1 < 16))
  ) else (
  some false
  )
def ring_Owner (a1 : S.Ring) (a2 : Int) : Option (Int) :=
  Option.bind (S.ring_part a2) fun v2 =>
  if (!v2) = true then (
  some (-1)
  ) else (
  Option.bind (aget a1.Parts a2) fun v5 =>
  if (decide (v5.Epoch = 0)) = true then (
  some (-1)
  ) else (
  Option.bind (aget a1.Parts a2) fun v11 =>
  Option.bind (S.entry_May v11) fun v16 =>
  if (!v16) = true then (
  some (-1)
  ) else (
  Option.bind (aget a1.Parts a2) fun v19 =>
  some v19.Owner
  )
  )
  )
def take_May_j1 (a2 : S.Ring) (a1 : S.Msg)  : Option (Bool) :=
  Option.bind (aget a2.Parts a1.Part) fun v4 =>
  if (decide (v4.Epoch < a1.Epoch)) = true then (
  some true
  ) else (
  if (decide (a1.Epoch = v4.Epoch)) = true then (
  Option.bind (S.ring_Owner a2 a1.Part) fun v12 =>
  some (decide (v12 = a1.From))
  ) else (
  some false
  )
  )
def take_May (a1 : S.Msg) (a2 : S.Ring) : Option (Bool) :=
  andThen (
  if (decide (a1.Kind ≠ 5)) = true then (
  if (decide (a1.Kind ≠ 7)) = true then (
  some (.inr false)
  ) else (
  Option.bind (S.take_placed a1) fun v18 =>
  if (!v18) = true then (
  some (.inr false)
  ) else (
  if (decide (a1.From = a1.To)) = true then (
  some (.inr false)
  ) else (
  Option.bind (S.ring_May a2) fun v22 =>
  if (!v22) = true then (
  some (.inr false)
  ) else (
  some (.inl ())
  )
  )
  )
  )
  ) else (
  Option.bind (S.take_placed a1) fun v25 =>
  if (!v25) = true then (
  some (.inr false)
  ) else (
  if (decide (a1.From = a1.To)) = true then (
  some (.inr false)
  ) else (
  Option.bind (S.ring_May a2) fun v29 =>
  if (!v29) = true then (
  some (.inr false)
  ) else (
  some (.inl ())
  )
  )
  )
  )
  ) (fun _ => S.take_May_j1 a2 a1)
def take_old (a1 : S.Msg) (a2 : S.vault_Vault) : Option (Int) :=
  Option.bind (S.vault_Vault_Ring a2) fun (v2, v3) =>
  if (!v3) = true then (
  some 8
  ) else (
  Option.bind (S.take_May a1 v2) fun v9 =>
  if (!v9) = true then (
  some 11
  ) else (
  some 0
  )
  )
def vault_Vault_full (a1 : S.vault_Vault) (a2 : ByteArray) : Option (Bool) :=
  if (!((mget a1.bags a2).isSome)) = true then (
  some (decide (200 ≤ (a1.bags.length : Int)))
  ) else (
  some false
  )
def clock_Join_j2 (v5 : Vector Int 8) : Option ((Vector Int 8)) :=
  some v5
def clock_Join_l3 (a2 : Vector Int 8) : ((Vector Int 8) × Int) → Option (((Vector Int 8) × Int) ⊕ ((Vector Int 8))) := fun (v13, v14) =>
  if (decide (v14 < 8)) = true then (
  Option.bind (aget a2 v14) fun v20 =>
  Option.bind (aget v13 v14) fun v25 =>
  Option.bind (aset v13 v14 (max v25 v20)) fun v30 =>
  some (.inl (v30, (w64 (v14 + 1))))
  ) else (
  some (.inr v13)
  )
def clock_Join (a1 : Vector Int 8) (a2 : Vector Int 8) : Option ((Vector Int 8)) :=
  Option.bind (
  loopN (S.clock_Join_l3 a2) FUEL (a1, 0)
  ) (fun v5 => S.clock_Join_j2 v5)
def bag_find_1 (a1 : S.Val) (a2 : S.Dot) : Option (Int) :=
  Option.bind (S.clock_Compare a1.Dot a2) fun v3 =>
  some v3
def slices_BinarySearchFunc_api_Value_api_Value_api_Dot_bag_find_1_j2 (a1 : List S.Val) (a2 : S.Dot) (v3 : Int) : Option (Int × Bool) :=
  if (decide (v3 < (a1.length : Int))) = true then (
  Option.bind (lget a1 v3) fun v5 =>
  Option.bind (S.bag_find_1 v5 a2) fun v7 =>
  some (v3, (decide (v7 = 0)))
  ) else (
  some (v3, false)
  )
def slices_BinarySearchFunc_api_Value_api_Value_api_Dot_bag_find_1_l3 (a1 : List S.Val) (a2 : S.Dot) : (Int × Int) → Option ((Int × Int) ⊕ (Int)) := fun (v16, v17) =>
  if (decide (v16 < v17)) = true then (
  Option.bind (lget a1 (IntKind.i64.wrap (shrI .u64 (IntKind.u64.wrap (w64 (v16 + v17))) 1))) fun v23 =>
  Option.bind (S.bag_find_1 v23 a2) fun v25 =>
  if (decide (v25 < 0)) = true then (
  some (.inl ((w64 ((IntKind.i64.wrap (shrI .u64 (IntKind.u64.wrap (w64 (v16 + v17))) 1)) + 1)), v17))
  ) else (
  some (.inl (v16, (IntKind.i64.wrap (shrI .u64 (IntKind.u64.wrap (w64 (v16 + v17))) 1))))
  )
  ) else (
  some (.inr v16)
  )
def slices_BinarySearchFunc_api_Value_api_Value_api_Dot_bag_find_1 (a1 : List S.Val) (a2 : S.Dot) : Option (Int × Bool) :=
  Option.bind (
  loopN (S.slices_BinarySearchFunc_api_Value_api_Value_api_Dot_bag_find_1_l3 a1 a2) FUEL (0, (a1.length : Int))
  ) (fun v3 => S.slices_BinarySearchFunc_api_Value_api_Value_api_Dot_bag_find_1_j2 a1 a2 v3)
def bag_find (a1 : List S.Val) (a2 : S.Dot) : Option (Int × Bool) :=
  Option.bind (S.slices_BinarySearchFunc_api_Value_api_Value_api_Dot_bag_find_1 a1 a2) fun (v2, v3) =>
  some (v2, v3)
def bag_stays_j3 (v4 : List S.Val) : Option ((List S.Val)) :=
  some v4
def bag_stays_l4 (a1 : S.Bag) (a2 : S.Bag) : ((List S.Val) × Int) → Option (((List S.Val) × Int) ⊕ ((List S.Val))) := fun (v14, v16) =>
  if (decide (v16 < (a1.Values.length : Int))) = true then (
  Option.bind (lget a1.Values v16) fun v22 =>
  Option.bind (S.bag_find a2.Values v22.Dot) fun (v25, v26) =>
  if v26 = true then (
  Option.bind (appG 32 v14 v22) fun v30 =>
  some (.inl (v30, (w64 (v16 + 1))))
  ) else (
  Option.bind (S.clock_Has a2.Known v22.Dot) fun v34 =>
  if (!v34) = true then (
  Option.bind (appG 32 v14 v22) fun v38 =>
  some (.inl (v38, (w64 (v16 + 1))))
  ) else (
  some (.inl (v14, (w64 (v16 + 1))))
  )
  )
  ) else (
  some (.inr v14)
  )
def bag_stays (a1 : S.Bag) (a2 : S.Bag) : Option ((List S.Val)) :=
  Option.bind (
  loopN (S.bag_stays_l4 a1 a2) FUEL ([], 0)
  ) (fun v4 => S.bag_stays_j3 v4)
def bag_Join_j4 (v13 : List S.Val) (v15 : S.Bag) : Option (S.Bag × Int) :=
  if (decide (32 < (v13.length : Int))) = true then (
  some (S.Bag.z, 5)
  ) else (
  some (({ v15 with Values := v13 } : S.Bag), 0)
  )
def bag_Join_l5 (v20 : List S.Val) : ((List S.Val) × S.Bag × Int) → Option (((List S.Val) × S.Bag × Int) ⊕ ((List S.Val) × S.Bag)) := fun (v30, v32, v33) =>
  if (decide (v33 < (v20.length : Int))) = true then (
  Option.bind (lget v20 v33) fun v39 =>
  Option.bind (S.bag_find v30 v39.Dot) fun (v42, v43) =>
  if (!v43) = true then (
  Option.bind (insG v30 v42 v39) fun v47 =>
  some (.inl (v47, ({ v32 with Values := v47 } : S.Bag), (w64 (v33 + 1))))
  ) else (
  some (.inl (v30, ({ v32 with Values := v30 } : S.Bag), (w64 (v33 + 1))))
  )
  ) else (
  some (.inr (v30, ({ v32 with Values := v30 } : S.Bag)))
  )
def bag_Join_j2 (a2 : S.Bag) (a1 : S.Bag) (v8 : List S.Val) (v11 : S.Bag) : Option (S.Bag × Int) :=
  Option.bind (
  Option.bind (S.bag_stays a2 a1) fun v20 =>
  loopN (S.bag_Join_l5 v20) FUEL (v8, ({ v11 with Values := v8 } : S.Bag), 0)
  ) (fun (v13, v15) => S.bag_Join_j4 v13 v15)
def bag_Join_j1 (a1 : S.Bag) (a2 : S.Bag) (v5 : Bool) : Option (S.Bag × Int) :=
  if v5 = true then (
  some (S.Bag.z, 1)
  ) else (
  Option.bind (
  Option.bind (S.clock_Join a1.Known a2.Known) fun v53 =>
  Option.bind (S.bag_stays a1 a2) fun v55 =>
  some (v55, ({ Known := v53, Values := v55 } : S.Bag))
  ) (fun (v8, v11) => S.bag_Join_j2 a2 a1 v8 v11)
  )
def bag_Join (a1 : S.Bag) (a2 : S.Bag) : Option (S.Bag × Int) :=
  Option.bind (
  Option.bind (S.bag_May a1) fun v61 =>
  if (!v61) = true then (
  some true
  ) else (
  Option.bind (S.bag_May a2) fun v64 =>
  some (!v64)
  )
  ) (fun v5 => S.bag_Join_j1 a1 a2 v5)
def bag_Below (a1 : S.Bag) (a2 : S.Bag) : Option (Bool) :=
  Option.bind (S.bag_Join a1 a2) fun (v3, v4) =>
  if (decide (v4 = 0)) = true then (
  Option.bind (S.bag_Same v3 a2) fun v10 =>
  some v10
  ) else (
  some false
  )
def vault_Vault_Merge_j3 (v10 : Int) (a1 : S.vault_Vault) (a2 : ByteArray) (v9 : S.Bag) (v16 : Bool) : Option (Int × S.vault_Vault) :=
  if v16 = true then (
  some (v10, a1)
  ) else (
  Option.bind (S.vault_Vault_write a1 ({ S.Deed.z with Kind := 3, N := a1.dots, Key := a2, Bag := v9 } : S.Deed)) fun (v18, v19) =>
  some (v18, v19)
  )
def vault_Vault_Merge_j2 (a1 : S.vault_Vault) (a2 : ByteArray) (a3 : S.Bag) (v3 : Bool) : Option (Int × S.vault_Vault) :=
  if v3 = true then (
  some (1, a1)
  ) else (
  Option.bind (S.vault_Vault_full a1 a2) fun v5 =>
  if v5 = true then (
  some (5, a1)
  ) else (
  Option.bind (S.bag_Join ((mget a1.bags a2).getD S.Bag.z) a3) fun (v9, v10) =>
  Option.bind (
  if (decide (v10 ≠ 0)) = true then (
  some true
  ) else (
  Option.bind (S.bag_Below a3 ((mget a1.bags a2).getD S.Bag.z)) fun v28 =>
  some v28
  )
  ) (fun v16 => S.vault_Vault_Merge_j3 v10 a1 a2 v9 v16)
  )
  )
def vault_Vault_Merge (a1 : S.vault_Vault) (a2 : ByteArray) (a3 : S.Bag) : Option (Int × S.vault_Vault) :=
  Option.bind (
  Option.bind (S.spot_May a2) fun v32 =>
  if (!v32) = true then (
  some true
  ) else (
  Option.bind (S.bag_May a3) fun v35 =>
  some (!v35)
  )
  ) (fun v3 => S.vault_Vault_Merge_j2 a1 a2 a3 v3)
def ledger_Ledger_Len (a1 : S.ledger_Ledger) : Option (Int) :=
  some (a1.l.length : Int)
def ledger_Ledger_Sure (a1 : S.ledger_Ledger) : Option (Int) :=
  some a1.sure
def ledger_Ledger_Sync (a1 : S.ledger_Ledger) : Option (Int × S.ledger_Ledger) :=
  Option.bind (S.ledger_Ledger_Len a1) fun v1 =>
  Option.bind (S.ledger_Ledger_Sure a1) fun v3 =>
  some ((w64 (v1 - v3)), ({ a1 with sure := (a1.l.length : Int) } : S.ledger_Ledger))
def vault_Vault_Sync (a1 : S.vault_Vault) : Option (Int × S.vault_Vault) :=
  Option.bind (S.ledger_Ledger_Sync a1.l) fun (v1, v2) =>
  some (v1, ({ a1 with l := v2 } : S.vault_Vault))
def take_back (a1 : S.Msg) (a2 : Int) : Option (S.Msg) :=
  some ({ S.Msg.z with Kind := a2, From := a1.To, To := a1.From, Part := a1.Part, Epoch := a1.Epoch } : S.Msg)
def take_Give_j1 (a2 : S.vault_Vault) (a1 : S.Msg) (v4 : Bool) : Option (S.Msg × Int × S.vault_Vault) :=
  if v4 = true then (
  some (S.Msg.z, 1, a2)
  ) else (
  Option.bind (S.take_old a1 a2) fun v6 =>
  if (decide (v6 ≠ 0)) = true then (
  some (S.Msg.z, v6, a2)
  ) else (
  Option.bind (S.vault_Vault_Merge a2 a1.Key a1.Bag) fun (v9, v10) =>
  if (decide (v9 ≠ 0)) = true then (
  some (S.Msg.z, v9, v10)
  ) else (
  Option.bind (S.vault_Vault_Sync v10) fun (v17, v18) =>
  Option.bind (S.take_back a1 6) fun v24 =>
  Option.bind (S.slices_Clone_api_Value_api_Value a1.Bag.Values) fun v31 =>
  some (({ v24 with Seq := a1.Seq, Key := a1.Key, Bag := ({ a1.Bag with Values := v31 } : S.Bag) } : S.Msg), 0, v18)
  )
  )
  )
def take_Give (a1 : S.Msg) (a2 : S.vault_Vault) : Option (S.Msg × Int × S.vault_Vault) :=
  Option.bind (
  if (decide (a1.Kind ≠ 5)) = true then (
  some true
  ) else (
  Option.bind (S.take_placed a1) fun v38 =>
  if (!v38) = true then (
  some true
  ) else (
  Option.bind (S.spot_Of a1.Key) fun v41 =>
  some (decide (v41 ≠ a1.Part))
  )
  )
  ) (fun v4 => S.take_Give_j1 a2 a1 v4)
def vault_Vault_Bag (a1 : S.vault_Vault) (a2 : ByteArray) : Option (S.Bag) :=
  Option.bind (S.vault_copied ((mget a1.bags a2).getD S.Bag.z)) fun v2 =>
  some v2
def law21_awake_j1 (v35 : S.ledger_Ledger) (v36 : List S.Deed) (v38 : S.vault_Vault) (v40 : List (ByteArray × S.Bag)) (v43 : S.Msg) (v47 : Int) : Option (Bool) :=
  if (decide (v47 = 0)) = true then (
  if (decide (v43.Kind = 6)) = true then (
  if (decide (v43.Seq = 4)) = true then (
  if (decide (v43.To = 0)) = true then (
  Option.bind (S.ledger_Ledger_Sure ({ v35 with l := v36 } : S.ledger_Ledger)) fun v52 =>
  if (decide (v52 = 2)) = true then (
  Option.bind (S.vault_Vault_Bag ({ v38 with l := ({ v35 with l := v36 } : S.ledger_Ledger), bags := v40 } : S.vault_Vault) (⟨#[107]⟩ : ByteArray)) fun v55 =>
  some (decide ((v55.Values.length : Int) = 1))
  ) else (
  some false
  )
  ) else (
  some false
  )
  ) else (
  some false
  )
  ) else (
  some false
  )
  ) else (
  some false
  )
def law21_awake : Option (Bool) :=
  Option.bind (S.ledger_New 9) fun v1 =>
  Option.bind (S.vault_Open v1) fun (v6, v7) =>
  Option.bind (S.ref7_FirstRing 0) fun (v15, v16) =>
  Option.bind (S.vault_Vault_SetRing ({ v6 with l := v7 } : S.vault_Vault) v15) fun (v21, v22) =>
  Option.bind (S.ref7_PutBag S.Bag.z (Vector.replicate 8 (0 : Int)) ({ Node := 0, N := 1 } : S.Dot) (⟨#[120]⟩ : ByteArray)) fun (v28, v29) =>
  Option.bind (
  Option.bind (S.spot_Of (⟨#[107]⟩ : ByteArray)) fun v61 =>
  Option.bind (S.take_Give ({ S.Msg.z with Kind := 5, From := 0, To := 1, Seq := 4, Part := v61, Epoch := 1, Key := (⟨#[107]⟩ : ByteArray), Bag := v28 } : S.Msg) v22) fun (v63, v64, v65) =>
  some (v65.l, v65.l.l, v65, v65.bags, v63, v64)
  ) (fun (v35, v36, v38, v40, v43, v47) => S.law21_awake_j1 v35 v36 v38 v40 v43 v47)
def ref7_MayKey (a1 : ByteArray) : Option (Bool) :=
  if (decide (1 ≤ (a1.size : Int))) = true then (
  some (decide ((a1.size : Int) ≤ 32))
  ) else (
  some false
  )
def ref7_Hash_j2 (v2 : Int) : Option (Int) :=
  some (xorI .u64 v2 (shrI .u64 v2 32))
def ref7_Hash_l3 (a1 : ByteArray) : (Int × Int) → Option ((Int × Int) ⊕ (Int)) := fun (v10, v11) =>
  if (decide (v11 < (a1.size : Int))) = true then (
  Option.bind (sget a1 v11) fun v17 =>
  some (.inl ((IntKind.u64.wrap ((xorI .u64 v10 (IntKind.u64.wrap v17)) * 1099511628211)), (w64 (v11 + 1))))
  ) else (
  some (.inr v10)
  )
def ref7_Hash (a1 : ByteArray) : Option (Int) :=
  Option.bind (
  loopN (S.ref7_Hash_l3 a1) FUEL (14695981039346656037, 0)
  ) (fun v2 => S.ref7_Hash_j2 v2)
def ref7_Spot (a1 : ByteArray) : Option (Int) :=
  Option.bind (S.ref7_MayKey a1) fun v1 =>
  if (!v1) = true then (
  some (-1)
  ) else (
  Option.bind (S.ref7_Hash a1) fun v4 =>
  some (IntKind.i64.wrap (Int.tmod v4 16))
  )
def take_End_j1 (a2 : S.vault_Vault) (a1 : S.Msg) (v4 : Bool) : Option (S.Msg × Int × S.vault_Vault) :=
  if v4 = true then (
  some (S.Msg.z, 1, a2)
  ) else (
  Option.bind (S.take_old a1 a2) fun v6 =>
  if (decide (v6 ≠ 0)) = true then (
  some (S.Msg.z, v6, a2)
  ) else (
  Option.bind (S.vault_Vault_Sync a2) fun (v9, v10) =>
  Option.bind (S.take_back a1 8) fun v16 =>
  some (v16, 0, v10)
  )
  )
def take_End (a1 : S.Msg) (a2 : S.vault_Vault) : Option (S.Msg × Int × S.vault_Vault) :=
  Option.bind (
  if (decide (a1.Kind ≠ 7)) = true then (
  some true
  ) else (
  Option.bind (S.take_placed a1) fun v25 =>
  some (!v25)
  )
  ) (fun v4 => S.take_End_j1 a2 a1 v4)
def law21_TakeEpochs_j3 (v78 : Bool) : Option (Bool) :=
  some v78
def law21_TakeEpochs_j2 (a5 : Int) (v12 : Int) (a3 : Int) (a1 : ByteArray) (v22 : S.Bag) (v43 : S.vault_Vault) (v51 : Bool) : Option (Bool) :=
  Option.bind (S.take_Give ({ S.Msg.z with Kind := 5, From := (IntKind.i64.wrap (Int.tmod (IntKind.u64.wrap a5) 7)), To := 7, Seq := 1, Part := v12, Epoch := (IntKind.i64.wrap (Int.tmod (IntKind.u64.wrap a3) 12)), Key := a1, Bag := v22 } : S.Msg) v43) fun (v52, v53, v54) =>
  Option.bind (S.take_End ({ S.Msg.z with Kind := 7, From := (IntKind.i64.wrap (Int.tmod (IntKind.u64.wrap a5) 7)), To := 7, Seq := 1, Part := v12, Epoch := (IntKind.i64.wrap (Int.tmod (IntKind.u64.wrap a3) 12)), Key := a1, Bag := v22 } : S.Msg) v54) fun (v64, v65, v66) =>
  if (!v51) = true then (
  Option.bind (
  if (decide (v53 = 11)) = true then (
  if (decide (v65 = 11)) = true then (
  Option.bind (S.vault_Vault_Bag v66 a1) fun v83 =>
  Option.bind (S.bag_Same v83 S.Bag.z) fun v87 =>
  if v87 = true then (
  Option.bind (S.law21_awake) fun v90 =>
  some v90
  ) else (
  some false
  )
  ) else (
  some false
  )
  ) else (
  some false
  )
  ) (fun v78 => S.law21_TakeEpochs_j3 v78)
  ) else (
  if (decide (v53 = 0)) = true then (
  if (decide (v65 = 0)) = true then (
  Option.bind (S.vault_Vault_Bag v66 a1) fun v94 =>
  Option.bind (S.bag_Same v94 v22) fun v98 =>
  if v98 = true then (
  if (decide (v52.Kind = 6)) = true then (
  if (decide (v52.To = (IntKind.i64.wrap (Int.tmod (IntKind.u64.wrap a5) 7)))) = true then (
  Option.bind (S.law21_awake) fun v103 =>
  some v103
  ) else (
  some false
  )
  ) else (
  some false
  )
  ) else (
  some false
  )
  ) else (
  some false
  )
  ) else (
  some false
  )
  )
def law21_TakeEpochs_j1 (v6 : S.Ring) (v12 : Int) (a2 : Int) (a4 : Int) (a5 : Int) (a3 : Int) (a1 : ByteArray) (v15 : Bool) : Option (Bool) :=
  if v15 = true then (
  some false
  ) else (
  Option.bind (aset v6.Parts v12 ({ Epoch := (w64 (1 + (IntKind.i64.wrap (Int.tmod (IntKind.u64.wrap a2) 9)))), Owner := (IntKind.i64.wrap (Int.tmod (IntKind.u64.wrap a4) 7)) } : S.Entry)) fun v17 =>
  Option.bind (S.ref7_PutBag S.Bag.z (Vector.replicate 8 (0 : Int)) ({ Node := (IntKind.i64.wrap (Int.tmod (IntKind.u64.wrap a5) 7)), N := 1 } : S.Dot) (⟨#[120]⟩ : ByteArray)) fun (v22, v23) =>
  Option.bind (S.ledger_New 9) fun v28 =>
  Option.bind (S.vault_Open v28) fun (v33, v34) =>
  Option.bind (S.vault_Vault_SetRing ({ v33 with l := v34 } : S.vault_Vault) ({ v6 with Parts := v17 } : S.Ring)) fun (v42, v43) =>
  Option.bind (
  if (decide ((w64 (1 + (IntKind.i64.wrap (Int.tmod (IntKind.u64.wrap a2) 9)))) < (IntKind.i64.wrap (Int.tmod (IntKind.u64.wrap a3) 12)))) = true then (
  some true
  ) else (
  if (decide ((IntKind.i64.wrap (Int.tmod (IntKind.u64.wrap a3) 12)) = (w64 (1 + (IntKind.i64.wrap (Int.tmod (IntKind.u64.wrap a2) 9)))))) = true then (
  some (decide ((IntKind.i64.wrap (Int.tmod (IntKind.u64.wrap a5) 7)) = (IntKind.i64.wrap (Int.tmod (IntKind.u64.wrap a4) 7))))
  ) else (
  some false
  )
  )
  ) (fun v51 => S.law21_TakeEpochs_j2 a5 v12 a3 a1 v22 v43 v51)
  )
def law21_TakeEpochs (a1 : ByteArray) (a2 : Int) (a3 : Int) (a4 : Int) (a5 : Int) : Option (Bool) :=
  Option.bind (S.spot_May a1) fun v1 =>
  if (!v1) = true then (
  Option.bind (S.law21_awake) fun v4 =>
  some v4
  ) else (
  Option.bind (S.ref7_FirstRing 0) fun (v6, v7) =>
  Option.bind (S.ref7_Spot a1) fun v12 =>
  Option.bind (
  if (decide (v12 < 0)) = true then (
  some true
  ) else (
  Option.bind (S.spot_Of a1) fun v112 =>
  some (decide (v12 ≠ v112))
  )
  ) (fun v15 => S.law21_TakeEpochs_j1 v6 v12 a2 a4 a5 a3 a1 v15)
  )
def clock_With (a1 : Vector Int 8) (a2 : S.Dot) : Option ((Vector Int 8)) :=
  Option.bind (S.clock_node a2.Node) fun v4 =>
  if v4 = true then (
  Option.bind (aget a1 a2.Node) fun v7 =>
  Option.bind (aset a1 a2.Node (max v7 a2.N)) fun v12 =>
  some v12
  ) else (
  some a1
  )
def bag_Put_j6 (a3 : S.Dot) (a4 : ByteArray) (v14 : S.Bag) (v15 : List S.Val) : Option (S.Bag × Int) :=
  Option.bind (S.bag_find v15 a3) fun (v17, v18) =>
  Option.bind (insG v15 v17 ({ Dot := a3, Data := a4 } : S.Val)) fun v21 =>
  if (decide (32 < (v21.length : Int))) = true then (
  some (S.Bag.z, 5)
  ) else (
  some (({ v14 with Values := v21 } : S.Bag), 0)
  )
def bag_Put_l7 (a1 : S.Bag) (a2 : Vector Int 8) : (S.Bag × (List S.Val) × Int) → Option ((S.Bag × (List S.Val) × Int) ⊕ (S.Bag × (List S.Val))) := fun (v36, v37, v39) =>
  if (decide (v39 < (a1.Values.length : Int))) = true then (
  Option.bind (lget a1.Values v39) fun v45 =>
  Option.bind (S.clock_Has a2 v45.Dot) fun v48 =>
  if (!v48) = true then (
  Option.bind (appG 32 v37 v45) fun v52 =>
  some (.inl (({ v36 with Values := v52 } : S.Bag), v52, (w64 (v39 + 1))))
  ) else (
  some (.inl (({ v36 with Values := v37 } : S.Bag), v37, (w64 (v39 + 1))))
  )
  ) else (
  some (.inr (({ v36 with Values := v37 } : S.Bag), v37))
  )
def bag_Put_j3 (a1 : S.Bag) (a2 : Vector Int 8) (a3 : S.Dot) (a4 : ByteArray) (v12 : S.Bag) : Option (S.Bag × Int) :=
  Option.bind (
  loopN (S.bag_Put_l7 a1 a2) FUEL (({ v12 with Values := [] } : S.Bag), [], 0)
  ) (fun (v14, v15) => S.bag_Put_j6 a3 a4 v14 v15)
def bag_Put_j2 (a1 : S.Bag) (a2 : Vector Int 8) (a3 : S.Dot) (a4 : ByteArray) (v8 : Bool) : Option (S.Bag × Int) :=
  if v8 = true then (
  some (S.Bag.z, 1)
  ) else (
  Option.bind (
  Option.bind (S.clock_Join a1.Known a2) fun v58 =>
  Option.bind (S.clock_With v58 a3) fun v60 =>
  some ({ S.Bag.z with Known := v60 } : S.Bag)
  ) (fun v12 => S.bag_Put_j3 a1 a2 a3 a4 v12)
  )
def bag_Put_j1 (a1 : S.Bag) (a2 : Vector Int 8) (a3 : S.Dot) (a4 : ByteArray) (v6 : Bool) : Option (S.Bag × Int) :=
  Option.bind (
  Option.bind (S.bag_May a1) fun v65 =>
  if (!v65) = true then (
  some true
  ) else (
  Option.bind (S.clock_May a2) fun v68 =>
  if (!v68) = true then (
  some true
  ) else (
  if (!v6) = true then (
  some true
  ) else (
  Option.bind (S.clock_Has a1.Known a3) fun v72 =>
  if v72 = true then (
  some true
  ) else (
  some (decide (64 < (a4.size : Int)))
  )
  )
  )
  )
  ) (fun v8 => S.bag_Put_j2 a1 a2 a3 a4 v8)
def bag_Put (a1 : S.Bag) (a2 : Vector Int 8) (a3 : S.Dot) (a4 : ByteArray) : Option (S.Bag × Int) :=
  Option.bind (
  if (decide (0 ≤ a3.Node)) = true then (
  if (decide (a3.Node < 8)) = true then (
  if (decide (1 ≤ a3.N)) = true then (
  some (decide (a3.N ≤ 1000000))
  ) else (
  some false
  )
  ) else (
  some false
  )
  ) else (
  some false
  )
  ) (fun v6 => S.bag_Put_j1 a1 a2 a3 a4 v6)
def vault_Vault_Put_j3 (a1 : S.vault_Vault) (a3 : ByteArray) (a2 : Int) (v13 : S.Bag) (v15 : Int) : Option (S.Dot × Int × S.vault_Vault) :=
  if (decide (v15 = 0)) = true then (
  Option.bind (S.vault_Vault_write a1 ({ S.Deed.z with Kind := 3, N := (w64 (a1.dots + 1)), Key := a3, Bag := v13 } : S.Deed)) fun (v17, v18) =>
  if (decide (v17 ≠ 0)) = true then (
  some (S.Dot.z, v17, v18)
  ) else (
  some (({ Node := a2, N := (w64 (a1.dots + 1)) } : S.Dot), 0, v18)
  )
  ) else (
  if (decide (v15 ≠ 0)) = true then (
  some (S.Dot.z, v15, a1)
  ) else (
  some (({ Node := a2, N := (w64 (a1.dots + 1)) } : S.Dot), 0, a1)
  )
  )
def vault_Vault_Put_j2 (a1 : S.vault_Vault) (a3 : ByteArray) (a4 : Vector Int 8) (a2 : Int) (a5 : ByteArray) (v4 : Bool) : Option (S.Dot × Int × S.vault_Vault) :=
  if v4 = true then (
  some (S.Dot.z, 1, a1)
  ) else (
  if (decide (a1.dots = 1000000)) = true then (
  some (S.Dot.z, 6, a1)
  ) else (
  Option.bind (S.vault_Vault_full a1 a3) fun v7 =>
  if v7 = true then (
  some (S.Dot.z, 5, a1)
  ) else (
  Option.bind (
  Option.bind (S.bag_Put ((mget a1.bags a3).getD S.Bag.z) a4 ({ Node := a2, N := (w64 (a1.dots + 1)) } : S.Dot) a5) fun (v28, v29) =>
  some (v28, v29)
  ) (fun (v13, v15) => S.vault_Vault_Put_j3 a1 a3 a2 v13 v15)
  )
  )
  )
def vault_Vault_Put (a1 : S.vault_Vault) (a2 : Int) (a3 : ByteArray) (a4 : Vector Int 8) (a5 : ByteArray) : Option (S.Dot × Int × S.vault_Vault) :=
  Option.bind (
  if (decide (a2 < 0)) = true then (
  some true
  ) else (
  if (decide (8 ≤ a2)) = true then (
  some true
  ) else (
  Option.bind (S.spot_May a3) fun v38 =>
  some (!v38)
  )
  )
  ) (fun v4 => S.vault_Vault_Put_j2 a1 a3 a4 a2 a5 v4)
def law18_awake : Option (Bool) :=
  Option.bind (S.ledger_New 9) fun v1 =>
  Option.bind (S.vault_Open v1) fun (v6, v7) =>
  Option.bind (S.vault_Vault_Put ({ v6 with l := v7 } : S.vault_Vault) 0 (⟨#[107]⟩ : ByteArray) (Vector.replicate 8 (0 : Int)) (⟨#[97]⟩ : ByteArray)) fun (v15, v16, v17) =>
  Option.bind (S.vault_Vault_Bag v17 (⟨#[107]⟩ : ByteArray)) fun v24 =>
  if (decide (v16 = 0)) = true then (
  if (decide (v15 = ({ Node := 0, N := 1 } : S.Dot))) = true then (
  if (decide ((v24.Values.length : Int) = 1)) = true then (
  Option.bind (lget v24.Values 0) fun v32 =>
  if (decide (v32.Data = (⟨#[97]⟩ : ByteArray))) = true then (
  Option.bind (S.ledger_Ledger_Len v17.l) fun v35 =>
  some (decide (v35 = 1))
  ) else (
  some false
  )
  ) else (
  some false
  )
  ) else (
  some false
  )
  ) else (
  some false
  )
def vault_Vault_Keys_x1 : (List ByteArray) → Option ((List ByteArray)) := fun v8 =>
  Option.bind (sortG v8) fun v17 =>
  some v17
def vault_Vault_Keys_l1 (a2 : Int) : ByteArray → (List ByteArray) → Option (((List ByteArray)) ⊕ ((List ByteArray))) := fun v14 v8 =>
  Option.bind (S.spot_Of v14) fun v20 =>
  if (decide (v20 = a2)) = true then (
  Option.bind (appG 16 v8 v14) fun v24 =>
  some (.inl v24)
  ) else (
  some (.inl v8)
  )
def vault_Vault_Keys (a1 : S.vault_Vault) (a2 : Int) : Option ((List ByteArray)) :=
  if (decide (a2 < 0)) = true then (
  some []
  ) else (
  ordFree (fun π => andThen (foldR (S.vault_Vault_Keys_l1 a2) π []) S.vault_Vault_Keys_x1) (a1.bags.map (·.1))
  )
def vault_Vault_Drop_j2 (a1 : S.vault_Vault) (a2 : Int) (v2 : Bool) : Option (Int × S.vault_Vault) :=
  if v2 = true then (
  some (1, a1)
  ) else (
  Option.bind (S.vault_Vault_Keys a1 a2) fun v4 =>
  if (decide ((v4.length : Int) = 0)) = true then (
  some (0, a1)
  ) else (
  Option.bind (S.vault_Vault_write a1 ({ S.Deed.z with Kind := 4, Part := a2 } : S.Deed)) fun (v9, v10) =>
  some (v9, v10)
  )
  )
def vault_Vault_Drop (a1 : S.vault_Vault) (a2 : Int) : Option (Int × S.vault_Vault) :=
  Option.bind (
  if (decide (a2 < 0)) = true then (
  some true
  ) else (
  some (decide (16 ≤ a2))
  )
  ) (fun v2 => S.vault_Vault_Drop_j2 a1 a2 v2)
def law18_VaultKeys_j28 (v30 : Int) (v27 : List (ByteArray × Int)) (v31 : List ByteArray) (v39 : S.vault_Vault) (v36 : S.ledger_Ledger) (v37 : List S.Deed) (v41 : List (ByteArray × S.Bag)) (v46 : Int) : Option (Bool) :=
  if (decide (v30 = (v27.length : Int))) = true then (
  if (decide (v46 = (w64 (v30 - (v31.length : Int))))) = true then (
  Option.bind (S.vault_Vault_Drop ({ v39 with l := ({ v36 with l := v37 } : S.ledger_Ledger), bags := v41 } : S.vault_Vault) (-1)) fun (v49, v50) =>
  if (decide (v49 = 1)) = true then (
  Option.bind (S.law18_awake) fun v57 =>
  some v57
  ) else (
  some false
  )
  ) else (
  some false
  )
  ) else (
  some false
  )
def law18_VaultKeys_l29 (v39 : S.vault_Vault) (v36 : S.ledger_Ledger) (v37 : List S.Deed) (v41 : List (ByteArray × S.Bag)) : (Int × Int) → Option ((Int × Int) ⊕ (Int)) := fun (v66, v67) =>
  if (decide (v67 < 16)) = true then (
  Option.bind (S.vault_Vault_Keys ({ v39 with l := ({ v36 with l := v37 } : S.ledger_Ledger), bags := v41 } : S.vault_Vault) v67) fun v73 =>
  some (.inl ((w64 (v66 + (v73.length : Int))), (w64 (v67 + 1))))
  ) else (
  some (.inr v66)
  )
def law18_VaultKeys_j26 (v30 : Int) (v27 : List (ByteArray × Int)) (v31 : List ByteArray) (v36 : S.ledger_Ledger) (v37 : List S.Deed) (v39 : S.vault_Vault) (v41 : List (ByteArray × S.Bag)) (v43 : Bool) : Option (Bool) :=
  if v43 = true then (
  some false
  ) else (
  Option.bind (
  loopN (S.law18_VaultKeys_l29 v39 v36 v37 v41) FUEL (0, 0)
  ) (fun v46 => S.law18_VaultKeys_j28 v30 v27 v31 v39 v36 v37 v41 v46)
  )
def law18_VaultKeys_j25 (v23 : S.vault_Vault) (v20 : S.ledger_Ledger) (v21 : List S.Deed) (v25 : List (ByteArray × S.Bag)) (a2 : Int) (v27 : List (ByteArray × Int)) (v30 : Int) : Option (Bool) :=
  Option.bind (S.vault_Vault_Keys ({ v23 with l := ({ v20 with l := v21 } : S.ledger_Ledger), bags := v25 } : S.vault_Vault) (IntKind.i64.wrap (Int.tmod (IntKind.u64.wrap a2) 16))) fun v31 =>
  Option.bind (
  Option.bind (S.vault_Vault_Drop ({ v23 with l := ({ v20 with l := v21 } : S.ledger_Ledger), bags := v25 } : S.vault_Vault) (IntKind.i64.wrap (Int.tmod (IntKind.u64.wrap a2) 16))) fun (v79, v80) =>
  if (decide (v79 ≠ 0)) = true then (
  some (v80.l, v80.l.l, v80, v80.bags, true)
  ) else (
  Option.bind (S.vault_Vault_Keys v80 (IntKind.i64.wrap (Int.tmod (IntKind.u64.wrap a2) 16))) fun v87 =>
  some (v80.l, v80.l.l, v80, v80.bags, (decide ((v87.length : Int) ≠ 0)))
  )
  ) (fun (v36, v37, v39, v41, v43) => S.law18_VaultKeys_j26 v30 v27 v31 v36 v37 v39 v41 v43)
def law18_VaultKeys_j48 (v99 : Int) (v106 : Int) (v107 : List ByteArray) (v109 : List ByteArray) (v111 : List ByteArray) (v113 : Int) (v114 : Int) (v115 : Bool) (v116 : List ByteArray) (v118 : Int) (v119 : Int) : Option ((Int × Int) ⊕ ((Int) ⊕ (Bool))) :=
  some (.inl (v106, (w64 (v99 + 1))))
def law18_VaultKeys_j50 (v98 : Int) (v122 : List ByteArray) (v127 : List ByteArray) (v129 : Int) (v130 : Bool) : Option ((Int × (List ByteArray) × (List ByteArray) × (List ByteArray) × Int × Int × Bool × (List ByteArray) × Int × Int) ⊕ ((Int × Int) ⊕ ((Int) ⊕ (Bool)))) :=
  some (.inl ((w64 (v98 + (v122.length : Int))), v122, v122, v127, (v122.length : Int), v129, v130, v122, (v122.length : Int), (w64 (v98 + (v122.length : Int)))))
def law18_VaultKeys_l51 (v122 : List ByteArray) (v27 : List (ByteArray × Int)) (v99 : Int) : Int → Option ((Int) ⊕ (((List ByteArray) × Int × Bool) ⊕ ((Int × (List ByteArray) × (List ByteArray) × (List ByteArray) × Int × Int × Bool × (List ByteArray) × Int × Int) ⊕ ((Int × Int) ⊕ ((Int) ⊕ (Bool)))))) := fun v137 =>
  if (decide (v137 < (v122.length : Int))) = true then (
  Option.bind (lget v122 v137) fun v143 =>
  if (decide (((mget v27 v143).getD 0) ≠ 1)) = true then (
  some (.inr (.inr (.inr (.inr (.inr false)))))
  ) else (
  Option.bind (S.spot_Of v143) fun v146 =>
  if (decide (v146 ≠ v99)) = true then (
  some (.inr (.inr (.inr (.inr (.inr false)))))
  ) else (
  if (decide (0 < v137)) = true then (
  Option.bind (lget v122 (w64 (v137 - 1))) fun v150 =>
  if (sleB v143 v150) = true then (
  some (.inr (.inr (.inr (.inr (.inr false)))))
  ) else (
  some (.inl (w64 (v137 + 1)))
  )
  ) else (
  some (.inl (w64 (v137 + 1)))
  )
  )
  )
  ) else (
  some (.inr (.inl (v122, v137, (decide (v137 < (v122.length : Int))))))
  )
def law18_VaultKeys_l44 (v23 : S.vault_Vault) (v20 : S.ledger_Ledger) (v21 : List S.Deed) (v25 : List (ByteArray × S.Bag)) (v27 : List (ByteArray × Int)) : (Int × Int) → Option ((Int × Int) ⊕ ((Int) ⊕ (Bool))) := fun (v98, v99) =>
  if (decide (v99 < 16)) = true then (
  andThen (
  Option.bind (S.vault_Vault_Keys ({ v23 with l := ({ v20 with l := v21 } : S.ledger_Ledger), bags := v25 } : S.vault_Vault) v99) fun v122 =>
  andThen (
  loopN (S.law18_VaultKeys_l51 v122 v27 v99) FUEL 0
  ) (fun (v127, v129, v130) => S.law18_VaultKeys_j50 v98 v122 v127 v129 v130)
  ) (fun (v106, v107, v109, v111, v113, v114, v115, v116, v118, v119) => S.law18_VaultKeys_j48 v99 v106 v107 v109 v111 v113 v114 v115 v116 v118 v119)
  ) else (
  some (.inr (.inl v98))
  )
def law18_VaultKeys_j2 (a2 : Int) (v20 : S.ledger_Ledger) (v21 : List S.Deed) (v23 : S.vault_Vault) (v25 : List (ByteArray × S.Bag)) (v27 : List (ByteArray × Int)) : Option (Bool) :=
  andThen (
  loopN (S.law18_VaultKeys_l44 v23 v20 v21 v25 v27) FUEL (0, 0)
  ) (fun v30 => S.law18_VaultKeys_j25 v23 v20 v21 v25 a2 v27 v30)
def law18_VaultKeys_l52 (a1 : List ByteArray) : (S.ledger_Ledger × (List S.Deed) × S.vault_Vault × (List (ByteArray × S.Bag)) × (List (ByteArray × Int)) × Int) → Option ((S.ledger_Ledger × (List S.Deed) × S.vault_Vault × (List (ByteArray × S.Bag)) × (List (ByteArray × Int)) × Int) ⊕ ((S.ledger_Ledger × (List S.Deed) × S.vault_Vault × (List (ByteArray × S.Bag)) × (List (ByteArray × Int))) ⊕ (Bool))) := fun (v168, v169, v171, v173, v175, v177) =>
  if (decide (v177 < (a1.length : Int))) = true then (
  Option.bind (lget a1 v177) fun v183 =>
  if (decide (100 < (v183.size : Int))) = true then (
  Option.bind (S.law18_awake) fun v186 =>
  some (.inr (.inr v186))
  ) else (
  Option.bind (S.vault_Vault_Put ({ v171 with l := ({ v168 with l := v169 } : S.ledger_Ledger), bags := v173 } : S.vault_Vault) 0 v183 (Vector.replicate 8 (0 : Int)) (⟨#[120]⟩ : ByteArray)) fun (v188, v189, v190) =>
  if (decide (v189 = 0)) = true then (
  some (.inl (v190.l, v190.l.l, v190, v190.bags, (mput v175 v183 1), (w64 (v177 + 1))))
  ) else (
  some (.inl (v190.l, v190.l.l, v190, v190.bags, v175, (w64 (v177 + 1))))
  )
  )
  ) else (
  some (.inr (.inl (({ v168 with l := v169 } : S.ledger_Ledger), v169, v171, v173, v175)))
  )
def law18_VaultKeys (a1 : List ByteArray) (a2 : Int) : Option (Bool) :=
  if (decide (40 < (a1.length : Int))) = true then (
  Option.bind (S.law18_awake) fun v2 =>
  some v2
  ) else (
  Option.bind (S.ledger_New 200) fun v4 =>
  Option.bind (S.vault_Open v4) fun (v9, v10) =>
  andThen (
  loopN (S.law18_VaultKeys_l52 a1) FUEL (v10, v10.l, v9, v9.bags, [], 0)
  ) (fun (v20, v21, v23, v25, v27) => S.law18_VaultKeys_j2 a2 v20 v21 v23 v25 v27)
  )
def law18_named (a1 : Int) : Option (ByteArray) :=
  some (strB [(IntKind.u8.wrap (w64 (97 + (Int.tmod a1 26)))), (IntKind.u8.wrap (w64 (97 + (IntKind.i64.wrap (Int.tdiv a1 26)))))])
def law18_VaultFull_j7 (v46 : S.vault_Vault) (v43 : S.ledger_Ledger) (v44 : List S.Deed) (v48 : List (ByteArray × S.Bag)) (v51 : Int) : Option (Bool) :=
  Option.bind (S.vault_Vault_Keys ({ v46 with l := ({ v43 with l := v44 } : S.ledger_Ledger), bags := v48 } : S.vault_Vault) v51) fun v52 =>
  Option.bind (S.vault_Vault_Put ({ v46 with l := ({ v43 with l := v44 } : S.ledger_Ledger), bags := v48 } : S.vault_Vault) 0 (⟨#[102, 114, 101, 115, 104]⟩ : ByteArray) (Vector.replicate 8 (0 : Int)) (⟨#[120]⟩ : ByteArray)) fun (v56, v57, v58) =>
  Option.bind (S.vault_Vault_Drop v58 v51) fun (v65, v66) =>
  Option.bind (S.vault_Vault_Put v66 0 (⟨#[102, 114, 101, 115, 104]⟩ : ByteArray) (Vector.replicate 8 (0 : Int)) (⟨#[120]⟩ : ByteArray)) fun (v72, v73, v74) =>
  if (decide (0 < (v52.length : Int))) = true then (
  if (decide (v57 = 5)) = true then (
  if (decide (v65 = 0)) = true then (
  if (decide (v73 = 0)) = true then (
  Option.bind (S.law18_awake) fun v85 =>
  some v85
  ) else (
  some false
  )
  ) else (
  some false
  )
  ) else (
  some false
  )
  ) else (
  some false
  )
def law18_VaultFull_l8 (v46 : S.vault_Vault) (v43 : S.ledger_Ledger) (v44 : List S.Deed) (v48 : List (ByteArray × S.Bag)) : Int → Option ((Int) ⊕ (Int)) := fun v93 =>
  Option.bind (S.vault_Vault_Keys ({ v46 with l := ({ v43 with l := v44 } : S.ledger_Ledger), bags := v48 } : S.vault_Vault) v93) fun v98 =>
  if (decide ((v98.length : Int) = 0)) = true then (
  if (decide (v93 < 15)) = true then (
  some (.inl (w64 (v93 + 1)))
  ) else (
  some (.inr v93)
  )
  ) else (
  some (.inr v93)
  )
def law18_VaultFull_j5 (v43 : S.ledger_Ledger) (v44 : List S.Deed) (v46 : S.vault_Vault) (v48 : List (ByteArray × S.Bag)) : Option (Bool) :=
  Option.bind (
  loopN (S.law18_VaultFull_l8 v46 v43 v44 v48) FUEL 0
  ) (fun v51 => S.law18_VaultFull_j7 v46 v43 v44 v48 v51)
def law18_VaultFull_j4 (a2 : Bool) (v24 : S.ledger_Ledger) (v25 : List S.Deed) (v27 : S.vault_Vault) (v29 : List (ByteArray × S.Bag)) : Option (Bool) :=
  Option.bind (S.law18_named 0) fun v31 =>
  Option.bind (S.vault_Vault_Put ({ v27 with l := ({ v24 with l := v25 } : S.ledger_Ledger), bags := v29 } : S.vault_Vault) 0 v31 (Vector.replicate 8 (0 : Int)) (⟨#[121]⟩ : ByteArray)) fun (v33, v34, v35) =>
  andThen (
  if (decide (v34 ≠ 0)) = true then (
  some (.inr false)
  ) else (
  if (decide (v33.N ≠ 201)) = true then (
  some (.inr false)
  ) else (
  if a2 = true then (
  Option.bind (S.law18_named 1) fun v109 =>
  Option.bind (S.vault_Vault_Merge v35 v109 ({ S.Bag.z with Known := (⟨#[0, 5, 0, 0, 0, 0, 0, 0], rfl⟩ : Vector Int 8) } : S.Bag)) fun (v111, v112) =>
  if (decide (v111 ≠ 0)) = true then (
  some (.inr false)
  ) else (
  some (.inl (v112.l, v112.l.l, v112, v112.bags))
  )
  ) else (
  some (.inl (v35.l, v35.l.l, v35, v35.bags))
  )
  )
  )
  ) (fun (v43, v44, v46, v48) => S.law18_VaultFull_j5 v43 v44 v46 v48)
def law18_VaultFull_l9 (a1 : Int) : (S.ledger_Ledger × (List S.Deed) × S.vault_Vault × (List (ByteArray × S.Bag)) × Int) → Option ((S.ledger_Ledger × (List S.Deed) × S.vault_Vault × (List (ByteArray × S.Bag)) × Int) ⊕ ((S.ledger_Ledger × (List S.Deed) × S.vault_Vault × (List (ByteArray × S.Bag))) ⊕ (Bool))) := fun (v132, v133, v135, v137, v139) =>
  if (decide (v139 < (IntKind.i64.wrap (Int.tmod (IntKind.u64.wrap a1) 5)))) = true then (
  Option.bind (S.law18_named (w64 (200 + v139))) fun v145 =>
  Option.bind (S.vault_Vault_Put ({ v135 with l := ({ v132 with l := v133 } : S.ledger_Ledger), bags := v137 } : S.vault_Vault) 0 v145 (Vector.replicate 8 (0 : Int)) (⟨#[120]⟩ : ByteArray)) fun (v147, v148, v149) =>
  Option.bind (S.vault_Vault_Merge v149 v145 ({ S.Bag.z with Known := (⟨#[1, 0, 0, 0, 0, 0, 0, 0], rfl⟩ : Vector Int 8) } : S.Bag)) fun (v156, v157) =>
  if (decide (v148 ≠ 5)) = true then (
  some (.inr (.inr false))
  ) else (
  if (decide (v156 ≠ 5)) = true then (
  some (.inr (.inr false))
  ) else (
  Option.bind (S.vault_Vault_Bag v157 v145) fun v165 =>
  if (decide ((v165.Values.length : Int) ≠ 0)) = true then (
  some (.inr (.inr false))
  ) else (
  some (.inl (v157.l, v157.l.l, v157, v157.bags, (w64 (v139 + 1))))
  )
  )
  )
  ) else (
  some (.inr (.inl (({ v132 with l := v133 } : S.ledger_Ledger), v133, v135, v137)))
  )
def law18_VaultFull_j2 (a1 : Int) (a2 : Bool) (v16 : S.ledger_Ledger) (v17 : List S.Deed) (v19 : S.vault_Vault) (v21 : List (ByteArray × S.Bag)) : Option (Bool) :=
  andThen (
  loopN (S.law18_VaultFull_l9 a1) FUEL (({ v16 with l := v17 } : S.ledger_Ledger), v17, v19, v21, 0)
  ) (fun (v24, v25, v27, v29) => S.law18_VaultFull_j4 a2 v24 v25 v27 v29)
def law18_VaultFull_l10 : (S.ledger_Ledger × (List S.Deed) × S.vault_Vault × (List (ByteArray × S.Bag)) × Int) → Option ((S.ledger_Ledger × (List S.Deed) × S.vault_Vault × (List (ByteArray × S.Bag)) × Int) ⊕ ((S.ledger_Ledger × (List S.Deed) × S.vault_Vault × (List (ByteArray × S.Bag))) ⊕ (Bool))) := fun (v183, v184, v186, v188, v190) =>
  if (decide (v190 < 200)) = true then (
  Option.bind (S.law18_named v190) fun v196 =>
  Option.bind (S.vault_Vault_Put ({ v186 with l := ({ v183 with l := v184 } : S.ledger_Ledger), bags := v188 } : S.vault_Vault) 0 v196 (Vector.replicate 8 (0 : Int)) (⟨#[120]⟩ : ByteArray)) fun (v198, v199, v200) =>
  if (decide (v199 ≠ 0)) = true then (
  some (.inr (.inr false))
  ) else (
  some (.inl (v200.l, v200.l.l, v200, v200.bags, (w64 (v190 + 1))))
  )
  ) else (
  some (.inr (.inl (({ v183 with l := v184 } : S.ledger_Ledger), v184, v186, v188)))
  )
def law18_VaultFull (a1 : Int) (a2 : Bool) : Option (Bool) :=
  Option.bind (S.ledger_New 3000) fun v1 =>
  Option.bind (S.vault_Open v1) fun (v6, v7) =>
  andThen (
  loopN S.law18_VaultFull_l10 FUEL (v7, v7.l, v6, v6.bags, 0)
  ) (fun (v16, v17, v19, v21) => S.law18_VaultFull_j2 a1 a2 v16 v17 v19 v21)
end Go.S

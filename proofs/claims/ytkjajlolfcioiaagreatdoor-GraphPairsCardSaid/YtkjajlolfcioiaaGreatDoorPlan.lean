/- Plans: what they are, and which error a plan has. No program here. -/
import Derived.Test.YtkjajlolfcioiaaGreatDoorScan
namespace Go.Proofs.YtkjajlolfcioiaaGreatDoor.Plan
open Go.Proofs.YtkjajlolfcioiaaGreatDoor.Scan

structure Top where
  name : ByteArray
  parts : Int
structure Stp where
  kind : Int
  text : ByteArray
  n : Int
structure Flw where
  name : ByteArray
  frm : ByteArray
  to : ByteArray
  bound : Int
  readers : Int
  keepers : Int
  pre : List Stp
  wk : Int
  ws : Int
  wl : Int
  agg : Int
  post : List Stp
structure Pln where
  tops : List Top
  flows : List Flw

def nameByte (c : UInt8) : Bool := decide ((97 ≤ c.toNat ∧ c.toNat ≤ 122) ∨ (48 ≤ c.toNat ∧ c.toNat ≤ 57) ∨ c.toNat = 45)
def nameOk (s : ByteArray) : Bool := decide (1 ≤ s.size ∧ s.size ≤ 16) && s.data.toList.all nameByte
/-- no blank at its ends. -/
def trimmed (s : ByteArray) : Bool := !(s.data.toList.head? == some 32) && !(s.data.toList.getLast? == some 32)
/-- a step's error. -/
def stepE (s : Stp) (post : Bool) : Int :=
  if s.kind = 1 ∨ s.kind = 2 then (if s.n = 0 ∧ trimmed s.text = true then exprE s.text.data.toList else 54)
  else if s.kind = 3 then (if post = false ∧ s.text.size = 0 ∧ 0 ≤ s.n ∧ s.n ≤ 16 then 0 else 54) else 54
/-- the first error of some steps. -/
def stepsE (l : List Stp) (post : Bool) : Int :=
  match l with
  | [] => 0
  | s :: r => if stepE s post = 0 then stepsE r post else stepE s post
/-- windows that may be, with what is told of them. -/
def WinOk (k s l a : Int) : Prop :=
  (k = 0 ∧ s = 0 ∧ l = 0 ∧ a = 0) ∨ ((k = 1 ∨ k = 3) ∧ 1 ≤ s ∧ s ≤ 1000000 ∧ l = 0 ∧ 1 ≤ a ∧ a ≤ 4) ∨ (k = 2 ∧ 1 ≤ s ∧ s ≤ 1000000 ∧ 1 ≤ l ∧ l ≤ s ∧ s ≤ 16 * l ∧ 1 ≤ a ∧ a ≤ 4)
instance (k s l a : Int) : Decidable (WinOk k s l a) := by unfold WinOk; infer_instance
/-- a topic's partitions; 0: there is no such topic. -/
def partsOf (l : List Top) (name : ByteArray) : Int :=
  match l with
  | [] => 0
  | t :: r => if t.name = name then t.parts else partsOf r name
/-- what is within a flow. -/
def innerE (parts : Int) (f : Flw) : Int :=
  if ¬ (-1 ≤ f.bound ∧ f.bound ≤ 1000000 ∧ 1 ≤ f.readers ∧ f.readers ≤ 8 ∧ f.readers ≤ parts ∧ 1 ≤ f.keepers ∧ f.keepers ≤ 8 ∧ WinOk f.wk f.ws f.wl f.agg) then 1
  else if 8 < f.pre.length ∨ 8 < f.post.length then 5
  else if f.wk = 0 ∧ f.post ≠ [] then 54
  else if stepsE f.pre false = 0 then stepsE f.post true else stepsE f.pre false
/-- the error of a flow behind others. -/
def flowE (p : Pln) (ahead : List Flw) (f : Flw) : Int :=
  if nameOk f.name = false then 51
  else if ∃ g ∈ ahead, g.name = f.name then 52
  else if ¬ (0 < partsOf p.tops f.frm ∧ partsOf p.tops f.to = 16 ∧ f.frm ≠ f.to ∧ ∀ g ∈ ahead, g.to ≠ f.to) then 53
  else if (∃ g ∈ p.flows, g.to = f.frm) ∧ f.bound ≠ -1 then 1
  else innerE (partsOf p.tops f.frm) f
def topE (ahead : List Top) (t : Top) : Int :=
  if nameOk t.name = false then 51 else if ∃ g ∈ ahead, g.name = t.name then 52 else if 1 ≤ t.parts ∧ t.parts ≤ 16 then 0 else 1
instance (l : List Flw) (P : Flw → Prop) [DecidablePred P] : Decidable (∃ g ∈ l, P g) := inferInstance
/-- the first error, from place k on. -/
def topsE : List Top → List Top → Int
  | _, [] => 0
  | ahead, t :: r => if topE ahead t = 0 then topsE (ahead ++ [t]) r else topE ahead t
def flowsE (p : Pln) : List Flw → List Flw → Int
  | _, [] => 0
  | ahead, f :: r => if flowE p ahead f = 0 then flowsE p (ahead ++ [f]) r else flowE p ahead f
/-- a plan's error. -/
def planE (p : Pln) : Int :=
  if 16 < p.tops.length ∨ 8 < p.flows.length then 5
  else if topsE [] p.tops = 0 then flowsE p [] p.flows else topsE [] p.tops
end Go.Proofs.YtkjajlolfcioiaaGreatDoor.Plan

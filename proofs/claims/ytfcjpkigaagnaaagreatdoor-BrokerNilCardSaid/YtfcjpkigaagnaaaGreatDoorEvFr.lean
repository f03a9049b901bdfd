/- PART EvFr of a proof by an evaluator of the model that is proved sound. -/
import Derived.Test.YtfcjpkigaagnaaaGreatDoorEvF
set_option linter.unusedVariables false
set_option linter.unusedSimpArgs false
namespace Go.Ev
open Go
theorem Fr.congr {α : Type} {m m' : E α} (h : ∀ s, m s = m' s) (hf : Fr m') : Fr m := by
  have : m = m' := funext h
  rw [this]; exact hf
theorem Fr.cond {α : Type} {b : Bool} {x y : E α} (hx : Fr x) (hy : Fr y) : Fr (bif b then x else y) := by cases b <;> assumption
theorem Fr.rdCells (x : Nat) : Fr (Go.Ev.rdCells x) := by
  unfold Go.Ev.rdCells
  refine Fr.bind (Fr.rd _) fun o => ?_
  split
  · exact Fr.pure _
  · exact Fr.fail
theorem Fr.rdMap (x : Nat) : Fr (Go.Ev.rdMap x) := by
  unfold Go.Ev.rdMap
  refine Fr.bind (Fr.rd _) fun o => ?_
  split
  · exact Fr.pure _
  · exact Fr.fail
theorem Fr.pureVal (o : Option Value) : Fr (Go.Ev.pureVal o) := by
  unfold Go.Ev.pureVal
  split
  · exact Fr.fail
  · exact Fr.cond (Fr.pure _) Fr.fail
theorem Fr.newCells (e : TypeId) (c : List Value) : Fr (Go.Ev.newCells e c) := by
  unfold Go.Ev.newCells
  exact Fr.bind (Fr.nw _) fun _ => Fr.pure _
theorem Fr.doLoad (P : Program) (t : TypeId) (v : Value) : Fr (Go.Ev.doLoad P t v) := by
  unfold Go.Ev.doLoad
  (repeat' (first | exact Fr.pure _ | exact Fr.ret _ | exact Fr.fail | exact Fr.no | exact Fr.opt _ | exact Fr.rd _ | exact Fr.wr _ _ | exact Fr.nw _ | exact Fr.rdCells _ | exact Fr.rdMap _ | exact Fr.newCells _ _ | exact Fr.pureVal _ | apply Fr.cond | apply Fr.bind | intro _ | split))
theorem Fr.srcCells (z : Nat) (v : Value) : Fr (Go.Ev.srcCells z v) := by
  unfold Go.Ev.srcCells
  (repeat' (first | exact Fr.pure _ | exact Fr.ret _ | exact Fr.fail | exact Fr.no | exact Fr.opt _ | exact Fr.rd _ | exact Fr.wr _ _ | exact Fr.nw _ | exact Fr.rdCells _ | exact Fr.rdMap _ | exact Fr.newCells _ _ | exact Fr.pureVal _ | apply Fr.cond | apply Fr.bind | intro _ | split))
theorem Fr.entries (v : Value) : Fr (Go.Ev.entries v) := by
  unfold Go.Ev.entries
  (repeat' (first | exact Fr.pure _ | exact Fr.ret _ | exact Fr.fail | exact Fr.no | exact Fr.opt _ | exact Fr.rd _ | exact Fr.wr _ _ | exact Fr.nw _ | exact Fr.rdCells _ | exact Fr.rdMap _ | exact Fr.newCells _ _ | exact Fr.pureVal _ | apply Fr.cond | apply Fr.bind | intro _ | split))
theorem Fr.doStore (P : Program) (t : TypeId) (a v : Value) : Fr (Go.Ev.doStore P t a v) := by
  unfold Go.Ev.doStore
  (repeat' (first | exact Fr.pure _ | exact Fr.ret _ | exact Fr.fail | exact Fr.no | exact Fr.opt _ | exact Fr.rd _ | exact Fr.wr _ _ | exact Fr.nw _ | exact Fr.rdCells _ | exact Fr.rdMap _ | exact Fr.newCells _ _ | exact Fr.pureVal _ | exact Fr.doLoad _ _ _ | exact Fr.srcCells _ _ | exact Fr.entries _ | apply Fr.cond | apply Fr.bind | intro _ | split))
theorem Fr.doAppend (P : Program) (ts : Array TypeId) (a v : Value) : Fr (Go.Ev.doAppend P ts a v) := by
  unfold Go.Ev.doAppend
  (repeat' (first | exact Fr.pure _ | exact Fr.ret _ | exact Fr.fail | exact Fr.no | exact Fr.opt _ | exact Fr.rd _ | exact Fr.wr _ _ | exact Fr.nw _ | exact Fr.rdCells _ | exact Fr.rdMap _ | exact Fr.newCells _ _ | exact Fr.pureVal _ | exact Fr.doLoad _ _ _ | exact Fr.srcCells _ _ | exact Fr.entries _ | apply Fr.cond | apply Fr.bind | intro _ | split))
theorem Fr.doDelete (P : Program) (ts : Array TypeId) (a v : Value) : Fr (Go.Ev.doDelete P ts a v) := by
  unfold Go.Ev.doDelete
  (repeat' (first | exact Fr.pure _ | exact Fr.ret _ | exact Fr.fail | exact Fr.no | exact Fr.opt _ | exact Fr.rd _ | exact Fr.wr _ _ | exact Fr.nw _ | exact Fr.rdCells _ | exact Fr.rdMap _ | exact Fr.newCells _ _ | exact Fr.pureVal _ | exact Fr.doLoad _ _ _ | exact Fr.srcCells _ _ | exact Fr.entries _ | apply Fr.cond | apply Fr.bind | intro _ | split))
theorem Fr.doLen (P : Program) (ts : Array TypeId) (a : Value) : Fr (Go.Ev.doLen P ts a) := by
  unfold Go.Ev.doLen
  (repeat' (first | exact Fr.pure _ | exact Fr.ret _ | exact Fr.fail | exact Fr.no | exact Fr.opt _ | exact Fr.rd _ | exact Fr.wr _ _ | exact Fr.nw _ | exact Fr.rdCells _ | exact Fr.rdMap _ | exact Fr.newCells _ _ | exact Fr.pureVal _ | exact Fr.doLoad _ _ _ | exact Fr.srcCells _ _ | exact Fr.entries _ | apply Fr.cond | apply Fr.bind | intro _ | split))
theorem Fr.nilEq (P : Program) (op : BinOp) (t : TypeId) (a b : Value) : Fr (Go.Ev.nilEq P op t a b) := by
  unfold Go.Ev.nilEq
  (repeat' (first | exact Fr.pure _ | exact Fr.ret _ | exact Fr.fail | exact Fr.no | exact Fr.opt _ | exact Fr.rd _ | exact Fr.wr _ _ | exact Fr.nw _ | exact Fr.rdCells _ | exact Fr.rdMap _ | exact Fr.newCells _ _ | exact Fr.pureVal _ | exact Fr.doLoad _ _ _ | exact Fr.srcCells _ _ | exact Fr.entries _ | apply Fr.cond | apply Fr.bind | intro _ | split))
theorem Fr.armLookup {P : Program} {call : FuncId → List Value → E Value} {ρ : Operand → Value} (t : TypeId) (m k : Operand) (ok : Bool) (hcall : ∀ f as, Fr (call f as)) : Fr (Go.Ev.armLookup t m k ok P call ρ) := by
  unfold Go.Ev.armLookup
  (repeat' (first | exact Fr.pure _ | exact Fr.ret _ | exact Fr.fail | exact Fr.no | exact Fr.opt _ | exact Fr.rd _ | exact Fr.wr _ _ | exact Fr.nw _ | exact Fr.rdCells _ | exact Fr.rdMap _ | exact Fr.newCells _ _ | exact Fr.pureVal _ | exact Fr.doLoad _ _ _ | exact Fr.srcCells _ _ | exact Fr.entries _ | exact hcall _ _ | exact Fr.doStore _ _ _ _ | exact Fr.doAppend _ _ _ _ | exact Fr.doDelete _ _ _ _ | exact Fr.doLen _ _ _ | exact Fr.nilEq _ _ _ _ _ | apply Fr.cond | apply Fr.bind | intro _ | split))
theorem Fr.armMapUpdate {P : Program} {call : FuncId → List Value → E Value} {ρ : Operand → Value} (t : TypeId) (m k v : Operand) (hcall : ∀ f as, Fr (call f as)) : Fr (Go.Ev.armMapUpdate t m k v P call ρ) := by
  unfold Go.Ev.armMapUpdate
  (repeat' (first | exact Fr.pure _ | exact Fr.ret _ | exact Fr.fail | exact Fr.no | exact Fr.opt _ | exact Fr.rd _ | exact Fr.wr _ _ | exact Fr.nw _ | exact Fr.rdCells _ | exact Fr.rdMap _ | exact Fr.newCells _ _ | exact Fr.pureVal _ | exact Fr.doLoad _ _ _ | exact Fr.srcCells _ _ | exact Fr.entries _ | exact hcall _ _ | exact Fr.doStore _ _ _ _ | exact Fr.doAppend _ _ _ _ | exact Fr.doDelete _ _ _ _ | exact Fr.doLen _ _ _ | exact Fr.nilEq _ _ _ _ _ | apply Fr.cond | apply Fr.bind | intro _ | split))
theorem Fr.armConvert {P : Program} {call : FuncId → List Value → E Value} {ρ : Operand → Value} (s d : TypeId) (x : Operand) (hcall : ∀ f as, Fr (call f as)) : Fr (Go.Ev.armConvert s d x P call ρ) := by
  unfold Go.Ev.armConvert
  (repeat' (first | exact Fr.pure _ | exact Fr.ret _ | exact Fr.fail | exact Fr.no | exact Fr.opt _ | exact Fr.rd _ | exact Fr.wr _ _ | exact Fr.nw _ | exact Fr.rdCells _ | exact Fr.rdMap _ | exact Fr.newCells _ _ | exact Fr.pureVal _ | exact Fr.doLoad _ _ _ | exact Fr.srcCells _ _ | exact Fr.entries _ | exact hcall _ _ | exact Fr.doStore _ _ _ _ | exact Fr.doAppend _ _ _ _ | exact Fr.doDelete _ _ _ _ | exact Fr.doLen _ _ _ | exact Fr.nilEq _ _ _ _ _ | apply Fr.cond | apply Fr.bind | intro _ | split))
theorem Fr.armBin {P : Program} {call : FuncId → List Value → E Value} {ρ : Operand → Value} (op : BinOp) (t : TypeId) (x y : Operand) (hcall : ∀ f as, Fr (call f as)) : Fr (Go.Ev.armBin op t x y P call ρ) := by
  unfold Go.Ev.armBin
  (repeat' (first | exact Fr.pure _ | exact Fr.ret _ | exact Fr.fail | exact Fr.no | exact Fr.opt _ | exact Fr.rd _ | exact Fr.wr _ _ | exact Fr.nw _ | exact Fr.rdCells _ | exact Fr.rdMap _ | exact Fr.newCells _ _ | exact Fr.pureVal _ | exact Fr.doLoad _ _ _ | exact Fr.srcCells _ _ | exact Fr.entries _ | exact hcall _ _ | exact Fr.doStore _ _ _ _ | exact Fr.doAppend _ _ _ _ | exact Fr.doDelete _ _ _ _ | exact Fr.doLen _ _ _ | exact Fr.nilEq _ _ _ _ _ | apply Fr.cond | apply Fr.bind | intro _ | split))
theorem Fr.armFieldAddr {P : Program} {call : FuncId → List Value → E Value} {ρ : Operand → Value} (t : TypeId) (x : Operand) (f : Nat) (hcall : ∀ f as, Fr (call f as)) : Fr (Go.Ev.armFieldAddr t x f P call ρ) := by
  unfold Go.Ev.armFieldAddr
  (repeat' (first | exact Fr.pure _ | exact Fr.ret _ | exact Fr.fail | exact Fr.no | exact Fr.opt _ | exact Fr.rd _ | exact Fr.wr _ _ | exact Fr.nw _ | exact Fr.rdCells _ | exact Fr.rdMap _ | exact Fr.newCells _ _ | exact Fr.pureVal _ | exact Fr.doLoad _ _ _ | exact Fr.srcCells _ _ | exact Fr.entries _ | exact hcall _ _ | exact Fr.doStore _ _ _ _ | exact Fr.doAppend _ _ _ _ | exact Fr.doDelete _ _ _ _ | exact Fr.doLen _ _ _ | exact Fr.nilEq _ _ _ _ _ | apply Fr.cond | apply Fr.bind | intro _ | split))
theorem Fr.armIndexAddr {P : Program} {call : FuncId → List Value → E Value} {ρ : Operand → Value} (t : TypeId) (x i : Operand) (hcall : ∀ f as, Fr (call f as)) : Fr (Go.Ev.armIndexAddr t x i P call ρ) := by
  unfold Go.Ev.armIndexAddr
  (repeat' (first | exact Fr.pure _ | exact Fr.ret _ | exact Fr.fail | exact Fr.no | exact Fr.opt _ | exact Fr.rd _ | exact Fr.wr _ _ | exact Fr.nw _ | exact Fr.rdCells _ | exact Fr.rdMap _ | exact Fr.newCells _ _ | exact Fr.pureVal _ | exact Fr.doLoad _ _ _ | exact Fr.srcCells _ _ | exact Fr.entries _ | exact hcall _ _ | exact Fr.doStore _ _ _ _ | exact Fr.doAppend _ _ _ _ | exact Fr.doDelete _ _ _ _ | exact Fr.doLen _ _ _ | exact Fr.nilEq _ _ _ _ _ | apply Fr.cond | apply Fr.bind | intro _ | split))
theorem Fr.armSlice {P : Program} {call : FuncId → List Value → E Value} {ρ : Operand → Value} (t : TypeId) (x : Operand) (lo hi mx : Option Operand) (hcall : ∀ f as, Fr (call f as)) : Fr (Go.Ev.armSlice t x lo hi mx P call ρ) := by
  unfold Go.Ev.armSlice
  (repeat' (first | exact Fr.pure _ | exact Fr.ret _ | exact Fr.fail | exact Fr.no | exact Fr.opt _ | exact Fr.rd _ | exact Fr.wr _ _ | exact Fr.nw _ | exact Fr.rdCells _ | exact Fr.rdMap _ | exact Fr.newCells _ _ | exact Fr.pureVal _ | exact Fr.doLoad _ _ _ | exact Fr.srcCells _ _ | exact Fr.entries _ | exact hcall _ _ | exact Fr.doStore _ _ _ _ | exact Fr.doAppend _ _ _ _ | exact Fr.doDelete _ _ _ _ | exact Fr.doLen _ _ _ | exact Fr.nilEq _ _ _ _ _ | apply Fr.cond | apply Fr.bind | intro _ | split))
theorem Fr.armMakeSlice {P : Program} {call : FuncId → List Value → E Value} {ρ : Operand → Value} (t : TypeId) (n k : Operand) (hcall : ∀ f as, Fr (call f as)) : Fr (Go.Ev.armMakeSlice t n k P call ρ) := by
  unfold Go.Ev.armMakeSlice
  (repeat' (first | exact Fr.pure _ | exact Fr.ret _ | exact Fr.fail | exact Fr.no | exact Fr.opt _ | exact Fr.rd _ | exact Fr.wr _ _ | exact Fr.nw _ | exact Fr.rdCells _ | exact Fr.rdMap _ | exact Fr.newCells _ _ | exact Fr.pureVal _ | exact Fr.doLoad _ _ _ | exact Fr.srcCells _ _ | exact Fr.entries _ | exact hcall _ _ | exact Fr.doStore _ _ _ _ | exact Fr.doAppend _ _ _ _ | exact Fr.doDelete _ _ _ _ | exact Fr.doLen _ _ _ | exact Fr.nilEq _ _ _ _ _ | apply Fr.cond | apply Fr.bind | intro _ | split))
theorem Fr.armNext {P : Program} {call : FuncId → List Value → E Value} {ρ : Operand → Value} (x : Operand) (b : Bool) (hcall : ∀ f as, Fr (call f as)) : Fr (Go.Ev.armNext x b P call ρ) := by
  unfold Go.Ev.armNext
  (repeat' (first | exact Fr.pure _ | exact Fr.ret _ | exact Fr.fail | exact Fr.no | exact Fr.opt _ | exact Fr.rd _ | exact Fr.wr _ _ | exact Fr.nw _ | exact Fr.rdCells _ | exact Fr.rdMap _ | exact Fr.newCells _ _ | exact Fr.pureVal _ | exact Fr.doLoad _ _ _ | exact Fr.srcCells _ _ | exact Fr.entries _ | exact hcall _ _ | exact Fr.doStore _ _ _ _ | exact Fr.doAppend _ _ _ _ | exact Fr.doDelete _ _ _ _ | exact Fr.doLen _ _ _ | exact Fr.nilEq _ _ _ _ _ | apply Fr.cond | apply Fr.bind | intro _ | split))
theorem Fr.armRange {P : Program} {call : FuncId → List Value → E Value} {ρ : Operand → Value} (t : TypeId) (x : Operand) (hcall : ∀ f as, Fr (call f as)) : Fr (Go.Ev.armRange t x P call ρ) := by
  unfold Go.Ev.armRange
  (repeat' (first | exact Fr.pure _ | exact Fr.ret _ | exact Fr.fail | exact Fr.no | exact Fr.opt _ | exact Fr.rd _ | exact Fr.wr _ _ | exact Fr.nw _ | exact Fr.rdCells _ | exact Fr.rdMap _ | exact Fr.newCells _ _ | exact Fr.pureVal _ | exact Fr.doLoad _ _ _ | exact Fr.srcCells _ _ | exact Fr.entries _ | exact hcall _ _ | exact Fr.doStore _ _ _ _ | exact Fr.doAppend _ _ _ _ | exact Fr.doDelete _ _ _ _ | exact Fr.doLen _ _ _ | exact Fr.nilEq _ _ _ _ _ | apply Fr.cond | apply Fr.bind | intro _ | split))
theorem Fr.armEntry {P : Program} {call : FuncId → List Value → E Value} {ρ : Operand → Value} (x : Operand) (hcall : ∀ f as, Fr (call f as)) : Fr (Go.Ev.armEntry x P call ρ) := by
  unfold Go.Ev.armEntry
  (repeat' (first | exact Fr.pure _ | exact Fr.ret _ | exact Fr.fail | exact Fr.no | exact Fr.opt _ | exact Fr.rd _ | exact Fr.wr _ _ | exact Fr.nw _ | exact Fr.rdCells _ | exact Fr.rdMap _ | exact Fr.newCells _ _ | exact Fr.pureVal _ | exact Fr.doLoad _ _ _ | exact Fr.srcCells _ _ | exact Fr.entries _ | exact hcall _ _ | exact Fr.doStore _ _ _ _ | exact Fr.doAppend _ _ _ _ | exact Fr.doDelete _ _ _ _ | exact Fr.doLen _ _ _ | exact Fr.nilEq _ _ _ _ _ | apply Fr.cond | apply Fr.bind | intro _ | split))
theorem Fr.armMove {P : Program} {call : FuncId → List Value → E Value} {ρ : Operand → Value} (x : Operand) (hcall : ∀ f as, Fr (call f as)) : Fr (Go.Ev.armMove x P call ρ) := by
  unfold Go.Ev.armMove
  (repeat' (first | exact Fr.pure _ | exact Fr.ret _ | exact Fr.fail | exact Fr.no | exact Fr.opt _ | exact Fr.rd _ | exact Fr.wr _ _ | exact Fr.nw _ | exact Fr.rdCells _ | exact Fr.rdMap _ | exact Fr.newCells _ _ | exact Fr.pureVal _ | exact Fr.doLoad _ _ _ | exact Fr.srcCells _ _ | exact Fr.entries _ | exact hcall _ _ | exact Fr.doStore _ _ _ _ | exact Fr.doAppend _ _ _ _ | exact Fr.doDelete _ _ _ _ | exact Fr.doLen _ _ _ | exact Fr.nilEq _ _ _ _ _ | apply Fr.cond | apply Fr.bind | intro _ | split))
theorem Fr.armAlloc {P : Program} {call : FuncId → List Value → E Value} {ρ : Operand → Value} (e : TypeId) (hcall : ∀ f as, Fr (call f as)) : Fr (Go.Ev.armAlloc e P call ρ) := by
  unfold Go.Ev.armAlloc
  (repeat' (first | exact Fr.pure _ | exact Fr.ret _ | exact Fr.fail | exact Fr.no | exact Fr.opt _ | exact Fr.rd _ | exact Fr.wr _ _ | exact Fr.nw _ | exact Fr.rdCells _ | exact Fr.rdMap _ | exact Fr.newCells _ _ | exact Fr.pureVal _ | exact Fr.doLoad _ _ _ | exact Fr.srcCells _ _ | exact Fr.entries _ | exact hcall _ _ | exact Fr.doStore _ _ _ _ | exact Fr.doAppend _ _ _ _ | exact Fr.doDelete _ _ _ _ | exact Fr.doLen _ _ _ | exact Fr.nilEq _ _ _ _ _ | apply Fr.cond | apply Fr.bind | intro _ | split))
theorem Fr.armBox {P : Program} {call : FuncId → List Value → E Value} {ρ : Operand → Value} (e : TypeId) (v : Operand) (hcall : ∀ f as, Fr (call f as)) : Fr (Go.Ev.armBox e v P call ρ) := by
  unfold Go.Ev.armBox
  (repeat' (first | exact Fr.pure _ | exact Fr.ret _ | exact Fr.fail | exact Fr.no | exact Fr.opt _ | exact Fr.rd _ | exact Fr.wr _ _ | exact Fr.nw _ | exact Fr.rdCells _ | exact Fr.rdMap _ | exact Fr.newCells _ _ | exact Fr.pureVal _ | exact Fr.doLoad _ _ _ | exact Fr.srcCells _ _ | exact Fr.entries _ | exact hcall _ _ | exact Fr.doStore _ _ _ _ | exact Fr.doAppend _ _ _ _ | exact Fr.doDelete _ _ _ _ | exact Fr.doLen _ _ _ | exact Fr.nilEq _ _ _ _ _ | apply Fr.cond | apply Fr.bind | intro _ | split))
theorem Fr.armBuild {P : Program} {call : FuncId → List Value → E Value} {ρ : Operand → Value} (t : TypeId) (ps : Array (Nat × Operand)) (hcall : ∀ f as, Fr (call f as)) : Fr (Go.Ev.armBuild t ps P call ρ) := by
  unfold Go.Ev.armBuild
  (repeat' (first | exact Fr.pure _ | exact Fr.ret _ | exact Fr.fail | exact Fr.no | exact Fr.opt _ | exact Fr.rd _ | exact Fr.wr _ _ | exact Fr.nw _ | exact Fr.rdCells _ | exact Fr.rdMap _ | exact Fr.newCells _ _ | exact Fr.pureVal _ | exact Fr.doLoad _ _ _ | exact Fr.srcCells _ _ | exact Fr.entries _ | exact hcall _ _ | exact Fr.doStore _ _ _ _ | exact Fr.doAppend _ _ _ _ | exact Fr.doDelete _ _ _ _ | exact Fr.doLen _ _ _ | exact Fr.nilEq _ _ _ _ _ | apply Fr.cond | apply Fr.bind | intro _ | split))
theorem Fr.armBuildSlice {P : Program} {call : FuncId → List Value → E Value} {ρ : Operand → Value} (t : TypeId) (n : Nat) (ps : Array (Nat × Operand)) (hcall : ∀ f as, Fr (call f as)) : Fr (Go.Ev.armBuildSlice t n ps P call ρ) := by
  unfold Go.Ev.armBuildSlice
  (repeat' (first | exact Fr.pure _ | exact Fr.ret _ | exact Fr.fail | exact Fr.no | exact Fr.opt _ | exact Fr.rd _ | exact Fr.wr _ _ | exact Fr.nw _ | exact Fr.rdCells _ | exact Fr.rdMap _ | exact Fr.newCells _ _ | exact Fr.pureVal _ | exact Fr.doLoad _ _ _ | exact Fr.srcCells _ _ | exact Fr.entries _ | exact hcall _ _ | exact Fr.doStore _ _ _ _ | exact Fr.doAppend _ _ _ _ | exact Fr.doDelete _ _ _ _ | exact Fr.doLen _ _ _ | exact Fr.nilEq _ _ _ _ _ | apply Fr.cond | apply Fr.bind | intro _ | split))
theorem Fr.armLoad {P : Program} {call : FuncId → List Value → E Value} {ρ : Operand → Value} (t : TypeId) (a : Operand) (hcall : ∀ f as, Fr (call f as)) : Fr (Go.Ev.armLoad t a P call ρ) := by
  unfold Go.Ev.armLoad
  (repeat' (first | exact Fr.pure _ | exact Fr.ret _ | exact Fr.fail | exact Fr.no | exact Fr.opt _ | exact Fr.rd _ | exact Fr.wr _ _ | exact Fr.nw _ | exact Fr.rdCells _ | exact Fr.rdMap _ | exact Fr.newCells _ _ | exact Fr.pureVal _ | exact Fr.doLoad _ _ _ | exact Fr.srcCells _ _ | exact Fr.entries _ | exact hcall _ _ | exact Fr.doStore _ _ _ _ | exact Fr.doAppend _ _ _ _ | exact Fr.doDelete _ _ _ _ | exact Fr.doLen _ _ _ | exact Fr.nilEq _ _ _ _ _ | apply Fr.cond | apply Fr.bind | intro _ | split))
theorem Fr.armStore {P : Program} {call : FuncId → List Value → E Value} {ρ : Operand → Value} (t : TypeId) (a v : Operand) (hcall : ∀ f as, Fr (call f as)) : Fr (Go.Ev.armStore t a v P call ρ) := by
  unfold Go.Ev.armStore
  (repeat' (first | exact Fr.pure _ | exact Fr.ret _ | exact Fr.fail | exact Fr.no | exact Fr.opt _ | exact Fr.rd _ | exact Fr.wr _ _ | exact Fr.nw _ | exact Fr.rdCells _ | exact Fr.rdMap _ | exact Fr.newCells _ _ | exact Fr.pureVal _ | exact Fr.doLoad _ _ _ | exact Fr.srcCells _ _ | exact Fr.entries _ | exact hcall _ _ | exact Fr.doStore _ _ _ _ | exact Fr.doAppend _ _ _ _ | exact Fr.doDelete _ _ _ _ | exact Fr.doLen _ _ _ | exact Fr.nilEq _ _ _ _ _ | apply Fr.cond | apply Fr.bind | intro _ | split))
theorem Fr.armUn {P : Program} {call : FuncId → List Value → E Value} {ρ : Operand → Value} (op : UnOp) (x : Operand) (hcall : ∀ f as, Fr (call f as)) : Fr (Go.Ev.armUn op x P call ρ) := by
  unfold Go.Ev.armUn
  (repeat' (first | exact Fr.pure _ | exact Fr.ret _ | exact Fr.fail | exact Fr.no | exact Fr.opt _ | exact Fr.rd _ | exact Fr.wr _ _ | exact Fr.nw _ | exact Fr.rdCells _ | exact Fr.rdMap _ | exact Fr.newCells _ _ | exact Fr.pureVal _ | exact Fr.doLoad _ _ _ | exact Fr.srcCells _ _ | exact Fr.entries _ | exact hcall _ _ | exact Fr.doStore _ _ _ _ | exact Fr.doAppend _ _ _ _ | exact Fr.doDelete _ _ _ _ | exact Fr.doLen _ _ _ | exact Fr.nilEq _ _ _ _ _ | apply Fr.cond | apply Fr.bind | intro _ | split))
theorem Fr.armMakeInterface {P : Program} {call : FuncId → List Value → E Value} {ρ : Operand → Value} (t : TypeId) (x : Operand) (hcall : ∀ f as, Fr (call f as)) : Fr (Go.Ev.armMakeInterface t x P call ρ) := by
  unfold Go.Ev.armMakeInterface
  (repeat' (first | exact Fr.pure _ | exact Fr.ret _ | exact Fr.fail | exact Fr.no | exact Fr.opt _ | exact Fr.rd _ | exact Fr.wr _ _ | exact Fr.nw _ | exact Fr.rdCells _ | exact Fr.rdMap _ | exact Fr.newCells _ _ | exact Fr.pureVal _ | exact Fr.doLoad _ _ _ | exact Fr.srcCells _ _ | exact Fr.entries _ | exact hcall _ _ | exact Fr.doStore _ _ _ _ | exact Fr.doAppend _ _ _ _ | exact Fr.doDelete _ _ _ _ | exact Fr.doLen _ _ _ | exact Fr.nilEq _ _ _ _ _ | apply Fr.cond | apply Fr.bind | intro _ | split))
theorem Fr.armMakeFunc {P : Program} {call : FuncId → List Value → E Value} {ρ : Operand → Value} (fn : Fn) (a b : Array Operand) (hcall : ∀ f as, Fr (call f as)) : Fr (Go.Ev.armMakeFunc fn a b P call ρ) := by
  unfold Go.Ev.armMakeFunc
  (repeat' (first | exact Fr.pure _ | exact Fr.ret _ | exact Fr.fail | exact Fr.no | exact Fr.opt _ | exact Fr.rd _ | exact Fr.wr _ _ | exact Fr.nw _ | exact Fr.rdCells _ | exact Fr.rdMap _ | exact Fr.newCells _ _ | exact Fr.pureVal _ | exact Fr.doLoad _ _ _ | exact Fr.srcCells _ _ | exact Fr.entries _ | exact hcall _ _ | exact Fr.doStore _ _ _ _ | exact Fr.doAppend _ _ _ _ | exact Fr.doDelete _ _ _ _ | exact Fr.doLen _ _ _ | exact Fr.nilEq _ _ _ _ _ | apply Fr.cond | apply Fr.bind | intro _ | split))
theorem Fr.armMakeMap {P : Program} {call : FuncId → List Value → E Value} {ρ : Operand → Value} (t : TypeId) (h : Option Operand) (hcall : ∀ f as, Fr (call f as)) : Fr (Go.Ev.armMakeMap t h P call ρ) := by
  unfold Go.Ev.armMakeMap
  (repeat' (first | exact Fr.pure _ | exact Fr.ret _ | exact Fr.fail | exact Fr.no | exact Fr.opt _ | exact Fr.rd _ | exact Fr.wr _ _ | exact Fr.nw _ | exact Fr.rdCells _ | exact Fr.rdMap _ | exact Fr.newCells _ _ | exact Fr.pureVal _ | exact Fr.doLoad _ _ _ | exact Fr.srcCells _ _ | exact Fr.entries _ | exact hcall _ _ | exact Fr.doStore _ _ _ _ | exact Fr.doAppend _ _ _ _ | exact Fr.doDelete _ _ _ _ | exact Fr.doLen _ _ _ | exact Fr.nilEq _ _ _ _ _ | apply Fr.cond | apply Fr.bind | intro _ | split))
theorem Fr.armField {P : Program} {call : FuncId → List Value → E Value} {ρ : Operand → Value} (t : TypeId) (x : Operand) (f : Nat) (hcall : ∀ f as, Fr (call f as)) : Fr (Go.Ev.armField t x f P call ρ) := by
  unfold Go.Ev.armField
  (repeat' (first | exact Fr.pure _ | exact Fr.ret _ | exact Fr.fail | exact Fr.no | exact Fr.opt _ | exact Fr.rd _ | exact Fr.wr _ _ | exact Fr.nw _ | exact Fr.rdCells _ | exact Fr.rdMap _ | exact Fr.newCells _ _ | exact Fr.pureVal _ | exact Fr.doLoad _ _ _ | exact Fr.srcCells _ _ | exact Fr.entries _ | exact hcall _ _ | exact Fr.doStore _ _ _ _ | exact Fr.doAppend _ _ _ _ | exact Fr.doDelete _ _ _ _ | exact Fr.doLen _ _ _ | exact Fr.nilEq _ _ _ _ _ | apply Fr.cond | apply Fr.bind | intro _ | split))
theorem Fr.armIndex {P : Program} {call : FuncId → List Value → E Value} {ρ : Operand → Value} (t : TypeId) (x i : Operand) (hcall : ∀ f as, Fr (call f as)) : Fr (Go.Ev.armIndex t x i P call ρ) := by
  unfold Go.Ev.armIndex
  (repeat' (first | exact Fr.pure _ | exact Fr.ret _ | exact Fr.fail | exact Fr.no | exact Fr.opt _ | exact Fr.rd _ | exact Fr.wr _ _ | exact Fr.nw _ | exact Fr.rdCells _ | exact Fr.rdMap _ | exact Fr.newCells _ _ | exact Fr.pureVal _ | exact Fr.doLoad _ _ _ | exact Fr.srcCells _ _ | exact Fr.entries _ | exact hcall _ _ | exact Fr.doStore _ _ _ _ | exact Fr.doAppend _ _ _ _ | exact Fr.doDelete _ _ _ _ | exact Fr.doLen _ _ _ | exact Fr.nilEq _ _ _ _ _ | apply Fr.cond | apply Fr.bind | intro _ | split))
theorem Fr.armTypeAssert {P : Program} {call : FuncId → List Value → E Value} {ρ : Operand → Value} (x : Operand) (a : TypeId) (ok : Bool) (hcall : ∀ f as, Fr (call f as)) : Fr (Go.Ev.armTypeAssert x a ok P call ρ) := by
  unfold Go.Ev.armTypeAssert
  (repeat' (first | exact Fr.pure _ | exact Fr.ret _ | exact Fr.fail | exact Fr.no | exact Fr.opt _ | exact Fr.rd _ | exact Fr.wr _ _ | exact Fr.nw _ | exact Fr.rdCells _ | exact Fr.rdMap _ | exact Fr.newCells _ _ | exact Fr.pureVal _ | exact Fr.doLoad _ _ _ | exact Fr.srcCells _ _ | exact Fr.entries _ | exact hcall _ _ | exact Fr.doStore _ _ _ _ | exact Fr.doAppend _ _ _ _ | exact Fr.doDelete _ _ _ _ | exact Fr.doLen _ _ _ | exact Fr.nilEq _ _ _ _ _ | apply Fr.cond | apply Fr.bind | intro _ | split))
theorem Fr.armExtract {P : Program} {call : FuncId → List Value → E Value} {ρ : Operand → Value} (t : Operand) (i : Nat) (hcall : ∀ f as, Fr (call f as)) : Fr (Go.Ev.armExtract t i P call ρ) := by
  unfold Go.Ev.armExtract
  (repeat' (first | exact Fr.pure _ | exact Fr.ret _ | exact Fr.fail | exact Fr.no | exact Fr.opt _ | exact Fr.rd _ | exact Fr.wr _ _ | exact Fr.nw _ | exact Fr.rdCells _ | exact Fr.rdMap _ | exact Fr.newCells _ _ | exact Fr.pureVal _ | exact Fr.doLoad _ _ _ | exact Fr.srcCells _ _ | exact Fr.entries _ | exact hcall _ _ | exact Fr.doStore _ _ _ _ | exact Fr.doAppend _ _ _ _ | exact Fr.doDelete _ _ _ _ | exact Fr.doLen _ _ _ | exact Fr.nilEq _ _ _ _ _ | apply Fr.cond | apply Fr.bind | intro _ | split))
theorem Fr.armCallV {P : Program} {call : FuncId → List Value → E Value} {ρ : Operand → Value} (f : Operand) (as : Array Operand) (hcall : ∀ f as, Fr (call f as)) : Fr (Go.Ev.armCallV f as P call ρ) := by
  unfold Go.Ev.armCallV
  (repeat' (first | exact Fr.pure _ | exact Fr.ret _ | exact Fr.fail | exact Fr.no | exact Fr.opt _ | exact Fr.rd _ | exact Fr.wr _ _ | exact Fr.nw _ | exact Fr.rdCells _ | exact Fr.rdMap _ | exact Fr.newCells _ _ | exact Fr.pureVal _ | exact Fr.doLoad _ _ _ | exact Fr.srcCells _ _ | exact Fr.entries _ | exact hcall _ _ | exact Fr.doStore _ _ _ _ | exact Fr.doAppend _ _ _ _ | exact Fr.doDelete _ _ _ _ | exact Fr.doLen _ _ _ | exact Fr.nilEq _ _ _ _ _ | apply Fr.cond | apply Fr.bind | intro _ | split))
theorem Fr.armInvoke {P : Program} {call : FuncId → List Value → E Value} {ρ : Operand → Value} (x : Operand) (name : String) (as : Array Operand) (hcall : ∀ f as, Fr (call f as)) : Fr (Go.Ev.armInvoke x name as P call ρ) := by
  unfold Go.Ev.armInvoke
  (repeat' (first | exact Fr.pure _ | exact Fr.ret _ | exact Fr.fail | exact Fr.no | exact Fr.opt _ | exact Fr.rd _ | exact Fr.wr _ _ | exact Fr.nw _ | exact Fr.rdCells _ | exact Fr.rdMap _ | exact Fr.newCells _ _ | exact Fr.pureVal _ | exact Fr.doLoad _ _ _ | exact Fr.srcCells _ _ | exact Fr.entries _ | exact hcall _ _ | exact Fr.doStore _ _ _ _ | exact Fr.doAppend _ _ _ _ | exact Fr.doDelete _ _ _ _ | exact Fr.doLen _ _ _ | exact Fr.nilEq _ _ _ _ _ | apply Fr.cond | apply Fr.bind | intro _ | split))
theorem Fr.armBuiltin {P : Program} {call : FuncId → List Value → E Value} {ρ : Operand → Value} (b : Builtin) (as : Array Operand) (ts : Array TypeId) (hcall : ∀ f as, Fr (call f as)) : Fr (Go.Ev.armBuiltin b as ts P call ρ) := by
  unfold Go.Ev.armBuiltin
  (repeat' (first | exact Fr.pure _ | exact Fr.ret _ | exact Fr.fail | exact Fr.no | exact Fr.opt _ | exact Fr.rd _ | exact Fr.wr _ _ | exact Fr.nw _ | exact Fr.rdCells _ | exact Fr.rdMap _ | exact Fr.newCells _ _ | exact Fr.pureVal _ | exact Fr.doLoad _ _ _ | exact Fr.srcCells _ _ | exact Fr.entries _ | exact hcall _ _ | exact Fr.doStore _ _ _ _ | exact Fr.doAppend _ _ _ _ | exact Fr.doDelete _ _ _ _ | exact Fr.doLen _ _ _ | exact Fr.nilEq _ _ _ _ _ | apply Fr.cond | apply Fr.bind | intro _ | split))
theorem Fr.armPick {P : Program} {call : FuncId → List Value → E Value} {ρ : Operand → Value} (c a b : Operand) (hcall : ∀ f as, Fr (call f as)) : Fr (Go.Ev.armPick c a b P call ρ) := by
  unfold Go.Ev.armPick
  (repeat' (first | exact Fr.pure _ | exact Fr.ret _ | exact Fr.fail | exact Fr.no | exact Fr.opt _ | exact Fr.rd _ | exact Fr.wr _ _ | exact Fr.nw _ | exact Fr.rdCells _ | exact Fr.rdMap _ | exact Fr.newCells _ _ | exact Fr.pureVal _ | exact Fr.doLoad _ _ _ | exact Fr.srcCells _ _ | exact Fr.entries _ | exact hcall _ _ | exact Fr.doStore _ _ _ _ | exact Fr.doAppend _ _ _ _ | exact Fr.doDelete _ _ _ _ | exact Fr.doLen _ _ _ | exact Fr.nilEq _ _ _ _ _ | apply Fr.cond | apply Fr.bind | intro _ | split))
theorem Fr.armNilCheck {P : Program} {call : FuncId → List Value → E Value} {ρ : Operand → Value} (x : Operand) (hcall : ∀ f as, Fr (call f as)) : Fr (Go.Ev.armNilCheck x P call ρ) := by
  unfold Go.Ev.armNilCheck
  (repeat' (first | exact Fr.pure _ | exact Fr.ret _ | exact Fr.fail | exact Fr.no | exact Fr.opt _ | exact Fr.rd _ | exact Fr.wr _ _ | exact Fr.nw _ | exact Fr.rdCells _ | exact Fr.rdMap _ | exact Fr.newCells _ _ | exact Fr.pureVal _ | exact Fr.doLoad _ _ _ | exact Fr.srcCells _ _ | exact Fr.entries _ | exact hcall _ _ | exact Fr.doStore _ _ _ _ | exact Fr.doAppend _ _ _ _ | exact Fr.doDelete _ _ _ _ | exact Fr.doLen _ _ _ | exact Fr.nilEq _ _ _ _ _ | apply Fr.cond | apply Fr.bind | intro _ | split))
theorem Fr.armNone {P : Program} {call : FuncId → List Value → E Value} {ρ : Operand → Value} : Fr (Go.Ev.armNone P call ρ) := Fr.no
theorem Fr.armCall {P : Program} {call : FuncId → List Value → E Value} {ρ : Operand → Value} (c : Call) (hcall : ∀ f as, Fr (call f as)) : Fr (Go.Ev.armCall c P call ρ) := by
  unfold Go.Ev.armCall
  obtain ⟨callee, args, ts⟩ := c
  cases callee
  · exact Fr.armCallV _ _ hcall
  · exact Fr.armInvoke _ _ _ hcall
  · exact Fr.armBuiltin _ _ _ hcall
theorem Fr.armOf {P : Program} {call : FuncId → List Value → E Value} {ρ : Operand → Value} (o : Op) (hcall : ∀ f as, Fr (call f as)) : Fr (Go.Ev.armOf o P call ρ) := by
  cases o <;> first
    | (show Fr (Go.Ev.armLookup _ _ _ _ P call ρ); exact Fr.armLookup _ _ _ _ hcall)
    | (show Fr (Go.Ev.armMapUpdate _ _ _ _ P call ρ); exact Fr.armMapUpdate _ _ _ _ hcall)
    | (show Fr (Go.Ev.armConvert _ _ _ P call ρ); exact Fr.armConvert _ _ _ hcall)
    | (show Fr (Go.Ev.armBin _ _ _ _ P call ρ); exact Fr.armBin _ _ _ _ hcall)
    | (show Fr (Go.Ev.armFieldAddr _ _ _ P call ρ); exact Fr.armFieldAddr _ _ _ hcall)
    | (show Fr (Go.Ev.armIndexAddr _ _ _ P call ρ); exact Fr.armIndexAddr _ _ _ hcall)
    | (show Fr (Go.Ev.armSlice _ _ _ _ _ P call ρ); exact Fr.armSlice _ _ _ _ _ hcall)
    | (show Fr (Go.Ev.armMakeSlice _ _ _ P call ρ); exact Fr.armMakeSlice _ _ _ hcall)
    | (show Fr (Go.Ev.armNext _ _ P call ρ); exact Fr.armNext _ _ hcall)
    | (show Fr (Go.Ev.armRange _ _ P call ρ); exact Fr.armRange _ _ hcall)
    | (show Fr (Go.Ev.armEntry _ P call ρ); exact Fr.armEntry _ hcall)
    | (show Fr (Go.Ev.armMove _ P call ρ); exact Fr.armMove _ hcall)
    | (show Fr (Go.Ev.armAlloc _ P call ρ); exact Fr.armAlloc _ hcall)
    | (show Fr (Go.Ev.armBox _ _ P call ρ); exact Fr.armBox _ _ hcall)
    | (show Fr (Go.Ev.armBuild _ _ P call ρ); exact Fr.armBuild _ _ hcall)
    | (show Fr (Go.Ev.armBuildSlice _ _ _ P call ρ); exact Fr.armBuildSlice _ _ _ hcall)
    | (show Fr (Go.Ev.armLoad _ _ P call ρ); exact Fr.armLoad _ _ hcall)
    | (show Fr (Go.Ev.armStore _ _ _ P call ρ); exact Fr.armStore _ _ _ hcall)
    | (show Fr (Go.Ev.armUn _ _ P call ρ); exact Fr.armUn _ _ hcall)
    | (show Fr (Go.Ev.armMakeInterface _ _ P call ρ); exact Fr.armMakeInterface _ _ hcall)
    | (show Fr (Go.Ev.armMakeFunc _ _ _ P call ρ); exact Fr.armMakeFunc _ _ _ hcall)
    | (show Fr (Go.Ev.armMakeMap _ _ P call ρ); exact Fr.armMakeMap _ _ hcall)
    | (show Fr (Go.Ev.armField _ _ _ P call ρ); exact Fr.armField _ _ _ hcall)
    | (show Fr (Go.Ev.armIndex _ _ _ P call ρ); exact Fr.armIndex _ _ _ hcall)
    | (show Fr (Go.Ev.armTypeAssert _ _ _ P call ρ); exact Fr.armTypeAssert _ _ _ hcall)
    | (show Fr (Go.Ev.armExtract _ _ P call ρ); exact Fr.armExtract _ _ hcall)
    | (show Fr (Go.Ev.armCallV _ _ P call ρ); exact Fr.armCallV _ _ hcall)
    | (show Fr (Go.Ev.armInvoke _ _ _ P call ρ); exact Fr.armInvoke _ _ _ hcall)
    | (show Fr (Go.Ev.armBuiltin _ _ _ P call ρ); exact Fr.armBuiltin _ _ _ hcall)
    | (show Fr (Go.Ev.armPick _ _ _ P call ρ); exact Fr.armPick _ _ _ hcall)
    | (show Fr (Go.Ev.armNilCheck _ P call ρ); exact Fr.armNilCheck _ hcall)
    | (show Fr (Go.Ev.armCall _ P call ρ); exact Fr.armCall _ hcall)
    | exact @Fr.armNone P call ρ

section
variable {P : Program} {call : FuncId → List Value → E Value} {nat : Nats}
theorem evalOps_cons (n : Nat) (all : List Oper) (o : Oper) (l : List Oper) (r : Regs) (s : St) :
    evalOps P call n all (o :: l) r s = (match wanted all o r with
      | none => none
      | some false => (match putR n r o.dst undef with
        | none => none
        | some r => evalOps P call n all l r s)
      | some true => match Go.Ev.armOf o.op P call (ev r) s with
        | none => none
        | some (v, s) => match putR n r o.dst v with
          | none => none
          | some r => evalOps P call n all l r s) := rfl
theorem Fr.evalOps (n : Nat) (all : List Oper) (hcall : ∀ f as, Fr (call f as)) : ∀ (l : List Oper) (r : Regs), Fr (Go.Ev.evalOps P call n all l r)
  | [], r => Fr.ret r
  | o :: l, r => by
    have ih := Fr.evalOps n all hcall l
    refine Fr.congr (m' := (match wanted all o r with
      | none => Go.Ev.fail
      | some false => (match putR n r o.dst undef with
        | none => Go.Ev.fail
        | some r => Go.Ev.evalOps P call n all l r)
      | some true => Go.Ev.armOf o.op P call (ev r) >>= fun v => match putR n r o.dst v with
          | none => Go.Ev.fail
          | some r => Go.Ev.evalOps P call n all l r)) ?_ ?_
    · intro s
      rw [evalOps_cons]
      cases wanted all o r with
      | none => rfl
      | some b =>
        cases b with
        | false => dsimp only; cases putR n r o.dst undef <;> rfl
        | true =>
          dsimp only
          show _ = E.bind _ _ s
          unfold E.bind
          cases Go.Ev.armOf o.op P call (ev r) s with
          | none => rfl
          | some p => obtain ⟨v, s⟩ := p; dsimp only; cases putR n r o.dst v <;> rfl
    · split
      · exact Fr.fail
      · split
        · exact Fr.fail
        · exact ih _
      · refine Fr.bind (Fr.armOf _ hcall) fun v => ?_
        split
        · exact Fr.fail
        · exact ih _
theorem Fr.withMask {α : Type} {m : E α} (hm : Fr m) (deny : List (Nat × Nat)) (only : Option (List Nat)) : Fr (Go.Ev.withMask m deny only) := by
  refine ⟨fun s p s' h => ?_⟩
  unfold Go.Ev.withMask at h
  cases ho : s.mask.only with
  | some l => rw [ho] at h; cases h
  | none =>
    rw [ho] at h
    dsimp only at h
    generalize hs0 : ({ heap := s.heap, next := s.next, low := s.next, mask := ⟨deny ++ s.mask.deny, only⟩ } : St) = s0 at h
    cases hms : m s0 with
    | none => rw [hms] at h; cases h
    | some q =>
      obtain ⟨a, s1⟩ := q
      rw [hms] at h
      simp only [Option.some.injEq, Prod.mk.injEq] at h
      obtain ⟨rfl, rfl⟩ := h
      have H := hm.step s0 a s1 hms
      have e1 : s0.heap = s.heap := by rw [← hs0]
      have e2 : s0.next = s.next := by rw [← hs0]
      have e3 : s0.low = s.next := by rw [← hs0]
      have e4 : s0.mask = ⟨deny ++ s.mask.deny, only⟩ := by rw [← hs0]
      have hsub : ∀ x, masked s0.mask x = false → masked s.mask x = false := by
        intro x hx
        rw [e4] at hx
        unfold masked at hx ⊢
        rw [ho]
        have hx1 : denied (deny ++ s.mask.deny) x = false := by
          cases hd : denied (deny ++ s.mask.deny) x with
          | false => rfl
          | true => rw [hd] at hx; simp at hx
        have hap : ∀ l : List (Nat × Nat), denied (l ++ s.mask.deny) x = (denied l x || denied s.mask.deny x) := by
          intro l
          induction l with
          | nil => simp [denied]
          | cons p l ih => obtain ⟨a, b⟩ := p; simp [denied, ih, Bool.or_assoc]
        rw [hap] at hx1
        simp at hx1
        simp [hx1.2]
      have hmin1 : Nat.min s.low s1.low ≤ s1.low := Nat.min_le_right _ _
      have hnx := H.next
      rw [e2] at hnx
      refine ⟨rfl, hnx, Nat.min_le_left _ _, ?_, ?_, ?_⟩
      · intro x o hx
        exact H.grows x o (by rw [e1]; exact hx)
      · intro x hx hor
        dsimp only at hx hor ⊢
        have := H.keeps x (by rw [e2]; exact hx) (by
          rcases hor with h | h | h
          · refine .inl ?_
            cases hc : masked s0.mask x with
            | true => rfl
            | false => rw [hsub x hc] at h; cases h
          · exact .inr (.inl (by rw [e1]; exact h))
          · exact .inr (.inr (by have := hmin1; omega)))
        rw [this, e1]
      · intro H2 M2 ho2 hm2 hag hn
        have hon : M2.only = none := ho2.trans ho
        have hapD : ∀ (l d : List (Nat × Nat)) x, denied (l ++ d) x = (denied l x || denied d x) := by
          intro l d x
          induction l with
          | nil => simp [denied]
          | cons p l ih => obtain ⟨a, b⟩ := p; simp [denied, ih, Bool.or_assoc]
        obtain ⟨H3, hr, ha, hk⟩ := H.rerun H2 ⟨deny ++ M2.deny, only⟩ (by rw [e4]) (fun x hx hor => by
          have h1 := hm2 x (hsub x hx) (by rw [e1, e2] at hor; exact hor)
          rw [e4] at hx
          unfold masked at hx h1 ⊢
          rw [hon] at h1
          rw [hapD] at hx ⊢
          simp only [Bool.or_eq_false_iff, Bool.or_false] at hx h1 ⊢
          exact ⟨⟨hx.1.1, h1⟩, hx.2⟩) (fun x o hx hg => hag x o (hsub x hx) (by rw [← e1]; exact hg)) (by rw [e2]; exact hn)
        refine ⟨H3, ?_, ?_, ?_⟩
        · unfold Go.Ev.withMask
          dsimp only
          rw [hon]
          dsimp only
          rw [e2, e3] at hr
          rw [hr]
        · intro x o hx hg
          dsimp only at hx hg
          by_cases hc : masked s0.mask x = false
          · exact ha x o (.inl hc) hg
          · have hc' : masked s0.mask x = true := by simpa using hc
            by_cases hr2 : s.next ≤ x ∧ x < s1.next
            · exact ha x o (.inr (by rw [e2]; exact hr2)) hg
            · rw [hk x (by rw [e2]; exact hr2) (.inl hc')]
              rw [H.keeps x (by rw [e2]; exact hr2) (.inl hc'), e1] at hg
              rcases hx with hx | hx
              · exact hag x o hx hg
              · exact absurd hx hr2
        · intro x hx hor
          dsimp only at hx hor
          exact hk x (by rw [e2]; exact hx) (by
            rcases hor with h | h | h
            · refine .inl ?_
              cases hc : masked s0.mask x with
              | true => rfl
              | false => rw [hsub x hc] at h; cases h
            · exact .inr (.inl (by rw [e1]; exact h))
            · exact .inr (.inr (by have := hmin1; omega)))
theorem Fr.evalDraw (n : Nat) (all : List Oper) (hcall : ∀ f as, Fr (call f as)) : ∀ (l : List (Oper × Nat)) (done : List Done) (r : Regs), Fr (Go.Ev.evalDraw P call n all l done r)
  | [], done, r => by unfold Go.Ev.evalDraw; exact Fr.pure r
  | (o, b) :: l, done, r => by
    have ih := Fr.evalDraw n all hcall l
    unfold Go.Ev.evalDraw
    split
    · exact Fr.fail
    · split
      · exact Fr.fail
      · exact ih _ _
    · split
      · exact Fr.fail
      · refine Fr.bind (Fr.withMask (Fr.armOf _ hcall) _ _) fun p => ?_
        obtain ⟨v, fro, upto, w⟩ := p
        dsimp only
        refine Fr.cond ?_ Fr.fail
        split
        · exact Fr.fail
        · exact ih _ _
theorem Fr.resultsOf (r : Regs) : ∀ l : List ResultVar, Fr (Go.Ev.resultsOf P r l)
  | [] => by unfold Go.Ev.resultsOf; exact Fr.pure _
  | .tmp t :: l => by unfold Go.Ev.resultsOf; exact Fr.bind (Fr.resultsOf r l) fun _ => Fr.pure _
  | .cell a t :: l => by unfold Go.Ev.resultsOf; exact Fr.bind (Fr.doLoad _ _ _) fun _ => Fr.bind (Fr.resultsOf r l) fun _ => Fr.pure _
theorem Fr.enter {code : CRun} (hc : ∀ n c r, Fr (code n c r)) (hn : ∀ f g, nat f = some g → ∀ as, Fr (g as)) (f : FuncId) (as : List Value) : Fr (Go.Ev.enter P nat code f as) := by
  unfold Go.Ev.enter
  split
  · rename_i g hg; exact hn f g hg as
  · split
    · exact Fr.fail
    · split
      · exact Fr.fail
      · refine Fr.bind (hc _ _ _) fun p => ?_
        split
        · exact Fr.bind (Fr.resultsOf _ _) fun _ => Fr.pure _
        · exact Fr.bind (Fr.resultsOf _ _) fun _ => Fr.pure _
        · exact Fr.fail
theorem loopIter_succ (body : Regs → E (Ex × Regs)) (k : Nat) (r : Regs) (s : St) : loopIter body (k + 1) r s = (match body r s with
      | none => none
      | some ((e, r), s) => match e with
        | .normal => loopIter body k r s
        | e => some ((e, r), s)) := rfl
theorem Fr.loopIter {body : Regs → E (Ex × Regs)} (hb : ∀ r, Fr (body r)) : ∀ (k : Nat) (r : Regs), Fr (Go.Ev.loopIter body k r)
  | 0, r => Fr.no
  | k + 1, r => by
    have ih := Fr.loopIter hb k
    refine Fr.congr (m' := body r >>= fun p => match p with | (.normal, r) => Go.Ev.loopIter body k r | (e, r) => Pure.pure (e, r)) ?_ ?_
    · intro s
      rw [loopIter_succ]
      show _ = E.bind _ _ s
      unfold E.bind
      cases body r s with
      | none => rfl
      | some p => obtain ⟨⟨e, r⟩, s⟩ := p; cases e <;> rfl
    · refine Fr.bind (hb r) fun p => ?_
      split
      · exact ih _
      · exact Fr.pure _
theorem scopeIter_succ (ev : Code → Regs → E (Ex × Regs)) (c : Code) (k : Nat) (cur : Code) (r : Regs) (s : St) : scopeIter ev c (k + 1) cur r s = (match ev cur r s with
      | none => none
      | some ((e, r), s) => match e with
        | .goto l => (match findLabel c l with
          | some rest => scopeIter ev c k rest r s
          | none => some ((.goto l, r), s))
        | e => some ((e, r), s)) := rfl
theorem Fr.scopeIter {ev : Code → Regs → E (Ex × Regs)} (hb : ∀ c r, Fr (ev c r)) (c : Code) : ∀ (k : Nat) (cur : Code) (r : Regs), Fr (Go.Ev.scopeIter ev c k cur r)
  | 0, cur, r => Fr.no
  | k + 1, cur, r => by
    have ih := Fr.scopeIter hb c k
    refine Fr.congr (m' := ev cur r >>= fun p => match p with | (.goto l, r) => (match findLabel c l with | some rest => Go.Ev.scopeIter ev c k rest r | none => Pure.pure (.goto l, r)) | (e, r) => Pure.pure (e, r)) ?_ ?_
    · intro s
      rw [scopeIter_succ]
      show _ = E.bind _ _ s
      unfold E.bind
      cases ev cur r s with
      | none => rfl
      | some p => obtain ⟨⟨e, r⟩, s⟩ := p; cases e <;> first | rfl | (dsimp only; cases findLabel c _ <;> rfl)
    · refine Fr.bind (hb cur r) fun p => ?_
      split
      · split
        · exact ih _ _
        · exact Fr.pure _
      · exact Fr.pure _
theorem Fr.cRegion (ops : Array Oper) (d : Bool) (k : Nat) {ih : CRun} (n : Nat) (r : Regs) (hcall : ∀ f as, Fr (Go.Ev.enter P nat ih f as)) : Fr (Go.Ev.cRegion ops d P nat k ih n r) := by
  unfold Go.Ev.cRegion
  split
  · refine Fr.cond ?_ Fr.fail
    exact Fr.bind (Fr.evalDraw _ _ hcall _ _ _) fun _ => Fr.pure _
  · exact Fr.bind (Fr.evalOps _ _ hcall _ _) fun _ => Fr.pure _
theorem Fr.ex {m : E (Ex × Regs)} {f : Ex × Regs → E (Ex × Regs)} {m' : E (Ex × Regs)} (hm : Fr m) (hf : ∀ p, Fr (f p)) (h : ∀ s, m' s = (m >>= f) s) : Fr m' := Fr.congr h (Fr.bind hm hf)
theorem Fr.armOfCode (k : Nat) {ih : CRun} (hih : ∀ n c r, Fr (ih n c r)) (hn : ∀ f g, nat f = some g → ∀ as, Fr (g as)) (n : Nat) (c : Code) (r : Regs) : Fr (Go.Ev.armOfCode c P nat k ih n r) := by
  cases c with
  | skip => exact Fr.ret _
  | region id ops d => exact Fr.cRegion ops d k n r (Fr.enter hih hn)
  | seq a b =>
    refine Fr.ex (f := fun p => match p with | (.normal, r) => ih n b r | (e, r) => Pure.pure (e, r)) (hih n a r) (fun p => ?_) ?_
    · split
      · exact hih _ _ _
      · exact Fr.pure _
    · intro s
      show (match ih n a r s with | none => none | some ((e, r), s) => match e with | .normal => ih n b r s | e => some ((e, r), s)) = E.bind _ _ s
      unfold E.bind
      cases ih n a r s with
      | none => rfl
      | some p => obtain ⟨⟨e, r⟩, s⟩ := p; cases e <;> rfl
  | cond c a b =>
    have : Go.Ev.armOfCode (.cond c a b) P nat k ih n r = (match ev r c with | .bool t => (bif t then ih n a r else ih n b r) | _ => Go.Ev.fail) := by
      funext s
      show (match ev r c with | .bool t => Bool.rec (motive := fun _ => Option ((Ex × Regs) × St)) (ih n b r s) (ih n a r s) t | _ => none) = _
      cases ev r c <;> first | rfl | (rename_i t; cases t <;> rfl)
    rw [this]
    split
    · exact Fr.cond (hih _ _ _) (hih _ _ _)
    · exact Fr.fail
  | block id c =>
    refine Fr.ex (f := fun p => match p with | (.exit i, r) => Pure.pure (bif Nat.beq i id then .normal else .exit i, r) | (e, r) => Pure.pure (e, r)) (hih n c r) (fun p => ?_) ?_
    · split <;> exact Fr.pure _
    · intro s
      show (match ih n c r s with | none => none | some ((e, r), s) => match e with | .exit i => some ((bif Nat.beq i id then .normal else .exit i, r), s) | e => some ((e, r), s)) = E.bind _ _ s
      unfold E.bind
      cases ih n c r s with
      | none => rfl
      | some p => obtain ⟨⟨e, r⟩, s⟩ := p; cases e <;> rfl
  | loop c => exact Fr.loopIter (fun r => hih _ _ _) _ _
  | rangeFunc f a b c => exact Fr.no
  | exit id => exact Fr.ret _
  | scope c => exact Fr.scopeIter (fun c r => hih _ _ _) _ _ _ _
  | label l => exact Fr.ret _
  | goto l => exact Fr.ret _
  | ret => exact Fr.ret _
  | refuse w => exact Fr.no
theorem evalCode_succ (k n : Nat) (c : Code) (r : Regs) : evalCode P nat (k + 1) n c r = Go.Ev.armOfCode c P nat k (evalCode P nat k) n r := rfl
theorem Fr.evalCode (hn : ∀ f g, nat f = some g → ∀ as, Fr (g as)) : ∀ (k n : Nat) (c : Code) (r : Regs), Fr (Go.Ev.evalCode P nat k n c r)
  | 0, n, c, r => Fr.no
  | k + 1, n, c, r => by rw [evalCode_succ]; exact Fr.armOfCode k (Fr.evalCode hn k) hn n c r
end
end Go.Ev

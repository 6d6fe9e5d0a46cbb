/-
  The machine as plain functions: its state, what an instruction does, what a run does. No program and no memory here.
-/
import Derived.Test.YtocjdbenelikpaaMem
namespace Go.Proofs.Ytocjdbenelikpaa
open Go.RowKit
def byteV (x : UInt8) : Value := .int .u8 (x.toNat : Int)

namespace Vm

/-- a machine's state. -/
structure M where
  code : List UInt8
  n : Nat
  r : List Int
  mem : List UInt8
  pc : Int
  stopped : Int

def reg (m : M) (i : Nat) : Int := m.r.getD i 0
def setR (m : M) (i : Nat) (v : Int) : M := { m with r := m.r.set i v }
def setM (m : M) (i : Nat) (v : UInt8) : M := { m with mem := m.mem.set i v }
def byteOf (v : Int) : UInt8 := UInt8.ofNat (v % 256).toNat

/-- what an instruction does: 0, or why it stops; and the state behind it. -/
def op (c x y : Nat) (k : Nat) (m : M) : Int × M :=
  let X := reg m x
  let Y := reg m y
  match c with
  | 0 => (2, m)
  | 1 => (3, m)
  | 2 => (0, setR m x k)
  | 3 => (0, setR m x Y)
  | 4 => (0, setR m x (wrap64 (X + Y)))
  | 5 => (0, setR m x (wrap64 (X - Y)))
  | 6 => (0, setR m x (wrap64 (X * Y)))
  | 7 => if Y = 0 then (4, m) else (0, setR m x (wrap64 (X.tdiv Y)))
  | 8 => if Y = 0 then (4, m) else (0, setR m x (X.tmod Y))
  | 9 => (0, setR m x (bits .and .i64 X Y))
  | 10 => (0, setR m x (bits .or .i64 X Y))
  | 11 => (0, setR m x (bits .xor .i64 X Y))
  | 12 => (0, setR m x (wrap64 (X * 2 ^ (k % 64))))
  | 13 => (0, setR m x (wrap64 (IntKind.u64.wrap X / 2 ^ (k % 64))))
  | 14 => (0, setR m x (if X < Y then 1 else 0))
  | 15 => (0, setR m x (if X = Y then 1 else 0))
  | 16 => (0, { m with pc := (k : Int) - 1 })
  | 17 => if X = 0 then (0, { m with pc := (k : Int) - 1 }) else (0, m)
  | 18 => if X = 0 then (0, m) else (0, { m with pc := (k : Int) - 1 })
  | 19 => if 0 ≤ Y ∧ Y < 1024 then (0, setR m x ((m.mem.getD Y.toNat 0).toNat : Int)) else (4, m)
  | 20 => if 0 ≤ Y ∧ Y < 1024 then (0, setM m Y.toNat (byteOf X)) else (4, m)
  | _ => (0, setR m x (wrap64 (wrap64 (X * 256) + k)))

/-- byte i of the instruction at which it stands. -/
def at_ (m : M) (i : Nat) : Nat := (m.code.getD (4 * m.pc.toNat + i) 0).toNat
def step (m : M) : Int × M := op (at_ m 0) (at_ m 1) (at_ m 2) (at_ m 3) m
def next (m : M) : M := { m with pc := m.pc + 1 }

/-- a run with so much fuel: what it used, why it stopped (0: no fuel is left), the state. -/
def go : Nat → M → Nat × Int × M
  | 0, m => (0, 0, m)
  | f + 1, m =>
    if (m.n : Int) ≤ m.pc then (0, 4, m) else
    let r := step m
    if r.1 = 4 then (0, 4, r.2) else if r.1 = 2 then (1, 2, r.2) else
    if r.1 = 0 then (let q := go f (next r.2); (q.1 + 1, q.2)) else (1, r.1, next r.2)

def fin (q : Nat × Int × M) : Nat × Int × M :=
  if q.2.1 = 0 then (q.1, 1, q.2.2) else if q.2.1 = 2 ∨ q.2.1 = 4 then (q.1, q.2.1, { q.2.2 with stopped := q.2.1 }) else q

def run (m : M) (fuel : Int) : Nat × Int × M := if m.stopped = 0 then fin (go fuel.toNat m) else (0, m.stopped, m)

/-- an image's instructions are just. -/
structure Good (m : M) : Prop where
  code : ∀ i, i < m.n → (m.code.getD (4 * i) 0).toNat < 22 ∧ (m.code.getD (4 * i + 1) 0).toNat < 8 ∧ (m.code.getD (4 * i + 2) 0).toNat < 8 ∧
    (16 ≤ (m.code.getD (4 * i) 0).toNat ∧ (m.code.getD (4 * i) 0).toNat ≤ 18 → (m.code.getD (4 * i + 3) 0).toNat < m.n)
  pc : 0 ≤ m.pc ∧ m.pc ≤ m.n

theorem op_code (c x y k : Nat) (m : M) : (op c x y k m).2.code = m.code ∧ (op c x y k m).2.n = m.n ∧ (op c x y k m).2.stopped = m.stopped := by
  unfold op setR setM
  dsimp only
  split <;> first | (split <;> simp) | simp

theorem op_pc (c x y k : Nat) (m : M) : (op c x y k m).2.pc = m.pc ∨ (16 ≤ c ∧ c ≤ 18 ∧ (op c x y k m).2.pc = (k : Int) - 1 ∧ (op c x y k m).1 = 0) := by
  unfold op setR setM
  dsimp only
  split <;> first | (split <;> simp) | simp

theorem op_stop (c x y k : Nat) (m : M) : (op c x y k m).1 = 0 ∨ (op c x y k m).1 = 2 ∨ (op c x y k m).1 = 3 ∨ (op c x y k m).1 = 4 := by
  unfold op setR setM
  dsimp only
  split <;> first | (split <;> simp) | simp

/-- the cells of a machine in memory. -/
def cells (cv : Value) (m : M) : Array Value :=
  (cv :: .int .i64 m.n :: (m.r.map (Value.int .i64) ++ (m.mem.map byteV ++ [.int .i64 m.pc, .int .i64 m.stopped]))).toArray

end Vm
end Go.Proofs.Ytocjdbenelikpaa

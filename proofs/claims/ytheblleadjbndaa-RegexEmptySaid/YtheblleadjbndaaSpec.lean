/- Regular expressions as the chapter has them, in plain Lean: their structure and how they are read; no program. -/
namespace Go.Proofs.Ytheblleadjbndaa

def digB (c : UInt8) : Bool := decide (48 ≤ c.toNat) && decide (c.toNat ≤ 57)
def letB (c : UInt8) : Bool := (decide (97 ≤ c.toNat) && decide (c.toNat ≤ 122)) || (decide (65 ≤ c.toNat) && decide (c.toNat ≤ 90))
def wordB (c : UInt8) : Bool := (letB c || digB c) || decide (c.toNat = 95)

namespace Rx
mutual
/-- A factor. -/
inductive U where
  | byte (c : UInt8)
  | cls (f : UInt8 → Bool)
  | grp (a : As)
  | star (u : U)
  | plus (u : U)
  | opt (u : U)
/-- A sequence of factors. -/
inductive Ss where
  | nil
  | cons (u : U) (s : Ss)
/-- Alternatives. -/
inductive As where
  | one (s : Ss)
  | more (s : Ss) (a : As)
end

def special (c : UInt8) : Bool := [46, 91, 93, 40, 41, 124, 42, 43, 63, 92].contains c
/-- The byte for which an escape stands. -/
def escB (c : UInt8) : Option UInt8 := if c = 110 then some 10 else if c = 116 then some 9 else if letB c || digB c then none else some c
def escU (c : UInt8) : Option U := if c = 110 then some (.byte 10) else if c = 116 then some (.byte 9) else if c = 100 then some (.cls digB) else if c = 119 then some (.cls wordB) else if letB c || digB c then none else some (.byte c)
/-- An item of a class. -/
def item : List UInt8 → Option (UInt8 × List UInt8)
  | [] => none
  | c :: r => if c = 93 then none else if c = 92 then (match r with | [] => none | d :: r' => (escB d).map fun b => (b, r')) else some (c, r)
def isRange : List UInt8 → Bool
  | a :: b :: _ => a == 45 && b != 93
  | _ => false
def add (g : UInt8 → Bool) (a b : UInt8) : UInt8 → Bool := fun c => g c || (decide (a.toNat ≤ c.toNat) && decide (c.toNat ≤ b.toNat))
/-- The last byte of an item or a range, and what follows. -/
def last (a : UInt8) (r : List UInt8) : Option (UInt8 × List UInt8) := if isRange r then (item r.tail).bind fun (b, r') => if b.toNat < a.toNat then none else some (b, r') else some (a, r)
def items : Nat → (UInt8 → Bool) → List UInt8 → Option ((UInt8 → Bool) × List UInt8)
  | 0, _, _ => none
  | n + 1, g, l => (item l).bind fun (a, r) => (last a r).bind fun (b, r') => match r' with | 93 :: r'' => some (add g a b, r'') | _ => items n (add g a b) r'
def bracket (l : List UInt8) : Option (U × List UInt8) :=
  match l with
  | 94 :: r => (items (r.length + 1) (fun _ => false) r).map fun (g, r') => (.cls (fun c => g c != true), r')
  | _ => (items (l.length + 1) (fun _ => false) l).map fun (g, r') => (.cls (fun c => g c != false), r')
def quant (u : U) (l : List UInt8) : U × List UInt8 :=
  match l with
  | 42 :: r => (.star u, r)
  | 43 :: r => (.plus u, r)
  | 63 :: r => (.opt u, r)
  | _ => (u, l)
mutual
def alts : Nat → List UInt8 → Option (As × List UInt8)
  | 0, _ => none
  | n + 1, l => (seqs n l).bind fun (s, r) => match r with | 124 :: r' => (alts n r').map fun (a, r'') => (.more s a, r'') | _ => some (.one s, r)
def seqs : Nat → List UInt8 → Option (Ss × List UInt8)
  | 0, _ => none
  | n + 1, l => match l with
    | [] => some (.nil, [])
    | c :: r => if c = 124 ∨ c = 41 then some (.nil, c :: r) else (atom n (c :: r)).bind fun (u, r1) => (seqs n (quant u r1).2).map fun (s, r2) => (.cons (quant u r1).1 s, r2)
def atom : Nat → List UInt8 → Option (U × List UInt8)
  | 0, _ => none
  | n + 1, l => match l with
    | [] => none
    | c :: r =>
      if c = 40 then (alts n r).bind fun (a, r') => match r' with | 41 :: r'' => some (.grp a, r'') | _ => none
      else if c = 91 then bracket r
      else if c = 46 then some (.cls fun _ => true, r)
      else if c = 92 then (match r with | [] => none | d :: r' => (escU d).map fun u => (u, r'))
      else if special c then none else some (.byte c, r)
end
/-- Steps that suffice to read so many bytes. -/
def fuel (n : Nat) : Nat := 4 * n + 4
def parse (l : List UInt8) : Option As := if 200 < l.length then none else match alts (fuel l.length) l with | some (a, []) => some a | _ => none
end Rx
end Go.Proofs.Ytheblleadjbndaa

/-
  The channels as plain data, and what each operation of a unit does to them.
-/
import Derived.Test.YtafhbnafigjinaaSx16
set_option linter.unusedSimpArgs false
set_option linter.unusedVariables false
namespace Go.Sx.Dma
open Go Go.Sx
structure Ch where
  src : Int
  dst : Int
  count : Int
  ctl : Int
  at_ : Int
  to : Int
  left : Int
  pending : Bool
  first : Bool
  latch : Int
def Ch.av : Ch → List AV → List AV
  | ⟨a, b, c, d, e, f, g, h, i, j⟩, l => .int .u32 a :: .int .u32 b :: .int .i64 c :: .int .u16 d :: .int .u32 e :: .int .u32 f :: .int .i64 g :: .bool h :: .bool i :: .int .u32 j :: l
def chOf : List AV → Option (Ch × List AV)
  | .int .u32 a :: .int .u32 b :: .int .i64 c :: .int .u16 d :: .int .u32 e :: .int .u32 f :: .int .i64 g :: .bool h :: .bool i :: .int .u32 j :: l => some (⟨a, b, c, d, e, f, g, h, i, j⟩, l)
  | _ => none
structure U where
  a : Ch
  b : Ch
  c : Ch
  d : Ch
def U.av : U → List AV
  | ⟨a, b, c, d⟩ => a.av (b.av (c.av (d.av [])))
def uOf (l : List AV) : Option U := match chOf l with
  | some (a, l) => match chOf l with
    | some (b, l) => match chOf l with
      | some (c, l) => match chOf l with
        | some (d, []) => some ⟨a, b, c, d⟩
        | _ => none
      | none => none
    | none => none
  | none => none
theorem uOf_av (u : U) : uOf u.av = some u := rfl
def U.get (u : U) (i : Int) : Ch := if i = 0 then u.a else if i = 1 then u.b else if i = 2 then u.c else u.d
def U.set (u : U) (i : Int) (x : Ch) : U := if i = 0 then { u with a := x } else if i = 1 then { u with b := x } else if i = 2 then { u with c := x } else { u with d := x }
def Ch.zero : Ch := ⟨0, 0, 0, 0, 0, 0, 0, false, false, 0⟩
def U.zero : U := ⟨.zero, .zero, .zero, .zero⟩
end Go.Sx.Dma

import Derived.Test.YtafhbnafigjinaaSx12
set_option linter.unusedSimpArgs false
set_option linter.unusedVariables false
namespace Go.Sx.Arm
open Go Go.Sx
def fld (w a n : Int) : Int := iand .u32 (ishr .u32 w a) (wr .u32 (ishl .u32 1 n - 1))
def btB (w a : Int) : Bool := iand .u32 (ishr .u32 w a) 1 == 1
structure Ins where
  kind : Int := 0
  cond : Int := 0
  code : Int := 0
  flags : Bool := false
  rd : Int := 0
  rn : Int := 0
  rs : Int := 0
  rm : Int := 0
  imm : Int := 0
  hasImm : Bool := false
  shift : Int := 0
  amount : Int := 0
  byReg : Bool := false
  load : Bool := false
  byte : Bool := false
  signed : Bool := false
  pre : Bool := false
  up : Bool := false
  back : Bool := false
  user : Bool := false
  list : Int := 0
  link : Bool := false
  long : Bool := false
  align : Bool := false
abbrev Ins.av (x : Ins) : AV := .agg [.int .i64 x.kind, .int .i64 x.cond, .int .i64 x.code, .bool x.flags, .int .i64 x.rd, .int .i64 x.rn, .int .i64 x.rs, .int .i64 x.rm, .int .u32 x.imm, .bool x.hasImm, .int .i64 x.shift, .int .i64 x.amount, .bool x.byReg, .bool x.load, .bool x.byte, .bool x.signed, .bool x.pre, .bool x.up, .bool x.back, .bool x.user, .int .i64 x.list, .bool x.link, .bool x.long, .bool x.align]
def base (w : Int) : Ins := { cond := fld w 28 4, rn := fld w 16 4, rd := fld w 12 4, rs := fld w 8 4, rm := fld w 0 4 }
def nonI (w : Int) : Ins := { cond := fld w 28 4 }
def halfI (w : Int) : Ins :=
  if (!btB w 20 && fld w 5 2 != 1) = true then nonI w else
  if btB w 22 = true then { kind := 6, cond := fld w 28 4, code := fld w 5 2, rd := fld w 12 4, rn := fld w 16 4, load := btB w 20, pre := btB w 24, up := btB w 23, back := btB w 21 || !btB w 24, hasImm := true, imm := ior .u32 (iand .u32 (ishr .u32 w 4) 240) (iand .u32 w 15) }
  else { kind := 6, cond := fld w 28 4, code := fld w 5 2, rd := fld w 12 4, rn := fld w 16 4, rm := fld w 0 4, load := btB w 20, pre := btB w 24, up := btB w 23, back := btB w 21 || !btB w 24 }
def statusI (w : Int) (imm : Bool) : Ins :=
  if (!imm && iand .u32 (ishr .u32 w 4) 0xFFFFFF == 0x12FFF1) = true then { kind := 5, cond := fld w 28 4, rm := fld w 0 4 } else
  if (!imm && iand .u32 w 0x0FBF0FFF == 0x010F0000) = true then { kind := 11, cond := fld w 28 4, rd := fld w 12 4, user := btB w 22 } else
  if (btB w 21 && fld w 12 4 == 15 && (imm || iand .u32 (ishr .u32 w 4) 255 == 0)) = true then
    if imm = true then { kind := 12, cond := fld w 28 4, user := btB w 22, list := fld w 16 4, hasImm := true, imm := iand .u32 w 255, amount := fld w 8 4 }
    else { kind := 12, cond := fld w 28 4, user := btB w 22, list := fld w 16 4, rm := fld w 0 4 }
  else nonI w
def extraI (w : Int) : Ins :=
  if (fld w 5 2 != 0) = true then halfI w else
  if (fld w 22 6 == 0) = true then { kind := 2, cond := fld w 28 4, rd := fld w 16 4, rn := fld w 12 4, rs := fld w 8 4, rm := fld w 0 4, flags := btB w 20, long := btB w 21 } else
  if (fld w 23 5 == 1) = true then { kind := 3, cond := fld w 28 4, rd := fld w 16 4, rn := fld w 12 4, rs := fld w 8 4, rm := fld w 0 4, flags := btB w 20, long := btB w 21, signed := btB w 22 } else
  if (fld w 23 5 == 2 && fld w 20 2 == 0 && fld w 8 4 == 0) = true then { kind := 4, cond := fld w 28 4, rd := fld w 12 4, rn := fld w 16 4, rm := fld w 0 4, byte := btB w 22 } else
  nonI w
def dataI (w : Int) (imm : Bool) : Ins :=
  if (ishr .i64 (fld w 21 4) 2 == 2 && !btB w 20) = true then statusI w imm else
  if imm = true then { kind := 1, cond := fld w 28 4, code := fld w 21 4, flags := btB w 20, rn := fld w 16 4, rd := fld w 12 4, hasImm := true, imm := iand .u32 w 255, amount := fld w 8 4 } else
  if btB w 4 = true then { kind := 1, cond := fld w 28 4, code := fld w 21 4, flags := btB w 20, rn := fld w 16 4, rd := fld w 12 4, rm := fld w 0 4, shift := fld w 5 2, byReg := true, rs := fld w 8 4 } else
  { kind := 1, cond := fld w 28 4, code := fld w 21 4, flags := btB w 20, rn := fld w 16 4, rd := fld w 12 4, rm := fld w 0 4, shift := fld w 5 2, amount := fld w 7 5 }
def wordI (w : Int) : Ins :=
  if (btB w 25 && btB w 4) = true then nonI w else
  if (!btB w 25) = true then { kind := 7, cond := fld w 28 4, rd := fld w 12 4, rn := fld w 16 4, load := btB w 20, byte := btB w 22, pre := btB w 24, up := btB w 23, back := btB w 21 || !btB w 24, hasImm := true, imm := iand .u32 w 0xFFF } else
  { kind := 7, cond := fld w 28 4, rd := fld w 12 4, rn := fld w 16 4, load := btB w 20, byte := btB w 22, pre := btB w 24, up := btB w 23, back := btB w 21 || !btB w 24, rm := fld w 0 4, shift := fld w 5 2, amount := fld w 7 5 }
def blockI (w : Int) : Ins := { kind := 8, cond := fld w 28 4, rn := fld w 16 4, load := btB w 20, pre := btB w 24, up := btB w 23, user := btB w 22, back := btB w 21, list := iand .u32 w 65535 }
def dec (w : Int) : Ins :=
  if (fld w 25 3 == 0) = true then (if (btB w 7 && btB w 4) = true then extraI w else dataI w false) else
  if (fld w 25 3 == 1) = true then dataI w true else
  if (fld w 25 3 == 2 || fld w 25 3 == 3) = true then wordI w else
  if (fld w 25 3 == 4) = true then blockI w else
  if (fld w 25 3 == 5) = true then { kind := 9, cond := fld w 28 4, link := btB w 24, imm := wr .u32 (ishr .i32 (wr .i32 (ishl .u32 w 8)) 6) } else
  if (fld w 25 3 == 7 && btB w 24) = true then { kind := 10, cond := fld w 28 4, imm := iand .u32 (ishr .u32 w 16) 255 } else nonI w
abbrev Sp := List AV → Heap → Tree AV
def g39 : Sp := fun args hp => match args, hp with
  | [.int .u32 w, .int .i64 a, .int .i64 n], [] => .req (0 ≤ a ∧ 0 ≤ n) (.leaf (.int .i64 (fld w a n)))
  | _, _ => .stop
def g40 : Sp := fun args hp => match args, hp with
  | [.int .u32 w, .int .i64 a], [] => .req (0 ≤ a) (.leaf (.bool (btB w a)))
  | _, _ => .stop
def g61 : Sp := fun args hp => match args, hp with
  | [.int .u32 w, x], [] => .req (x = (base w).av) (.leaf (halfI w).av)
  | _, _ => .stop
def g62 : Sp := fun args hp => match args, hp with
  | [.int .u32 w, x, .bool i], [] => .req (x = (base w).av) (.leaf (statusI w i).av)
  | _, _ => .stop
def g41 : Sp := fun args hp => match args, hp with
  | [.int .u32 w, x], [] => .req (x = (base w).av) (.leaf (extraI w).av)
  | _, _ => .stop
def g42 : Sp := fun args hp => match args, hp with
  | [.int .u32 w, x, .bool i], [] => .req (x = (base w).av) (.leaf (dataI w i).av)
  | _, _ => .stop
def g43 : Sp := fun args hp => match args, hp with
  | [.int .u32 w, x], [] => .req (x = (base w).av) (.leaf (wordI w).av)
  | _, _ => .stop
def g44 : Sp := fun args hp => match args, hp with
  | [.int .u32 w, x], [] => .req (x = (base w).av) (.leaf (blockI w).av)
  | _, _ => .stop
def g14 (d : Int → Ins) : Sp := fun args hp => match args, hp with
  | [.int .u32 w], [] => .leaf (d w).av
  | _, _ => .stop
def g13 : Sp := fun args hp => match args, hp with
  | [], [] => .leaf (.bool true)
  | _, _ => .stop
def L40 : List (FuncId × Con) := [(39, .pure g39)]
def L61 : List (FuncId × Con) := (40, .pure g40) :: L40
def L62 : List (FuncId × Con) := (61, .pure g61) :: L61
def L41 : List (FuncId × Con) := (62, .pure g62) :: L62
def L42 : List (FuncId × Con) := (41, .pure g41) :: L41
def L43 : List (FuncId × Con) := (42, .pure g42) :: L42
def L44 : List (FuncId × Con) := (43, .pure g43) :: L43
def L14 : List (FuncId × Con) := (44, .pure g44) :: L44
def L13 (d : Int → Ins) : List (FuncId × Con) := (14, .pure (g14 d)) :: L14
def L3 (d : Int → Ins) : List (FuncId × Con) := (13, .pure g13) :: L13 d
end Go.Sx.Arm
